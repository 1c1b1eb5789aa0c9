/-
  Interchange formats: fields of a pattern, the table of the formats. No statement is proved here.
-/
import Derived.Test.YtdpcokahhleopaaCalLOf4
import Derived.Test.YtdpcokahhleopaaCalLLen4
import Derived.Test.YtdpcokahhleopaaCalLBit4
import Derived.Test.YtdpcokahhleopaaCalLShl4
import Derived.Test.YtdpcokahhleopaaCalLShr4
import Derived.Test.YtdpcokahhleopaaCalLSub4
namespace Go.Proofs.Ytdpcokahhleopaa.Vm
open Go Go.Vm
noncomputable section

theorem fnOK_or {P : Program} {f : FuncId} {F G H : FnC} (h1 : FnOK P f F) (h2 : FnOK P f G) (h : ∀ ds κ r, H ds κ = some r → F ds κ = some r ∨ G ds κ = some r) : FnOK P f H := fun ds κ r hw hr => by
  rcases h ds κ r hr with h | h
  · exact h1 ds κ r hw h
  · exact h2 ds κ r hw h

/-! ### numbers of four words -/
theorem pow4 : (18446744073709551616 : Nat) ^ 4 = 2 ^ 256 := by
  have e : (18446744073709551616 : Nat) = 2 ^ 64 := by decide
  rw [e, ← Nat.pow_mul]
theorem len4 {xs : List Int} (h : xs.length = 4) : xs = [xs.getD 0 0, xs.getD 1 0, xs.getD 2 0, xs.getD 3 0] := by
  match xs, h with
  | [_, _, _, _], _ => rfl
theorem zipW {f : Int → Int → Int} {g : Nat → Nat → Nat} (h0 : g 0 0 = 0)
    (hf : ∀ a b : Nat, a < 18446744073709551616 → b < 18446744073709551616 → f (a : Int) (b : Int) = ((g a b : Nat) : Int))
    (hm : ∀ a b : Nat, g a b % 18446744073709551616 = g (a % 18446744073709551616) (b % 18446744073709551616)) (hd : ∀ a b : Nat, g a b / 18446744073709551616 = g (a / 18446744073709551616) (b / 18446744073709551616)) :
    ∀ {xs ys : List Int}, inR .u64 xs → inR .u64 ys → xs.length = ys.length → List.zipWith f xs ys = wordsN xs.length (g (val xs) (val ys))
  | [], [], _, _, _ => rfl
  | x :: xs, y :: ys, hx, hy, hl => by
    obtain ⟨⟨x0, x1⟩, hx2⟩ := inR_cons hx
    obtain ⟨⟨y0, y1⟩, hy2⟩ := inR_cons hy
    obtain ⟨a, rfl⟩ := Int.eq_ofNat_of_zero_le x0
    obtain ⟨b, rfl⟩ := Int.eq_ofNat_of_zero_le y0
    have ha : a < 18446744073709551616 := by omega
    have hb : b < 18446744073709551616 := by omega
    have e0 : List.zipWith f ((a : Int) :: xs) ((b : Int) :: ys) = f a b :: List.zipWith f xs ys := rfl
    rw [e0, zipW h0 hf hm hd hx2 hy2 (by simpa using hl), hf a b ha hb, List.length_cons]
    show _ = (((g (val ((a : Int) :: xs)) (val ((b : Int) :: ys))) % 18446744073709551616 : Nat) : Int) :: wordsN xs.length (g (val ((a : Int) :: xs)) (val ((b : Int) :: ys)) / 18446744073709551616)
    have e1 : val ((a : Int) :: xs) = a + 18446744073709551616 * val xs := rfl
    have e2 : val ((b : Int) :: ys) = b + 18446744073709551616 * val ys := rfl
    rw [hm, hd, e1, e2, Nat.add_mul_mod_self_left, Nat.add_mul_mod_self_left, Nat.mod_eq_of_lt ha, Nat.mod_eq_of_lt hb, Nat.add_mul_div_left _ _ (by decide), Nat.add_mul_div_left _ _ (by decide), Nat.div_eq_of_lt ha, Nat.div_eq_of_lt hb, Nat.zero_add, Nat.zero_add]
theorem zipAnd {xs ys : List Int} (hx : inR .u64 xs) (hy : inR .u64 ys) (hl : xs.length = ys.length) : List.zipWith (Go.bits .and .u64) xs ys = wordsN xs.length (val xs &&& val ys) :=
  zipW (g := (· &&& ·)) (by decide) (fun a b ha hb => u64_and_nat a b ha hb) (fun a b => Nat.and_mod_two_pow (n := 64)) (fun a b => Nat.and_div_two_pow (n := 64)) hx hy hl
theorem zipOr {xs ys : List Int} (hx : inR .u64 xs) (hy : inR .u64 ys) (hl : xs.length = ys.length) : List.zipWith (Go.bits .or .u64) xs ys = wordsN xs.length (val xs ||| val ys) :=
  zipW (g := (· ||| ·)) (by decide) (fun a b ha hb => u64_or_nat a b ha hb) (fun a b => Nat.or_mod_two_pow (n := 64)) (fun a b => Nat.or_div_two_pow (n := 64)) hx hy hl
theorem val_lt4 {xs : List Int} (h : inR .u64 xs) (hl : xs.length = 4) : val xs < 2 ^ 256 := by
  have := val_lt h
  rwa [hl, pow4] at this
theorem val4 (n : Nat) : val (wordsN 4 n) = n % 2 ^ 256 := by rw [val_wordsN, pow4]
theorem wordsN4_mod (n : Nat) : wordsN 4 (n % 2 ^ 256) = wordsN 4 n := by rw [← pow4, wordsN_mod]

/-! ### and, or -/
def bAndC : FnC := fun ds κ => match ds with
  | [.r .u64 4 xs, .r .u64 4 ys] => κ [(.mine, .r .u64 4 (wordsN 4 (val xs &&& val ys)))]
  | _ => none
def bAndE : Env := mkE ty [] [] [(0, [2, 3, 4, 6])] [(0, [2, 4])] 5 (fun _ => false)
theorem bAnd_ev (a b c d e f g h : Int) : evFn bAndE Try.f90 [.r .u64 4 [a, b, c, d], .r .u64 4 [e, f, g, h]] = some [(.mine, .r .u64 4 (List.zipWith (Go.bits .and .u64) [a, b, c, d] [e, f, g, h]))] := by kernel_rfl
theorem bAnd_he : ∀ ds κ r, (∀ d ∈ ds, d.wf) → bAndC ds κ = some r → ∃ res, κ res = some r ∧ evFn bAndE Try.f90 ds = some res := fun ds κ r hw h => by
  unfold bAndC at h
  split at h
  case h_2 => cases h
  rename_i xs ys
  refine ⟨_, h, ?_⟩
  obtain ⟨hl, hx⟩ := wfR hw (xs := xs) (n := 4) (by simp)
  obtain ⟨hl', hy⟩ := wfR hw (xs := ys) (n := 4) (by simp)
  have key := bAnd_ev (xs.getD 0 0) (xs.getD 1 0) (xs.getD 2 0) (xs.getD 3 0) (ys.getD 0 0) (ys.getD 1 0) (ys.getD 2 0) (ys.getD 3 0)
  rw [← len4 hl, ← len4 hl', zipAnd hx hy (by omega), hl] at key
  exact key
theorem bAnd_fn : FnOK Try.prog 90 bAndC := fnOK_mk T mixed Try.func90 (by kernel_rfl) (fns := []) (lps := []) (live := [(0, [2, 3, 4, 6])]) (out := [(0, [2, 4])]) (fuel := 5) (give := (fun _ => false)) trivial trivial bAnd_he
def bOrC : FnC := fun ds κ => match ds with
  | [.r .u64 4 xs, .r .u64 4 ys] => κ [(.mine, .r .u64 4 (wordsN 4 (val xs ||| val ys)))]
  | _ => none
def bOrE : Env := mkE ty [] [] [(0, [2, 3, 4, 6])] [(0, [2, 4])] 5 (fun _ => false)
theorem bOr_ev (a b c d e f g h : Int) : evFn bOrE Try.f93 [.r .u64 4 [a, b, c, d], .r .u64 4 [e, f, g, h]] = some [(.mine, .r .u64 4 (List.zipWith (Go.bits .or .u64) [a, b, c, d] [e, f, g, h]))] := by kernel_rfl
theorem bOr_he : ∀ ds κ r, (∀ d ∈ ds, d.wf) → bOrC ds κ = some r → ∃ res, κ res = some r ∧ evFn bOrE Try.f93 ds = some res := fun ds κ r hw h => by
  unfold bOrC at h
  split at h
  case h_2 => cases h
  rename_i xs ys
  refine ⟨_, h, ?_⟩
  obtain ⟨hl, hx⟩ := wfR hw (xs := xs) (n := 4) (by simp)
  obtain ⟨hl', hy⟩ := wfR hw (xs := ys) (n := 4) (by simp)
  have key := bOr_ev (xs.getD 0 0) (xs.getD 1 0) (xs.getD 2 0) (xs.getD 3 0) (ys.getD 0 0) (ys.getD 1 0) (ys.getD 2 0) (ys.getD 3 0)
  rw [← len4 hl, ← len4 hl', zipOr hx hy (by omega), hl] at key
  exact key
theorem bOr_fn : FnOK Try.prog 93 bOrC := fnOK_mk T mixed Try.func93 (by kernel_rfl) (fns := []) (lps := []) (live := [(0, [2, 3, 4, 6])]) (out := [(0, [2, 4])]) (fuel := 5) (give := (fun _ => false)) trivial trivial bOr_he

/-! ### mask, Of, Field, Lay -/
theorem one_lt256 : (1 : Nat) < 2 ^ 256 := Nat.one_lt_two_pow (by decide)
def bMaskC : FnC := fun ds κ => match ds with
  | [.p (.int .i64 n)] => cond (decide (n ≤ 256)) (κ [(.mine, .r .u64 4 (wordsN 4 (2 ^ n.toNat - 1)))]) none
  | _ => none
def bMaskE : Env := mkE ty [(106, of4C), (94, lShl4C), (105, lSub4C)] [] [] [] 0 (fun _ => false)
theorem bMask_ev (n : Int) : evFn bMaskE Try.f92 [.p (.int .i64 n)] =
    cond (decide (n ≥ 256)) (some [(.mine, .r .u64 4 (wordsN 4 (val [0, 0, 0, 0] + (18446744073709551616 ^ 4 - val (wordsN 4 (1 : Int).toNat)))))])
      (some [(.mine, .r .u64 4 (wordsN 4 (val (wordsN 4 (val (wordsN 4 (1 : Int).toNat) * 2 ^ n.toNat)) + (18446744073709551616 ^ 4 - val (wordsN 4 (1 : Int).toNat)))))]) := by kernel_rfl
theorem bMask_he : ∀ ds κ r, (∀ d ∈ ds, d.wf) → bMaskC ds κ = some r → ∃ res, κ res = some r ∧ evFn bMaskE Try.f92 ds = some res := fun ds κ r hw h => by
  unfold bMaskC at h
  split at h
  case h_2 => cases h
  rename_i n
  replace h := cond_none h
  obtain ⟨hc, h⟩ := h
  have hc := of_decide_eq_true hc
  refine ⟨_, h, (bMask_ev n).trans ?_⟩
  have e1 : val (wordsN 4 (1 : Int).toNat) = 1 := by
    rw [val4]
    exact Nat.mod_eq_of_lt one_lt256
  have h1 := one_lt256
  rw [e1, pow4]
  by_cases h2 : n ≥ 256
  · obtain rfl : n = 256 := by omega
    rw [decide_eq_true h2, cond_true]
    have e2 : val [0, 0, 0, 0] = 0 := rfl
    rw [e2, Nat.zero_add]
    rfl
  · rw [decide_eq_false h2, cond_false, Nat.one_mul, val4]
    have h3 : 2 ^ n.toNat < 2 ^ 256 := Nat.pow_lt_pow_right (by decide) (by omega)
    have h4 : 0 < 2 ^ n.toNat := Nat.two_pow_pos _
    rw [Nat.mod_eq_of_lt h3]
    generalize 2 ^ n.toNat = q at *
    rw [← wordsN4_mod]
    generalize 2 ^ 256 = P at *
    have e3 : q + (P - 1) = (q - 1) + P := by omega
    rw [e3, Nat.add_mod_right, Nat.mod_eq_of_lt (by omega)]
theorem bMask_fn : FnOK Try.prog 92 bMaskC := fnOK_mk T mixed Try.func92 (by kernel_rfl) (fns := [(106, of4C), (94, lShl4C), (105, lSub4C)]) (lps := []) (live := []) (out := []) (fuel := 0) (give := (fun _ => false)) ⟨of4_fn, lShl4_fn, lSub4_fn, trivial⟩ trivial bMask_he
def bOfC : FnC := fun ds κ => match ds with
  | [.p (.int .i64 n)] => cond (decide (0 ≤ n)) (κ [(.mine, .r .u64 4 (wordsN 4 n.toNat))]) none
  | _ => none
def bOfE : Env := mkE ty [] [] [] [] 0 (fun _ => false)
theorem bOf_ev (n : Int) : evFn bOfE Try.f63 [.p (.int .i64 n)] = some [(.mine, .r .u64 4 [IntKind.u64.wrap n, 0, 0, 0])] := by kernel_rfl
theorem bOf_he : ∀ ds κ r, (∀ d ∈ ds, d.wf) → bOfC ds κ = some r → ∃ res, κ res = some r ∧ evFn bOfE Try.f63 ds = some res := fun ds κ r hw h => by
  unfold bOfC at h
  split at h
  case h_2 => cases h
  rename_i n
  replace h := cond_none h
  obtain ⟨hc, h⟩ := h
  have hc := of_decide_eq_true hc
  refine ⟨_, h, (bOf_ev n).trans ?_⟩
  have hn := wfI hw (x := n) (by simp)
  rw [u64_wrap hc (by omega)]
  have e : [n, 0, 0, 0] = wordsN 4 n.toNat := wordsN_eq (by
    intro y hy
    rcases List.mem_cons.1 hy with rfl | hy
    · exact u64_iff.2 ⟨hc, by omega⟩
    · exact inR_rep 3 y hy) rfl (by show n.toNat + 18446744073709551616 * val [0, 0, 0] = n.toNat; rfl)
  rw [e]
theorem bOf_fn : FnOK Try.prog 63 bOfC := fnOK_mk T mixed Try.func63 (by kernel_rfl) (fns := []) (lps := []) (live := []) (out := []) (fuel := 0) (give := (fun _ => false)) trivial trivial bOf_he
def bFieldC : FnC := fun ds κ => match ds with
  | [.r .u64 4 b, .p (.int .i64 p), .p (.int .i64 n)] => cond (decide (n ≤ 256)) (κ [(.mine, .r .u64 4 (wordsN 4 (val b / 2 ^ p.toNat % 2 ^ n.toNat)))]) none
  | _ => none
def bFieldE : Env := mkE ty [(91, lShr4C), (92, bMaskC), (90, bAndC)] [] [] [] 0 (fun _ => false)
theorem bField_ev (b : List Int) (p n : Int) : evFn bFieldE Try.f60 [.r .u64 4 b, .p (.int .i64 p), .p (.int .i64 n)] =
    cond (decide (n ≤ 256)) (some [(.mine, .r .u64 4 (wordsN 4 (val (wordsN 4 (val b / 2 ^ p.toNat)) &&& val (wordsN 4 (2 ^ n.toNat - 1)))))]) none := by kernel_rfl
theorem bField_he : ∀ ds κ r, (∀ d ∈ ds, d.wf) → bFieldC ds κ = some r → ∃ res, κ res = some r ∧ evFn bFieldE Try.f60 ds = some res := fun ds κ r hw h => by
  unfold bFieldC at h
  split at h
  case h_2 => cases h
  rename_i b p n
  replace h := cond_none h
  obtain ⟨hc, h⟩ := h
  refine ⟨_, h, (bField_ev b p n).trans ?_⟩
  rw [hc, cond_true]
  have hc := of_decide_eq_true hc
  obtain ⟨hl, hx⟩ := wfR hw (xs := b) (n := 4) (by simp)
  have h1 := val_lt4 hx hl
  have h2 : val b / 2 ^ p.toNat < 2 ^ 256 := Nat.lt_of_le_of_lt (Nat.div_le_self _ _) h1
  have h3 : 2 ^ n.toNat ≤ 2 ^ 256 := Nat.pow_le_pow_right (by decide) (by omega)
  have h4 : 0 < 2 ^ n.toNat := Nat.two_pow_pos _
  rw [val4, val4, Nat.mod_eq_of_lt h2, Nat.mod_eq_of_lt (a := 2 ^ n.toNat - 1) (by omega), Nat.and_two_pow_sub_one_eq_mod]
theorem bField_fn : FnOK Try.prog 60 bFieldC := fnOK_mk T mixed Try.func60 (by kernel_rfl) (fns := [(91, lShr4C), (92, bMaskC), (90, bAndC)]) (lps := []) (live := []) (out := []) (fuel := 0) (give := (fun _ => false)) ⟨lShr4_fn, bMask_fn, bAnd_fn, trivial⟩ trivial bField_he
def bLayC : FnC := fun ds κ => match ds with
  | [.r .u64 4 b, .r .u64 4 f, .p (.int .i64 p)] => κ [(.mine, .r .u64 4 (wordsN 4 (val b ||| val f * 2 ^ p.toNat)))]
  | _ => none
def bLayE : Env := mkE ty [(94, lShl4C), (93, bOrC)] [] [] [] 0 (fun _ => false)
theorem bLay_ev (b f : List Int) (p : Int) : evFn bLayE Try.f62 [.r .u64 4 b, .r .u64 4 f, .p (.int .i64 p)] =
    some [(.mine, .r .u64 4 (wordsN 4 (val b ||| val (wordsN 4 (val f * 2 ^ p.toNat)))))] := by kernel_rfl
theorem bLay_he : ∀ ds κ r, (∀ d ∈ ds, d.wf) → bLayC ds κ = some r → ∃ res, κ res = some r ∧ evFn bLayE Try.f62 ds = some res := fun ds κ r hw h => by
  unfold bLayC at h
  split at h
  case h_2 => cases h
  rename_i b f p
  refine ⟨_, h, (bLay_ev b f p).trans ?_⟩
  obtain ⟨hl, hx⟩ := wfR hw (xs := b) (n := 4) (by simp)
  have h1 := val_lt4 hx hl
  rw [val4, ← wordsN4_mod, Nat.or_mod_two_pow, Nat.mod_mod, ← Nat.or_mod_two_pow, wordsN4_mod]
theorem bLay_fn : FnOK Try.prog 62 bLayC := fnOK_mk T mixed Try.func62 (by kernel_rfl) (fns := [(94, lShl4C), (93, bOrC)]) (lps := []) (live := []) (out := []) (fuel := 0) (give := (fun _ => false)) ⟨lShl4_fn, bOr_fn, trivial⟩ trivial bLay_he
end
end Go.Proofs.Ytdpcokahhleopaa.Vm
