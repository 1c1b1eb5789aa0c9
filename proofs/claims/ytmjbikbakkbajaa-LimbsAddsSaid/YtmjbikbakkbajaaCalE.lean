/-
  What the functions of caliperref02 come to: walks. No statement is proved here.
-/
import Derived.Test.YtmjbikbakkbajaaCalD
namespace Go.Proofs.Ytmjbikbakkbajaa.Vm
open Go Go.Vm
noncomputable section

/-! ### Add -/
def addC : FnC := fun ds κ => match ds with
  | [.w .u64 xs, .w .u64 ys] => cond (decide (xs.length ≤ 549755813888 ∧ ys.length ≤ 549755813888)) (κ [(.mine, .w .u64 (words (val xs + val ys)))]) none
  | _ => none
def addL : LpC := lpC 37 [0, 1, 5, 6, 16, 17] fun vs m κ => match vs, m with
  | [.o (.f 0), .o (.f 1), .o (.f 2), .o (.p (.int .u64 c)), .o (.p (.int .i64 n)), .o (.p (.int .i64 i))], [(_, .w .u64 _ xs), (_, .w .u64 _ ys), (.mine, .w .u64 n3 _)] =>
    cond (decide (c = 0 ∧ n = (n3 : Int) ∧ i = 0)) (κ (.exit 0) (lay 37 [5] [.o (.f 0)]) [(.mine, .w .u64 n3 (wordsN n3 (val xs + val ys)))]) none
  | _, _ => none
def addE : Env := mkE ty [(77, wordC), (70, add64C), (97, trimC)] [(0, addL)] [(0, [0, 1, 5, 6, 16, 17])] [(0, [5])] 0 (fun _ => false)
def addSt (c n i : Int) : List V := lay 37 [0, 1, 5, 6, 16, 17] [.o (.f 0), .o (.f 1), .o (.f 2), .o (.p (.int .u64 c)), .o (.p (.int .i64 n)), .o (.p (.int .i64 i))]
theorem add_round (c n i : Int) (o o' : Own) (n1 n2 n3 : Nat) (xs ys out : List Int) (f : Nat) (κ : X → List V → Mem → R) :
    lx addE Try.f72 0 (f + 1) (addSt c n i) [(o, .w .u64 n1 xs), (o', .w .u64 n2 ys), (.mine, .w .u64 n3 out)] κ =
      cond (decide (i < n)) (cond (decide (c ≤ 1)) (cond (decide (0 ≤ i ∧ i < (n3 : Int))) (cond (decide (i.toNat < n3 ∧ IntKind.u64 = IntKind.u64 ∧ (Ty.i .u64).size = 1))
        (lx addE Try.f72 0 f (addSt ((wordI xs i + wordI ys i + c) / 18446744073709551616) n (IntKind.i64.wrap (i + 1))) [(o, .w .u64 n1 xs), (o', .w .u64 n2 ys), (.mine, .w .u64 n3 (out.set i.toNat ((wordI xs i + wordI ys i + c) % 18446744073709551616)))] κ) none) none) none)
      (κ (.exit 0) (lay 37 [5] [.o (.f 0)]) [(.mine, .w .u64 n3 out)]) := by kernel_rfl
theorem add_loop (xs ys : List Int) (hx : inR .u64 xs) (hy : inR .u64 ys) (o o' : Own) (n1 n2 n3 : Nat) (h3 : n3 ≤ 140737488355328) (κ : X → List V → Mem → R) : ∀ (k i : Nat) (c : Nat) (out : List Int), i + k = n3 → c ≤ 1 → inR .u64 out → out.length = n3 →
    val (out.take i) + 18446744073709551616 ^ i * c = val xs % 18446744073709551616 ^ i + val ys % 18446744073709551616 ^ i →
    lx addE Try.f72 0 (k + 1) (addSt c n3 i) [(o, .w .u64 n1 xs), (o', .w .u64 n2 ys), (.mine, .w .u64 n3 out)] κ = κ (.exit 0) (lay 37 [5] [.o (.f 0)]) [(.mine, .w .u64 n3 (wordsN n3 (val xs + val ys)))] := by
  intro k
  induction k with
  | zero =>
    intro i c out hi hc hR hl hv
    rw [add_round, decide_eq_false (by omega), cond_false]
    have : out = wordsN n3 (val xs + val ys) := by
      refine wordsN_mod n3 _ ▸ wordsN_eq hR hl ?_
      have hi : i = n3 := by omega
      subst hi
      rw [List.take_of_length_le (by omega)] at hv
      have hlt := val_lt hR
      rw [hl] at hlt
      rw [Nat.add_mod, ← hv, Nat.add_mul_mod_self_left, Nat.mod_eq_of_lt hlt]
    rw [← this]
  | succ k ih =>
    intro i c out hi hc hR hl hv
    have e1 : ((i : Nat) : Int).toNat = i := Int.toNat_natCast i
    rw [add_round, wordI_nat, wordI_nat, decide_eq_true (by omega), cond_true, decide_eq_true (by omega), cond_true, decide_eq_true (by omega), cond_true, e1, decide_eq_true ⟨by omega, rfl, rfl⟩, cond_true, i64_wrap (by omega) (by omega)]
    have ax := inR_at hx i
    have ay := inR_at hy i
    generalize hX : xs.getD i 0 = x at *
    generalize hY : ys.getD i 0 = y at *
    have ec : (x + y + (c : Int)) / 18446744073709551616 = (((x.toNat + y.toNat + c) / 18446744073709551616 : Nat) : Int) := by omega
    have es : ((x + y + (c : Int)) % 18446744073709551616).toNat = (x.toNat + y.toNat + c) % 18446744073709551616 := by omega
    rw [ec]
    refine ih (i + 1) _ _ (by omega) (by omega) (inR_set hR i (by omega) (by omega)) (by simpa using hl) ?_
    rw [val_take_set (by omega), es, mod_step_at hx, mod_step_at hy, hX, hY, Nat.pow_succ]
    exact carry_step hv (by omega)
theorem addL_ok : LoopOK addE 0 (lbody Try.f72 0) addL := loopOK_lx fun vs m κ r hv hm h => by
  split at h
  case h_2 => cases h
  rename_i c n i o n1 xs o' n2 ys n3 out
  replace h := cond_none h
  obtain ⟨hc, h⟩ := h
  obtain ⟨rfl, rfl, rfl⟩ := of_decide_eq_true hc
  have hx := hm 0 _ _ rfl
  have hy := hm 1 _ _ rfl
  have hz := hm 2 _ _ rfl
  have h47 : lim = 140737488355328 := by decide
  exact ⟨_, (add_loop xs ys hx.2.2 hy.2.2 o o' n1 n2 n3 (by have := hz.2.1; omega) κ n3 0 0 out (by omega) (by omega) hz.2.2 hz.1 (by simp [val, Nat.mod_one])).trans h⟩
theorem add_ev (xs ys : List Int) : evFn addE Try.f72 [.w .u64 xs, .w .u64 ys] =
    let l := IntKind.i64.wrap ((if (ys.length : Int) > (xs.length : Int) then (ys.length : Int) else (xs.length : Int)) + 1)
    cond (decide (0 ≤ l ∧ l ≤ l ∧ l ≤ 17592186044416)) (cond (decide ((0 : Int) = 0 ∧ (l.toNat : Int) = (l.toNat : Int) ∧ (0 : Int) = 0))
      (cond (decide ((wordsN l.toNat (val xs + val ys)).length ≤ 1099511627776)) (some [(.mine, .w .u64 (words (val (wordsN l.toNat (val xs + val ys)))))]) none) none) none := by kernel_rfl
theorem add_he : ∀ ds κ r, (∀ d ∈ ds, d.wf) → addC ds κ = some r → ∃ res, κ res = some r ∧ evFn addE Try.f72 ds = some res := fun ds κ r hw h => by
  unfold addC at h
  split at h
  case h_2 => cases h
  rename_i xs ys
  obtain ⟨hc, h⟩ := cond_none h
  have hc := of_decide_eq_true hc
  have hx := (wfW hw (xs := xs) (by simp)).2
  have hy := (wfW hw (xs := ys) (by simp)).2
  refine ⟨_, h, (add_ev xs ys).trans ?_⟩
  generalize hm : (if (ys.length : Int) > (xs.length : Int) then (ys.length : Int) else (xs.length : Int)) = mx
  have hmx : (xs.length : Int) ≤ mx ∧ (ys.length : Int) ≤ mx ∧ mx ≤ 549755813888 := by split at hm <;> omega
  rw [i64_wrap (by omega) (by omega)]
  have hlt : val xs + val ys < 18446744073709551616 ^ (mx + 1).toNat := by
    have h1 : val xs < 18446744073709551616 ^ mx.toNat := Nat.lt_of_lt_of_le (val_lt hx) (Nat.pow_le_pow_right (by decide) (by omega))
    have h2 : val ys < 18446744073709551616 ^ mx.toNat := Nat.lt_of_lt_of_le (val_lt hy) (Nat.pow_le_pow_right (by decide) (by omega))
    rw [show (mx + 1).toNat = mx.toNat + 1 from by omega, Nat.pow_succ]
    omega
  simp only [length_wordsN, val_wordsN]
  rw [Nat.mod_eq_of_lt hlt, decide_eq_true (by omega), cond_true, decide_eq_true ⟨trivial, trivial, trivial⟩, cond_true, decide_eq_true (by omega), cond_true]
theorem add_fn : FnOK Try.prog 72 addC := fnOK_mk T mixed Try.func72 (by kernel_rfl) (fns := [(77, wordC), (70, add64C), (97, trimC)]) (lps := [(0, addL)]) (live := [(0, [0, 1, 5, 6, 16, 17])]) (out := [(0, [5])]) (fuel := 0) (give := (fun _ => false)) ⟨word_fn, add64_fn, trim_fn, trivial⟩ ⟨addL_ok, trivial⟩ add_he

/-! ### Less -/
def lessC : FnC := fun ds κ => match ds with
  | [.w .u64 xs, .w .u64 ys] => cond (decide (xs.length ≤ 549755813888 ∧ ys.length ≤ 549755813888 ∧ val ys ≤ val xs)) (κ [(.mine, .w .u64 (words (val xs - val ys)))]) none
  | _ => none
def lessL : LpC := lpC 36 [0, 1, 5, 6, 15, 16] fun vs m κ => match vs, m with
  | [.o (.f 0), .o (.f 1), .o (.f 2), .o (.p (.int .u64 c)), .o (.p (.int .i64 n)), .o (.p (.int .i64 i))], [(_, .w .u64 n1 xs), (_, .w .u64 n2 ys), (.mine, .w .u64 n3 _)] =>
    cond (decide (c = 0 ∧ n = (n3 : Int) ∧ i = 0 ∧ n1 ≤ n3 ∧ n2 ≤ n3 ∧ val ys ≤ val xs)) (κ (.exit 0) (lay 36 [5] [.o (.f 0)]) [(.mine, .w .u64 n3 (wordsN n3 (val xs - val ys)))]) none
  | _, _ => none
def lessE : Env := mkE ty [(77, wordC), (76, sub64C), (97, trimC)] [(0, lessL)] [(0, [0, 1, 5, 6, 15, 16])] [(0, [5])] 0 (fun _ => false)
def lessSt (c n i : Int) : List V := lay 36 [0, 1, 5, 6, 15, 16] [.o (.f 0), .o (.f 1), .o (.f 2), .o (.p (.int .u64 c)), .o (.p (.int .i64 n)), .o (.p (.int .i64 i))]
theorem less_round (c n i : Int) (o o' : Own) (n1 n2 n3 : Nat) (xs ys out : List Int) (f : Nat) (κ : X → List V → Mem → R) :
    lx lessE Try.f79 0 (f + 1) (lessSt c n i) [(o, .w .u64 n1 xs), (o', .w .u64 n2 ys), (.mine, .w .u64 n3 out)] κ =
      cond (decide (i < n)) (cond (decide (c ≤ 1)) (cond (decide (0 ≤ i ∧ i < (n3 : Int))) (cond (decide (i.toNat < n3 ∧ IntKind.u64 = IntKind.u64 ∧ (Ty.i .u64).size = 1))
        (lx lessE Try.f79 0 f (lessSt (-((wordI xs i - wordI ys i - c) / 18446744073709551616)) n (IntKind.i64.wrap (i + 1))) [(o, .w .u64 n1 xs), (o', .w .u64 n2 ys), (.mine, .w .u64 n3 (out.set i.toNat ((wordI xs i - wordI ys i - c) % 18446744073709551616)))] κ) none) none) none)
      (κ (.exit 0) (lay 36 [5] [.o (.f 0)]) [(.mine, .w .u64 n3 out)]) := by kernel_rfl
theorem less_loop (xs ys : List Int) (hx : inR .u64 xs) (hy : inR .u64 ys) (o o' : Own) (n1 n2 n3 : Nat) (h3 : n3 ≤ 140737488355328) (hxl : xs.length ≤ n3) (hyl : ys.length ≤ n3) (hle : val ys ≤ val xs) (κ : X → List V → Mem → R) : ∀ (k i : Nat) (c : Nat) (out : List Int), i + k = n3 → c ≤ 1 → inR .u64 out → out.length = n3 →
    val (out.take i) + val ys % 18446744073709551616 ^ i = val xs % 18446744073709551616 ^ i + 18446744073709551616 ^ i * c →
    lx lessE Try.f79 0 (k + 1) (lessSt c n3 i) [(o, .w .u64 n1 xs), (o', .w .u64 n2 ys), (.mine, .w .u64 n3 out)] κ = κ (.exit 0) (lay 36 [5] [.o (.f 0)]) [(.mine, .w .u64 n3 (wordsN n3 (val xs - val ys)))] := by
  intro k
  induction k with
  | zero =>
    intro i c out hi hc hR hl hv
    rw [less_round, decide_eq_false (by omega), cond_false]
    have : out = wordsN n3 (val xs - val ys) := by
      refine wordsN_eq hR hl ?_
      have hi : i = n3 := by omega
      subst hi
      rw [List.take_of_length_le (by omega)] at hv
      have hlt := val_lt hR
      rw [hl] at hlt
      have hxlt : val xs < 18446744073709551616 ^ i := Nat.lt_of_lt_of_le (val_lt hx) (Nat.pow_le_pow_right (by decide) hxl)
      rw [Nat.mod_eq_of_lt hxlt, Nat.mod_eq_of_lt (by omega)] at hv
      have : c = 0 ∨ c = 1 := by omega
      rcases this with rfl | rfl
      · omega
      · omega
    rw [← this]
  | succ k ih =>
    intro i c out hi hc hR hl hv
    have e1 : ((i : Nat) : Int).toNat = i := Int.toNat_natCast i
    rw [less_round, wordI_nat, wordI_nat, decide_eq_true (by omega), cond_true, decide_eq_true (by omega), cond_true, decide_eq_true (by omega), cond_true, e1, decide_eq_true ⟨by omega, rfl, rfl⟩, cond_true, i64_wrap (by omega) (by omega)]
    have ax := inR_at hx i
    have ay := inR_at hy i
    generalize hX : xs.getD i 0 = x at *
    generalize hY : ys.getD i 0 = y at *
    obtain ⟨b, hb⟩ : ∃ b : Nat, -((x - y - (c : Int)) / 18446744073709551616) = (b : Int) := ⟨(-((x - y - (c : Int)) / 18446744073709551616)).toNat, by omega⟩
    have es : ((x - y - (c : Int)) % 18446744073709551616).toNat + y.toNat + c = x.toNat + 18446744073709551616 * b := by omega
    rw [hb]
    refine ih (i + 1) _ _ (by omega) (by omega) (inR_set hR i (by omega) (by omega)) (by simpa using hl) ?_
    rw [val_take_set (by omega), mod_step_at hx, mod_step_at hy, hX, hY, Nat.pow_succ]
    exact borrow_step hv es
theorem lessL_ok : LoopOK lessE 0 (lbody Try.f79 0) lessL := loopOK_lx fun vs m κ r hv hm h => by
  split at h
  case h_2 => cases h
  rename_i c n i o n1 xs o' n2 ys n3 out
  replace h := cond_none h
  obtain ⟨hc, h⟩ := h
  obtain ⟨rfl, rfl, rfl, h1, h2, hle⟩ := of_decide_eq_true hc
  have hx := hm 0 _ _ rfl
  have hy := hm 1 _ _ rfl
  have hz := hm 2 _ _ rfl
  have h47 : lim = 140737488355328 := by decide
  exact ⟨_, (less_loop xs ys hx.2.2 hy.2.2 o o' n1 n2 n3 (by have := hz.2.1; omega) (by have := hx.1; omega) (by have := hy.1; omega) hle κ n3 0 0 out (by omega) (by omega) hz.2.2 hz.1 (by simp [val, Nat.mod_one])).trans h⟩
theorem less_ev (xs ys : List Int) : evFn lessE Try.f79 [.w .u64 xs, .w .u64 ys] =
    let l := (if (ys.length : Int) > (xs.length : Int) then (ys.length : Int) else (xs.length : Int))
    cond (decide (0 ≤ l ∧ l ≤ l ∧ l ≤ 17592186044416)) (cond (decide ((0 : Int) = 0 ∧ (l.toNat : Int) = (l.toNat : Int) ∧ (0 : Int) = 0 ∧ xs.length ≤ l.toNat ∧ ys.length ≤ l.toNat ∧ val ys ≤ val xs))
      (cond (decide ((wordsN l.toNat (val xs - val ys)).length ≤ 1099511627776)) (some [(.mine, .w .u64 (words (val (wordsN l.toNat (val xs - val ys)))))]) none) none) none := by kernel_rfl
theorem less_he : ∀ ds κ r, (∀ d ∈ ds, d.wf) → lessC ds κ = some r → ∃ res, κ res = some r ∧ evFn lessE Try.f79 ds = some res := fun ds κ r hw h => by
  unfold lessC at h
  split at h
  case h_2 => cases h
  rename_i xs ys
  obtain ⟨hc, h⟩ := cond_none h
  have hc := of_decide_eq_true hc
  have hx := (wfW hw (xs := xs) (by simp)).2
  have hy := (wfW hw (xs := ys) (by simp)).2
  refine ⟨_, h, (less_ev xs ys).trans ?_⟩
  generalize hm : (if (ys.length : Int) > (xs.length : Int) then (ys.length : Int) else (xs.length : Int)) = mx
  have hmx : (xs.length : Int) ≤ mx ∧ (ys.length : Int) ≤ mx ∧ mx ≤ 549755813888 := by split at hm <;> omega
  have hlt : val xs - val ys < 18446744073709551616 ^ mx.toNat := by
    have h1 : val xs < 18446744073709551616 ^ mx.toNat := Nat.lt_of_lt_of_le (val_lt hx) (Nat.pow_le_pow_right (by decide) (by omega))
    omega
  simp only [length_wordsN, val_wordsN]
  rw [Nat.mod_eq_of_lt hlt, decide_eq_true (by omega), cond_true, decide_eq_true ⟨trivial, trivial, trivial, by omega, by omega, hc.2.2⟩, cond_true, decide_eq_true (by omega), cond_true]
theorem less_fn : FnOK Try.prog 79 lessC := fnOK_mk T mixed Try.func79 (by kernel_rfl) (fns := [(77, wordC), (76, sub64C), (97, trimC)]) (lps := [(0, lessL)]) (live := [(0, [0, 1, 5, 6, 15, 16])]) (out := [(0, [5])]) (fuel := 0) (give := (fun _ => false)) ⟨word_fn, sub64_fn, trim_fn, trivial⟩ ⟨lessL_ok, trivial⟩ less_he
end
end Go.Proofs.Ytmjbikbakkbajaa.Vm
