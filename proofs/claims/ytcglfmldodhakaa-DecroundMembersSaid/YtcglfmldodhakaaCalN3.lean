/-
  Quotients by one word, and by many, bit by bit (package ref02). No statement is proved here.
-/
import Derived.Test.YtcglfmldodhakaaCalN2
import Derived.Test.YtcglfmldodhakaaCalS
namespace Go.Proofs.Ytcglfmldodhakaa.Vm
open Go Go.Vm
noncomputable section
set_option linter.unusedVariables false

/-! ### nat.word -/
def nWordC : FnC := fun ds κ => match ds with
  | [.w .u64 xs, .p (.int .u64 n)] => cond (decide (xs.length ≤ 549755813888 ∧ 0 < n)) (κ [(.new, .w .u64 (words (val xs / n.toNat))), (.mine, .p (.int .u64 ((val xs % n.toNat : Nat) : Int)))]) none
  | _ => none
def nWordL : LpC := lpC 37 [0, 1, 6, 7, 8] fun vs m κ => match vs, m with
  | [.o (.f 0), .o (.p (.int .u64 n)), .o (.f 1), .o (.p (.int .u64 r)), .o (.p (.int .i64 i))], [(_, .w .u64 n1 xs), (.mine, .w .u64 n2 out)] =>
    cond (decide (0 < n ∧ r = 0 ∧ i + 1 = (n1 : Int) ∧ n2 = n1 ∧ val out = 0)) (κ (.exit 0) (lay 37 [6, 7] [.o (.f 0), .o (.p (.int .u64 ((val xs % n.toNat : Nat) : Int)))]) [(.mine, .w .u64 n2 (wordsN n2 (val xs / n.toNat)))]) none
  | _, _ => none
def nWordE : Env := mkE ty [(82, div64C), (59, nSizeC)] [(0, nWordL)] [(0, [0, 1, 6, 7, 8])] [(0, [6, 7])] 0 (fun _ => false)
def nWordSt (n r i : Int) : List V := lay 37 [0, 1, 6, 7, 8] [.o (.f 0), .o (.p (.int .u64 n)), .o (.f 1), .o (.p (.int .u64 r)), .o (.p (.int .i64 i))]
theorem nWord_round (n r i : Int) (o : Own) (n1 n2 : Nat) (xs out : List Int) (f : Nat) (κ : X → List V → Mem → R) : lx nWordE Try.f87 0 (f + 1) (nWordSt n r i) [(o, .w .u64 n1 xs), (.mine, .w .u64 n2 out)] κ =
    (cond (decide (i ≥ (0 : Int)))
     (cond (decide ((0 : Int) ≤ i ∧ i < (↑n1 : Int)))
      (cond (decide (i.toNat < n1))
       (cond (decide (r < n))
        (cond (decide ((0 : Int) ≤ i ∧ i < (↑n2 : Int)))
         (cond (decide (i.toNat < n2 ∧ IntKind.u64 = IntKind.u64 ∧ 1 = 1))
          (lx nWordE Try.f87 0 f (lay 37 [0, 1, 6, 7, 8] [.o (.f 0), .o (.p (.int .u64 (n))), .o (.f 1), .o (.p (.int .u64 ((↑((r.toNat * 18446744073709551616 + (xs.getD i.toNat (0 : Int)).toNat) % n.toNat) : Int)))), .o (.p (.int .i64 (IntKind.i64.wrap (i - (1 : Int)))))]) [(o, .w .u64 (n1) (xs)), (.mine, .w .u64 (n2) (out.set i.toNat (↑((r.toNat * 18446744073709551616 + (xs.getD i.toNat (0 : Int)).toNat) / n.toNat) : Int)))] κ)
          none)
         none)
        none)
       none)
      none)
     (κ (.exit 0) (lay 37 [6, 7] [.o (.f 0), .o (.p (.int .u64 (r)))]) [(.mine, .w .u64 (n2) (out))])) := by kernel_rfl
theorem nWord_loop (xs : List Int) (hx : inR .u64 xs) (o : Own) (n n1 : Nat) (hl : xs.length = n1) (hb : n1 ≤ 140737488355328) (hn : 0 < n) (κ : X → List V → Mem → R) : ∀ (k : Nat), k ≤ n1 →
    lx nWordE Try.f87 0 (k + 1) (nWordSt n (((val xs / 18446744073709551616 ^ k % n : Nat) : Int)) ((k : Int) - 1)) [(o, .w .u64 n1 xs), (.mine, .w .u64 n1 (List.replicate (min k n1) 0 ++ (wordsN n1 (val xs / n)).drop k))] κ =
      κ (.exit 0) (lay 37 [6, 7] [.o (.f 0), .o (.p (.int .u64 ((val xs % n : Nat) : Int)))]) [(.mine, .w .u64 n1 (wordsN n1 (val xs / n)))] := by
  intro k
  induction k with
  | zero =>
    intro _
    rw [nWord_round, decide_eq_false (by omega), cond_false, Nat.pow_zero, Nat.div_one, Nat.zero_min]
    rfl
  | succ k ih =>
    intro hk
    obtain ⟨s1, s2, s3⟩ := div_step hx k hn
    have next := ih (by omega)
    rw [nWord_round, show ((k + 1 : Nat) : Int) - 1 = (k : Int) by omega, decide_eq_true (show (k : Int) ≥ 0 by omega), cond_true, decide_eq_true (show (0 : Int) ≤ (k : Int) ∧ (k : Int) < (n1 : Int) by omega), cond_true, cond_true, Int.toNat_natCast, decide_eq_true (show k < n1 by omega), cond_true,
      decide_eq_true (show ((val xs / 18446744073709551616 ^ (k + 1) % n : Nat) : Int) < (n : Int) from Int.ofNat_lt.2 (Nat.mod_lt _ hn)), cond_true, decide_eq_true (show k < n1 ∧ IntKind.u64 = IntKind.u64 ∧ 1 = 1 from ⟨by omega, rfl, rfl⟩), cond_true, Int.toNat_natCast, Int.toNat_natCast, s1, s2, set_high (by omega), i64_wrap (by omega) (by omega)]
    exact next
theorem nWordL_ok : LoopOK nWordE 0 (lbody Try.f87 0) nWordL := loopOK_lx fun vs m κ r hv hm h => by
  split at h
  case h_2 => cases h
  rename_i n r i o n1 xs n2 out
  replace h := cond_none h
  obtain ⟨hc, h⟩ := h
  obtain ⟨h1, rfl, h3, rfl, h5⟩ := of_decide_eq_true hc
  have hx := hm 0 _ _ rfl
  have hz := hm 1 _ _ rfl
  have h47 : lim = 140737488355328 := by decide
  have hn := u64_iff.1 (hv (.o (.p (.int .u64 n))) (by simp))
  obtain ⟨n, rfl⟩ := Int.eq_ofNat_of_zero_le hn.1
  rw [Int.toNat_natCast] at h
  have key := nWord_loop xs hx.2.2 o n _ hx.1 (by have := hx.2.1; omega) (by omega) κ _ (Nat.le_refl _)
  rw [Nat.div_eq_of_lt (hx.1 ▸ val_lt hx.2.2), Nat.zero_mod, List.drop_eq_nil_of_le (by rw [length_wordsN]; exact Nat.le_refl _), List.append_nil, Nat.min_self] at key
  have e : List.replicate n2 0 = out := val_inj (inR_rep n2) hz.2.2 (by rw [hz.1, List.length_replicate]) (by rw [h5, val_zeros])
  rw [e, show (n2 : Int) - 1 = i by omega] at key
  exact ⟨_, key.trans h⟩
theorem nWord_ev (xs : List Int) (n : Int) : evFn nWordE Try.f87 [.w .u64 xs, .p (.int .u64 n)] =
    let l : Int := (xs.length : Int)
    cond (decide (0 ≤ l ∧ l ≤ l ∧ l ≤ 17592186044416)) (cond (decide (0 < n ∧ (0 : Int) = 0 ∧ IntKind.i64.wrap (l - 1) + 1 = (xs.length : Int) ∧ l.toNat = xs.length ∧ val (List.replicate l.toNat 0) = 0))
      (endT l.toNat (wordsN l.toNat (val xs / n.toNat)) [(.mine, .p (.int .u64 ((val xs % n.toNat : Nat) : Int)))]) none) none := by kernel_rfl

theorem nWord_he : ∀ ds κ r, (∀ d ∈ ds, d.wf) → nWordC ds κ = some r → ∃ res, κ res = some r ∧ evFn nWordE Try.f87 ds = some res := fun ds κ r hw h => by
  unfold nWordC at h
  split at h
  case h_2 => cases h
  rename_i xs n
  replace h := cond_none h
  obtain ⟨hc, h⟩ := h
  obtain ⟨h1, h2⟩ := of_decide_eq_true hc
  obtain ⟨_, hx⟩ := wfW hw (xs := xs) (by simp)
  refine ⟨_, h, (nWord_ev xs n).trans ?_⟩
  dsimp only
  rw [i64_wrap (by omega) (by omega), Int.toNat_natCast, val_zeros, decide_eq_true (by omega), cond_true, decide_eq_true ⟨h2, rfl, by omega, rfl, rfl⟩, cond_true, endT_eq (inR_wordsN _ _) (length_wordsN _ _), val_wordsN, Nat.mod_eq_of_lt (Nat.lt_of_le_of_lt (Nat.div_le_self _ _) (val_lt hx))]
theorem nWord_fn : FnOK Try.prog 87 nWordC := fnOK_mk T mixed Try.func87 (by kernel_rfl) (fns := [(82, div64C), (59, nSizeC)]) (lps := [(0, nWordL)]) (live := [(0, [0, 1, 6, 7, 8])]) (out := [(0, [6, 7])]) (fuel := 0) (give := (fun _ => false)) ⟨div64_fn, nSize_fn, trivial⟩ ⟨nWordL_ok, trivial⟩ nWord_he

/-! ### ref02.Of, small -/
def rOfWC : FnC := nOfC
def rOfWE : Env := mkE ty [(42, trimC)] [] [] [] 0 (fun _ => false)
theorem rOfW_ev (n : Int) : evFn rOfWE Try.f83 [.p (.int .u64 n)] = some [(.mine, .w .u64 (words (val [n])))] := by kernel_rfl
theorem rOfW_he : ∀ ds κ r, (∀ d ∈ ds, d.wf) → rOfWC ds κ = some r → ∃ res, κ res = some r ∧ evFn rOfWE Try.f83 ds = some res := fun ds κ r hw h => by
  unfold rOfWC nOfC at h
  split at h
  case h_2 => cases h
  rename_i n
  exact ⟨_, h, rOfW_ev n⟩
theorem rOfW_fn : FnOK Try.prog 83 rOfWC := fnOK_mk T mixed Try.func83 (by kernel_rfl) (fns := [(42, trimC)]) (lps := []) (live := []) (out := []) (fuel := 0) (give := (fun _ => false)) ⟨trim_fn, trivial⟩ trivial rOfW_he
def smallC : FnC := fun ds κ => match ds with
  | [.w .u64 xs, .p (.int .u64 n)] => cond (decide (xs.length ≤ 549755813888 ∧ 0 < n)) (κ [(.new, .w .u64 (words (val xs / n.toNat))), (.new, .w .u64 (words (val xs % n.toNat)))]) none
  | _ => none
def smallL : LpC := lpC 36 [0, 1, 6, 7, 8] fun vs m κ => match vs, m with
  | [.o (.f 0), .o (.p (.int .u64 n)), .o (.f 1), .o (.p (.int .u64 r)), .o (.p (.int .i64 i))], [(_, .w .u64 n1 xs), (.mine, .w .u64 n2 out)] =>
    cond (decide (0 < n ∧ r = 0 ∧ i + 1 = (n1 : Int) ∧ n2 = n1 ∧ val out = 0)) (κ (.exit 0) (lay 36 [6, 7] [.o (.f 0), .o (.p (.int .u64 ((val xs % n.toNat : Nat) : Int)))]) [(.mine, .w .u64 n2 (wordsN n2 (val xs / n.toNat)))]) none
  | _, _ => none
def smallE : Env := mkE ty [(82, div64C), (42, trimC), (83, rOfWC)] [(0, smallL)] [(0, [0, 1, 6, 7, 8])] [(0, [6, 7])] 0 (fun _ => false)
def smallSt (n r i : Int) : List V := lay 36 [0, 1, 6, 7, 8] [.o (.f 0), .o (.p (.int .u64 n)), .o (.f 1), .o (.p (.int .u64 r)), .o (.p (.int .i64 i))]
theorem small_round (n r i : Int) (o : Own) (n1 n2 : Nat) (xs out : List Int) (f : Nat) (κ : X → List V → Mem → R) : lx smallE Try.f49 0 (f + 1) (smallSt n r i) [(o, .w .u64 n1 xs), (.mine, .w .u64 n2 out)] κ =
    (cond (decide (i ≥ (0 : Int)))
     (cond (decide ((0 : Int) ≤ i ∧ i < (↑n1 : Int)))
      (cond (decide (i.toNat < n1))
       (cond (decide (r < n))
        (cond (decide ((0 : Int) ≤ i ∧ i < (↑n2 : Int)))
         (cond (decide (i.toNat < n2 ∧ IntKind.u64 = IntKind.u64 ∧ 1 = 1))
          (lx smallE Try.f49 0 f (lay 36 [0, 1, 6, 7, 8] [.o (.f 0), .o (.p (.int .u64 (n))), .o (.f 1), .o (.p (.int .u64 ((↑((r.toNat * 18446744073709551616 + (xs.getD i.toNat (0 : Int)).toNat) % n.toNat) : Int)))), .o (.p (.int .i64 (IntKind.i64.wrap (i - (1 : Int)))))]) [(o, .w .u64 (n1) (xs)), (.mine, .w .u64 (n2) (out.set i.toNat (↑((r.toNat * 18446744073709551616 + (xs.getD i.toNat (0 : Int)).toNat) / n.toNat) : Int)))] κ)
          none)
         none)
        none)
       none)
      none)
     (κ (.exit 0) (lay 36 [6, 7] [.o (.f 0), .o (.p (.int .u64 (r)))]) [(.mine, .w .u64 (n2) (out))])) := by kernel_rfl
theorem small_loop (xs : List Int) (hx : inR .u64 xs) (o : Own) (n n1 : Nat) (hl : xs.length = n1) (hb : n1 ≤ 140737488355328) (hn : 0 < n) (κ : X → List V → Mem → R) : ∀ (k : Nat), k ≤ n1 →
    lx smallE Try.f49 0 (k + 1) (smallSt n (((val xs / 18446744073709551616 ^ k % n : Nat) : Int)) ((k : Int) - 1)) [(o, .w .u64 n1 xs), (.mine, .w .u64 n1 (List.replicate (min k n1) 0 ++ (wordsN n1 (val xs / n)).drop k))] κ =
      κ (.exit 0) (lay 36 [6, 7] [.o (.f 0), .o (.p (.int .u64 ((val xs % n : Nat) : Int)))]) [(.mine, .w .u64 n1 (wordsN n1 (val xs / n)))] := by
  intro k
  induction k with
  | zero =>
    intro _
    rw [small_round, decide_eq_false (by omega), cond_false, Nat.pow_zero, Nat.div_one, Nat.zero_min]
    rfl
  | succ k ih =>
    intro hk
    obtain ⟨s1, s2, s3⟩ := div_step hx k hn
    have next := ih (by omega)
    rw [small_round, show ((k + 1 : Nat) : Int) - 1 = (k : Int) by omega, decide_eq_true (show (k : Int) ≥ 0 by omega), cond_true, decide_eq_true (show (0 : Int) ≤ (k : Int) ∧ (k : Int) < (n1 : Int) by omega), cond_true, cond_true, Int.toNat_natCast, decide_eq_true (show k < n1 by omega), cond_true,
      decide_eq_true (show ((val xs / 18446744073709551616 ^ (k + 1) % n : Nat) : Int) < (n : Int) from Int.ofNat_lt.2 (Nat.mod_lt _ hn)), cond_true, decide_eq_true (show k < n1 ∧ IntKind.u64 = IntKind.u64 ∧ 1 = 1 from ⟨by omega, rfl, rfl⟩), cond_true, Int.toNat_natCast, Int.toNat_natCast, s1, s2, set_high (by omega), i64_wrap (by omega) (by omega)]
    exact next
theorem smallL_ok : LoopOK smallE 0 (lbody Try.f49 0) smallL := loopOK_lx fun vs m κ r hv hm h => by
  split at h
  case h_2 => cases h
  rename_i n r i o n1 xs n2 out
  replace h := cond_none h
  obtain ⟨hc, h⟩ := h
  obtain ⟨h1, rfl, h3, rfl, h5⟩ := of_decide_eq_true hc
  have hx := hm 0 _ _ rfl
  have hz := hm 1 _ _ rfl
  have h47 : lim = 140737488355328 := by decide
  have hn := u64_iff.1 (hv (.o (.p (.int .u64 n))) (by simp))
  obtain ⟨n, rfl⟩ := Int.eq_ofNat_of_zero_le hn.1
  rw [Int.toNat_natCast] at h
  have key := small_loop xs hx.2.2 o n _ hx.1 (by have := hx.2.1; omega) (by omega) κ _ (Nat.le_refl _)
  rw [Nat.div_eq_of_lt (hx.1 ▸ val_lt hx.2.2), Nat.zero_mod, List.drop_eq_nil_of_le (by rw [length_wordsN]; exact Nat.le_refl _), List.append_nil, Nat.min_self] at key
  have e : List.replicate n2 0 = out := val_inj (inR_rep n2) hz.2.2 (by rw [hz.1, List.length_replicate]) (by rw [h5, val_zeros])
  rw [e, show (n2 : Int) - 1 = i by omega] at key
  exact ⟨_, key.trans h⟩
theorem small_ev (xs : List Int) (n : Int) : evFn smallE Try.f49 [.w .u64 xs, .p (.int .u64 n)] =
    let l : Int := (xs.length : Int)
    cond (decide (0 ≤ l ∧ l ≤ l ∧ l ≤ 17592186044416)) (cond (decide (0 < n ∧ (0 : Int) = 0 ∧ IntKind.i64.wrap (l - 1) + 1 = (xs.length : Int) ∧ l.toNat = xs.length ∧ val (List.replicate l.toNat 0) = 0))
      (cond (decide ((wordsN l.toNat (val xs / n.toNat)).length ≤ 1099511627776)) (some [(.new, .w .u64 (words (val (wordsN l.toNat (val xs / n.toNat))))), (.new, .w .u64 (words ((val xs % n.toNat : Nat) : Int).toNat))]) none) none) none := by kernel_rfl

theorem small_he : ∀ ds κ r, (∀ d ∈ ds, d.wf) → smallC ds κ = some r → ∃ res, κ res = some r ∧ evFn smallE Try.f49 ds = some res := fun ds κ r hw h => by
  unfold smallC at h
  split at h
  case h_2 => cases h
  rename_i xs n
  replace h := cond_none h
  obtain ⟨hc, h⟩ := h
  obtain ⟨h1, h2⟩ := of_decide_eq_true hc
  obtain ⟨_, hx⟩ := wfW hw (xs := xs) (by simp)
  refine ⟨_, h, (small_ev xs n).trans ?_⟩
  dsimp only
  rw [i64_wrap (by omega) (by omega), Int.toNat_natCast, Int.toNat_natCast, val_zeros, length_wordsN, decide_eq_true (by omega), cond_true, decide_eq_true ⟨h2, rfl, by omega, rfl, rfl⟩, cond_true, decide_eq_true (by omega), cond_true, val_wordsN, Nat.mod_eq_of_lt (Nat.lt_of_le_of_lt (Nat.div_le_self _ _) (val_lt hx))]
theorem small_fn : FnOK Try.prog 49 smallC := fnOK_mk T mixed Try.func49 (by kernel_rfl) (fns := [(82, div64C), (42, trimC), (83, rOfWC)]) (lps := [(0, smallL)]) (live := [(0, [0, 1, 6, 7, 8])]) (out := [(0, [6, 7])]) (fuel := 0) (give := (fun _ => false)) ⟨div64_fn, trim_fn, rOfW_fn, trivial⟩ ⟨smallL_ok, trivial⟩ small_he

/-! ### ref02.Over -/
def overC : FnC := fun ds κ => match ds with
  | [.w .u64 xs, .w .u64 ys] => cond (decide (xs.length ≤ 1000000 ∧ ys.length ≤ 1000000 ∧ 0 < val ys)) (κ [(.new, .w .u64 (words (val xs / val ys))), (.new, .w .u64 (words (val xs % val ys)))]) none
  | _ => none
def overL : LpC := lpC 73 [7, 8, 9, 10] fun vs m κ => match vs, m with
  | [.o (.f 0), .o (.f 1), .o (.f 2), .o (.p (.int .i64 i))], [(.mine, .w .u64 n1 rs), (.mine, .w .u64 n2 qs), (_, .w .u64 n3 dd)] =>
    cond (decide (0 ≤ i ∧ n1 ≤ 2000000 ∧ n3 ≤ 2000000 ∧ i.toNat / 64 + 1 = n2 ∧ n2 ≤ 2000000 ∧ val rs < 2 * val dd ∧ val dd % 2 ^ i.toNat = 0 ∧ val qs = 0 ∧ rs = words (val rs)))
      (κ (.exit 0) (lay 73 [7, 8] [.o (.f 0), .o (.f 1)]) [(.mine, .w .u64 (words (val rs % (val dd / 2 ^ i.toNat))).length (words (val rs % (val dd / 2 ^ i.toNat)))), (.mine, .w .u64 n2 (wordsN n2 (val rs / (val dd / 2 ^ i.toNat))))]) none
  | _, _ => none
def overE : Env := mkE ty [(23, sizeC), (49, smallC), (50, lenC), (42, trimC), (51, leftC), (25, cmpC), (52, lessC), (53, rightC)] [(0, overL)] [(0, [7, 8, 9, 10])] [(0, [7, 8])] 0 (fun _ => false)
def overSt (i : Int) : List V := lay 73 [7, 8, 9, 10] [.o (.f 0), .o (.f 1), .o (.f 2), .o (.p (.int .i64 i))]
theorem over_round (i : Int) (o : Own) (n1 n2 n3 : Nat) (rs qs dd : List Int) (f : Nat) (κ : X → List V → Mem → R) : lx overE Try.f19 0 (f + 1) (overSt i) [(.mine, .w .u64 n1 rs), (.mine, .w .u64 n2 qs), (o, .w .u64 n3 dd)] κ =
    (cond (decide (i ≥ (0 : Int)))
     (cond (decide (cmpI (val rs) (val dd) ≥ (0 : Int)))
      (cond (decide (rs.length ≤ 549755813888 ∧ dd.length ≤ 549755813888 ∧ val dd ≤ val rs))
       (cond (decide ((0 : Int) ≤ IntKind.i64.wrap (i.tdiv (64 : Int)) ∧ IntKind.i64.wrap (i.tdiv (64 : Int)) < (↑n2 : Int)))
        (cond (decide ((IntKind.i64.wrap (i.tdiv (64 : Int))).toNat < n2))
         (cond (decide (IntKind.u64.wrap (i.tmod (64 : Int)) < (0 : Int)))
          none
          (cond (decide ((0 : Int) ≤ IntKind.i64.wrap (i.tdiv (64 : Int)) ∧ IntKind.i64.wrap (i.tdiv (64 : Int)) < (↑n2 : Int)))
           (cond (decide ((IntKind.i64.wrap (i.tdiv (64 : Int))).toNat < n2 ∧ IntKind.u64 = IntKind.u64 ∧ 1 = 1))
            (cond (decide (dd.length ≤ 274877906944 ∧ (0 : Int) ≤ (1 : Int)))
             (lx overE Try.f19 0 f (lay 73 [7, 8, 9, 10] [.o (.f 0), .o (.f 1), .o (.f 2), .o (.p (.int .i64 (IntKind.i64.wrap (i - (1 : Int)))))]) [(.mine, .w .u64 (((words (val rs - val dd))).length) (words (val rs - val dd))), (.mine, .w .u64 (n2) (qs.set (IntKind.i64.wrap (i.tdiv (64 : Int))).toNat
      (bits BinOp.or IntKind.u64 (qs.getD (IntKind.i64.wrap (i.tdiv (64 : Int))).toNat (0 : Int))
        (shlI IntKind.u64 (1 : Int) (IntKind.u64.wrap (i.tmod (64 : Int))))))), (.new, .w .u64 (((words (val dd / 2 ^ (1 : Int).toNat))).length) (words (val dd / 2 ^ (1 : Int).toNat)))] κ)
             none)
            none)
           none))
         none)
        none)
       none)
      (cond (decide (dd.length ≤ 274877906944 ∧ (0 : Int) ≤ (1 : Int)))
       (lx overE Try.f19 0 f (lay 73 [7, 8, 9, 10] [.o (.f 0), .o (.f 1), .o (.f 2), .o (.p (.int .i64 (IntKind.i64.wrap (i - (1 : Int)))))]) [(.mine, .w .u64 (n1) (rs)), (.mine, .w .u64 (n2) (qs)), (.new, .w .u64 (((words (val dd / 2 ^ (1 : Int).toNat))).length) (words (val dd / 2 ^ (1 : Int).toNat)))] κ)
       none))
     (κ (.exit 0) (lay 73 [7, 8] [.o (.f 0), .o (.f 1)]) [(.mine, .w .u64 (n1) (rs)), (.mine, .w .u64 (n2) (qs))])) := by kernel_rfl
theorem setbit {K j Q : Nat} (hd : Q % 2 ^ (j + 1) = 0) (hj : j / 64 < K) (hQ : Q < 18446744073709551616 ^ K) :
    (wordsN K Q).set (j / 64) (Go.bits .or .u64 ((wordsN K Q).getD (j / 64) 0) (shlI .u64 1 ((j % 64 : Nat) : Int))) = wordsN K (Q + 2 ^ j) := by
  obtain ⟨c, hc⟩ := Nat.dvd_of_mod_eq_zero hd
  have hr : j % 64 < 64 := Nat.mod_lt _ (by decide)
  have hsp : 2 ^ j = 18446744073709551616 ^ (j / 64) * 2 ^ (j % 64) := two_pow_split j
  have hg : (wordsN K Q).getD (j / 64) 0 = ((Q / 18446744073709551616 ^ (j / 64) % 18446744073709551616 : Nat) : Int) := by rw [getD_val (inR_wordsN _ _), val_wordsN, word_mod hj]
  have hvs := val_set (xs := wordsN K Q) (i := j / 64) (by rw [length_wordsN]; exact hj) ((Q / 18446744073709551616 ^ (j / 64) % 18446744073709551616 + 2 ^ (j % 64) : Nat) : Int)
  rw [hg, val_wordsN, Nat.mod_eq_of_lt hQ, Int.toNat_natCast, Int.toNat_natCast] at hvs
  have hdiv : Q / 18446744073709551616 ^ (j / 64) = 2 ^ (j % 64) * (2 * c) := by
    rw [hc, Nat.pow_succ, hsp, Nat.mul_assoc, Nat.mul_assoc, Nat.mul_div_cancel_left _ (pow_pos64 _)]
  have h63 : 18446744073709551616 = 2 ^ (j % 64) * (2 * 2 ^ (63 - j % 64)) := by
    rw [← Nat.pow_succ', ← Nat.pow_add, show j % 64 + (63 - j % 64).succ = 64 by omega]
  have hw : Q / 18446744073709551616 ^ (j / 64) % 18446744073709551616 = 2 ^ (j % 64) * (2 * (c % 2 ^ (63 - j % 64))) := by
    rw [hdiv, h63, Nat.mul_mod_mul_left, Nat.mul_mod_mul_left]
  have hlt : Q / 18446744073709551616 ^ (j / 64) % 18446744073709551616 + 2 ^ (j % 64) < 18446744073709551616 := by
    have h1 : c % 2 ^ (63 - j % 64) < 2 ^ (63 - j % 64) := Nat.mod_lt _ (Nat.two_pow_pos _)
    have h2 : 2 ^ (j % 64) * (2 * (c % 2 ^ (63 - j % 64)) + 2) ≤ 2 ^ (j % 64) * (2 * 2 ^ (63 - j % 64)) := Nat.mul_le_mul_left _ (by omega)
    rw [Nat.mul_add] at h2
    have h3 := Nat.two_pow_pos (j % 64)
    rw [hw]
    omega
  have hor : Go.bits .or .u64 ((Q / 18446744073709551616 ^ (j / 64) % 18446744073709551616 : Nat) : Int) (shlI .u64 1 ((j % 64 : Nat) : Int)) = ((Q / 18446744073709551616 ^ (j / 64) % 18446744073709551616 + 2 ^ (j % 64) : Nat) : Int) := by
    have e1 : shlI .u64 1 ((j % 64 : Nat) : Int) = ((2 ^ (j % 64) : Nat) : Int) := by
      have := shl_nat 1 (j % 64)
      have h5 := two_pow_le hr
      rw [Nat.one_mul, Nat.min_eq_left (by omega), Nat.mod_eq_of_lt (a := 2 ^ (j % 64)) (by omega)] at this
      exact this
    rw [e1, u64_or_nat _ _ (by omega) (by omega)]
    congr 1
    refine (or_bit _ _).1 ?_
    rw [hw, Nat.mul_div_cancel_left _ (Nat.two_pow_pos _), Nat.mul_mod_right]
  rw [hg, hor]
  refine wordsN_eq (inR_set (inR_wordsN _ _) _ (Int.natCast_nonneg _) (Int.ofNat_lt.2 hlt)) (by rw [List.length_set, length_wordsN]) ?_
  rw [Nat.mul_add, ← hsp] at hvs
  omega
theorem dbl (a j : Nat) : 2 * a * 2 ^ j = a * 2 ^ (j + 1) := by rw [Nat.pow_succ', Nat.mul_comm 2 a, Nat.mul_assoc]
theorem halve {X A : Nat} (hA : 0 < A) :
    (A ≤ X % (2 * A) → X % A = X % (2 * A) - A ∧ X / A = 2 * (X / (2 * A)) + 1) ∧ (X % (2 * A) < A → X % A = X % (2 * A) ∧ X / A = 2 * (X / (2 * A))) := by
  have h1 := Nat.mod_add_div X (2 * A)
  have h2 : X % (2 * A) < 2 * A := Nat.mod_lt _ (by omega)
  generalize X % (2 * A) = r at *
  generalize X / (2 * A) = a at *
  have e : 2 * A * a = A * (2 * a) := by rw [Nat.mul_comm 2 A, Nat.mul_assoc]
  rw [e] at h1
  constructor
  · intro h
    refine ((Nat.div_mod_unique hA (a := X) (d := 2 * a + 1) (c := r - A)).2 ⟨?_, by omega⟩).symm
    rw [Nat.mul_add]
    omega
  · intro h
    exact ((Nat.div_mod_unique hA (a := X) (d := 2 * a) (c := r)).2 ⟨h1, h⟩).symm
theorem over_loop (X Y K : Nat) (hY : 0 < Y) (hK : K ≤ 2000000) (hX : wlen X ≤ 2000000) (hq : X / Y < 18446744073709551616 ^ K) (κ : Vm.X → List V → Mem → R) : ∀ (j : Nat) (o : Own) (n3 : Nat) (dd : List Int), j ≤ 64 * K → inR .u64 dd → dd.length = n3 → n3 ≤ 2000000 → (1 ≤ j → val dd = Y * 2 ^ (j - 1)) →
    lx overE Try.f19 0 (j + 1) (overSt ((j : Int) - 1)) [(.mine, .w .u64 (words (X % (Y * 2 ^ j))).length (words (X % (Y * 2 ^ j)))), (.mine, .w .u64 K (wordsN K (X / (Y * 2 ^ j) * 2 ^ j))), (o, .w .u64 n3 dd)] κ =
      κ (.exit 0) (lay 73 [7, 8] [.o (.f 0), .o (.f 1)]) [(.mine, .w .u64 (words (X % Y)).length (words (X % Y))), (.mine, .w .u64 K (wordsN K (X / Y)))] := by
  intro j
  induction j with
  | zero =>
    intro o n3 dd _ _ _ _ _
    rw [over_round, decide_eq_false (by omega), cond_false, Nat.pow_zero, Nat.mul_one, Nat.mul_one]
  | succ j ih =>
    intro o n3 dd hj hd hl hn hv
    have hv := hv (by omega)
    rw [Nat.add_sub_cancel] at hv
    have hA : 0 < Y * 2 ^ j := Nat.mul_pos hY (Nat.two_pow_pos _)
    have e2A : Y * 2 ^ (j + 1) = 2 * (Y * 2 ^ j) := by rw [Nat.pow_succ', Nat.mul_left_comm]
    obtain ⟨c1, c2⟩ := halve (X := X) hA
    have next := ih .new (words (val dd / 2 ^ (1 : Int).toNat)).length (words (val dd / 2 ^ (1 : Int).toNat)) (by omega) (inR_words _) rfl (by
      rw [length_words]
      refine Nat.le_trans (wlen_mono (Nat.div_le_self _ _)) (Nat.le_trans (wlen_val hd) (by omega))) (fun h1 => by
      rw [val_words, hv, show (1 : Int).toNat = 1 from rfl, Nat.pow_one]
      obtain ⟨i, rfl⟩ : ∃ i, j = i + 1 := ⟨j - 1, by omega⟩
      rw [Nat.pow_succ, ← Nat.mul_assoc, Nat.mul_div_cancel _ (by decide), Nat.add_sub_cancel])
    rw [over_round, val_words, length_words, hv, show ((j + 1 : Nat) : Int) - 1 = (j : Int) by omega, tdiv64, tmod64, i64_wrap (x := ((j / 64 : Nat) : Int)) (by omega) (by omega), u64_wrap (x := ((j % 64 : Nat) : Int)) (by omega) (by omega), i64_wrap (x := (j : Int) - 1) (by omega) (by omega), Int.toNat_natCast, e2A]
    rw [hv] at next
    rw [decide_eq_true (show (j : Int) ≥ 0 by omega), cond_true, decide_eq_true (show dd.length ≤ 274877906944 ∧ (0 : Int) ≤ 1 by omega), cond_true, cond_true]
    by_cases h : Y * 2 ^ j ≤ X % (2 * (Y * 2 ^ j))
    · obtain ⟨g1, g2⟩ := c1 h
      rw [g1, g2] at next
      have hcmp : decide (cmpI (X % (2 * (Y * 2 ^ j))) (Y * 2 ^ j) ≥ 0) = true := decide_eq_true (by
        unfold cmpI
        rw [if_neg (by omega)]
        split <;> omega)
      have hQ : X / (2 * (Y * 2 ^ j)) * 2 ^ (j + 1) < 18446744073709551616 ^ K := by
        refine Nat.lt_of_le_of_lt ?_ hq
        rw [← e2A, ← Nat.div_div_eq_div_mul]
        exact Nat.div_mul_le_self _ _
      have hset := setbit (K := K) (j := j) (Q := X / (2 * (Y * 2 ^ j)) * 2 ^ (j + 1)) (Nat.mul_mod_left _ _) (by omega) hQ
      have eQ : (2 * (X / (2 * (Y * 2 ^ j))) + 1) * 2 ^ j = X / (2 * (Y * 2 ^ j)) * 2 ^ (j + 1) + 2 ^ j := by
        rw [Nat.add_mul, Nat.one_mul, dbl]
      rw [eQ] at next
      have hwl : wlen (X % (2 * (Y * 2 ^ j))) ≤ 2000000 := Nat.le_trans (wlen_mono (Nat.mod_le _ _)) hX
      rw [hcmp, cond_true, decide_eq_true (show wlen (X % (2 * (Y * 2 ^ j))) ≤ 549755813888 ∧ dd.length ≤ 549755813888 ∧ Y * 2 ^ j ≤ X % (2 * (Y * 2 ^ j)) by omega), cond_true, decide_eq_true (show (0 : Int) ≤ ((j / 64 : Nat) : Int) ∧ ((j / 64 : Nat) : Int) < (K : Int) by omega), cond_true, cond_true, decide_eq_true (show j / 64 < K by omega), cond_true,
        decide_eq_false (show ¬ ((j % 64 : Nat) : Int) < 0 by omega), cond_false, decide_eq_true (show j / 64 < K ∧ IntKind.u64 = IntKind.u64 ∧ 1 = 1 from ⟨by omega, rfl, rfl⟩), cond_true, hset]
      exact next
    · obtain ⟨g1, g2⟩ := c2 (by omega)
      rw [g1, g2] at next
      have hcmp : decide (cmpI (X % (2 * (Y * 2 ^ j))) (Y * 2 ^ j) ≥ 0) = false := decide_eq_false (by
        unfold cmpI
        rw [if_pos (by omega)]
        omega)
      have eQ : 2 * (X / (2 * (Y * 2 ^ j))) * 2 ^ j = X / (2 * (Y * 2 ^ j)) * 2 ^ (j + 1) := by
        rw [dbl]
      rw [eQ, length_words] at next
      rw [hcmp, cond_false]
      exact next
theorem overL_ok : LoopOK overE 0 (lbody Try.f19 0) overL := loopOK_lx fun vs m κ r hv hm h => by
  split at h
  case h_2 => cases h
  rename_i i n1 rs n2 qs o n3 dd
  replace h := cond_none h
  obtain ⟨hc, h⟩ := h
  obtain ⟨h1, h2, h3, h4, h5, h6, h7, h8, h9⟩ := of_decide_eq_true hc
  have hx := hm 0 _ _ rfl
  have hz := hm 1 _ _ rfl
  have hd := hm 2 _ _ rfl
  obtain ⟨i, rfl⟩ := Int.eq_ofNat_of_zero_le h1
  rw [Int.toNat_natCast] at h4 h7 h
  have hY : val dd = val dd / 2 ^ i * 2 ^ i := (Nat.div_mul_cancel (Nat.dvd_of_mod_eq_zero h7)).symm
  generalize hYY : val dd / 2 ^ i = Y at *
  have hY0 : 0 < Y := by
    rcases Nat.eq_zero_or_pos Y with h0 | h0
    · rw [h0, Nat.zero_mul] at hY; omega
    · exact h0
  have hlt : val rs < Y * 2 ^ (i + 1) := by
    rw [Nat.pow_succ, ← Nat.mul_assoc, ← hY]; omega
  have hq : val rs / Y < 18446744073709551616 ^ n2 := by
    rw [Nat.div_lt_iff_lt_mul hY0, Nat.mul_comm]
    refine Nat.lt_of_lt_of_le hlt (Nat.mul_le_mul_left _ ?_)
    rw [pow64]
    exact Nat.pow_le_pow_right (by decide) (by omega)
  have key := over_loop (val rs) Y n2 hY0 (by omega) (by have := wlen_val hx.2.2; have := hx.1; omega) hq κ (i + 1) o n3 dd (by omega) hd.2.2 hd.1 (by omega) (fun _ => by rw [Nat.add_sub_cancel]; exact hY)
  rw [Nat.mod_eq_of_lt hlt, Nat.div_eq_of_lt hlt, Nat.zero_mul, ← h9, hx.1, show ((i + 1 : Nat) : Int) - 1 = (i : Int) by omega] at key
  have e : wordsN n2 0 = qs := (wordsN_eq hz.2.2 hz.1 h8).symm
  rw [e] at key
  exact ⟨_, key.trans h⟩
theorem over_ev (xs ys : List Int) : evFn overE Try.f19 [.w .u64 xs, .w .u64 ys] =
    let F := IntKind.i64.wrap (((bitlen (val xs) : Nat) : Int) - ((bitlen (val ys) : Nat) : Int))
    let L := IntKind.i64.wrap (IntKind.i64.wrap (F.tdiv 64) + 1)
    let D := words (val ys * 2 ^ F.toNat)
    let Q := wordsN L.toNat (val (words (val xs)) / (val D / 2 ^ F.toNat))
    cond (((wlen (val ys) : Nat) : Int) == 1)
      (cond (decide ((0 : Int) ≤ 0 ∧ (0 : Int) < (ys.length : Int))) (cond (decide (0 < ys.length)) (cond (decide (xs.length ≤ 549755813888 ∧ 0 < ys.getD 0 0))
        (some [(.new, .w .u64 (words (val xs / (ys.getD 0 0).toNat))), (.new, .w .u64 (words (val xs % (ys.getD 0 0).toNat)))]) none) none) none)
      (cond (decide (xs.length ≤ 1099511627776)) (cond (decide (F < 0)) (some [(.new, .w .u64 []), (.new, .w .u64 (words (val xs)))])
        (cond (decide (0 ≤ L ∧ L ≤ L ∧ L ≤ 17592186044416)) (cond (decide (ys.length ≤ 274877906944 ∧ 0 ≤ F ∧ F ≤ 1099511627776))
          (cond (decide (0 ≤ F ∧ (words (val xs)).length ≤ 2000000 ∧ D.length ≤ 2000000 ∧ F.toNat / 64 + 1 = L.toNat ∧ L.toNat ≤ 2000000 ∧ val (words (val xs)) < 2 * val D ∧ val D % 2 ^ F.toNat = 0 ∧ val (List.replicate L.toNat 0) = 0 ∧ words (val xs) = words (val (words (val xs)))))
            (cond (decide (Q.length ≤ 1099511627776)) (some [(.new, .w .u64 (words (val Q))), (.new, .w .u64 (words (val (words (val xs)) % (val D / 2 ^ F.toNat))))]) none) none) none) none)) none) := by kernel_rfl
theorem bitlen_val {xs : List Int} (h : inR .u64 xs) : bitlen (val xs) ≤ 64 * xs.length := by
  rw [bitlen_le_iff, ← pow64]
  exact val_lt h
theorem over_he : ∀ ds κ r, (∀ d ∈ ds, d.wf) → overC ds κ = some r → ∃ res, κ res = some r ∧ evFn overE Try.f19 ds = some res := fun ds κ r hw h => by
  unfold overC at h
  split at h
  case h_2 => cases h
  rename_i xs ys
  replace h := cond_none h
  obtain ⟨hc, h⟩ := h
  obtain ⟨h1, h2, h3⟩ := of_decide_eq_true hc
  obtain ⟨_, hx⟩ := wfW hw (xs := xs) (by simp)
  obtain ⟨_, hy⟩ := wfW hw (xs := ys) (by simp)
  refine ⟨_, h, (over_ev xs ys).trans ?_⟩
  have bx := bitlen_val hx
  have by' := bitlen_val hy
  have wy := wlen_val hy
  have wx := wlen_val hx
  dsimp only
  by_cases hone : wlen (val ys) = 1
  · have hlt : val ys < 18446744073709551616 := by have := lt_wlen (val ys); rwa [hone, Nat.pow_one] at this
    have e : ys.getD 0 0 = ((val ys : Nat) : Int) := by rw [getD_val hy, Nat.pow_zero, Nat.div_one, Nat.mod_eq_of_lt hlt]
    rw [beq_iff_eq.2 (show ((wlen (val ys) : Nat) : Int) = 1 by omega), cond_true, decide_eq_true (show (0 : Int) ≤ 0 ∧ (0 : Int) < (ys.length : Int) by omega), cond_true, decide_eq_true (show 0 < ys.length by omega), cond_true, e, Int.toNat_natCast, decide_eq_true (show xs.length ≤ 549755813888 ∧ (0 : Int) < ((val ys : Nat) : Int) by omega), cond_true]
  · rw [beq_eq_false_iff_ne.2 (show ((wlen (val ys) : Nat) : Int) ≠ 1 by omega), cond_false, decide_eq_true (show xs.length ≤ 1099511627776 by omega), cond_true, i64_wrap (x := ((bitlen (val xs) : Nat) : Int) - ((bitlen (val ys) : Nat) : Int)) (by omega) (by omega)]
    have tx := bitlen_lt (val xs)
    have ty := bitlen_top (show val ys ≠ 0 by omega)
    have by0 : bitlen (val ys) ≠ 0 := fun e => by rw [bitlen_zero] at e; omega
    by_cases hF : bitlen (val xs) < bitlen (val ys)
    · rw [decide_eq_true (show ((bitlen (val xs) : Nat) : Int) - ((bitlen (val ys) : Nat) : Int) < 0 by omega), cond_true]
      have hlt : val xs < val ys := Nat.lt_of_lt_of_le tx (Nat.le_trans (Nat.pow_le_pow_right (by decide) (by omega)) ty)
      rw [Nat.div_eq_of_lt hlt, Nat.mod_eq_of_lt hlt]
      rfl
    · obtain ⟨F, hFF⟩ : ∃ F : Nat, F = bitlen (val xs) - bitlen (val ys) := ⟨_, rfl⟩
      rw [show ((bitlen (val xs) : Nat) : Int) - ((bitlen (val ys) : Nat) : Int) = (F : Int) by omega, decide_eq_false (show ¬ (F : Int) < 0 by omega), cond_false, tdiv64, i64_wrap (x := ((F / 64 : Nat) : Int)) (by omega) (by omega), i64_wrap (x := ((F / 64 : Nat) : Int) + 1) (by omega) (by omega), show (((F / 64 : Nat) : Int) + 1).toNat = F / 64 + 1 by omega, Int.toNat_natCast,
        val_words, val_words, length_words, length_words, length_wordsN, val_zeros, Nat.mul_div_cancel _ (Nat.two_pow_pos _)]
      have hlt : val xs < 2 * (val ys * 2 ^ F) := by
        have e : 2 ^ bitlen (val xs) = 2 * (2 ^ (bitlen (val ys) - 1) * 2 ^ F) := by
          rw [← Nat.pow_add, ← Nat.pow_succ']
          congr 1
          omega
        have := Nat.mul_le_mul_right (2 ^ F) ty
        omega
      have hwd : wlen (val ys * 2 ^ F) ≤ 2000000 := by
        have := wlen_two_pow F
        have := wlen_mul (i := ys.length) (j := F / 64 + 1) wy this
        omega
      rw [decide_eq_true (show (0 : Int) ≤ ((F / 64 : Nat) : Int) + 1 ∧ ((F / 64 : Nat) : Int) + 1 ≤ ((F / 64 : Nat) : Int) + 1 ∧ ((F / 64 : Nat) : Int) + 1 ≤ 17592186044416 by omega), cond_true, decide_eq_true (show ys.length ≤ 274877906944 ∧ (0 : Int) ≤ (F : Int) ∧ (F : Int) ≤ 1099511627776 by omega), cond_true,
        decide_eq_true ⟨by omega, by omega, hwd, rfl, by omega, hlt, Nat.mul_mod_left _ _, rfl, rfl⟩, cond_true, decide_eq_true (by omega), cond_true, val_wordsN, Nat.mod_eq_of_lt]
      rw [Nat.div_lt_iff_lt_mul h3, Nat.mul_comm]
      refine Nat.lt_of_lt_of_le hlt ?_
      rw [Nat.mul_left_comm]
      refine Nat.mul_le_mul_left _ ?_
      rw [← Nat.pow_succ', pow64]
      exact Nat.pow_le_pow_right (by decide) (by omega)
theorem over_fn : FnOK Try.prog 19 overC := fnOK_mk T mixed Try.func19 (by kernel_rfl) (fns := [(23, sizeC), (49, smallC), (50, lenC), (42, trimC), (51, leftC), (25, cmpC), (52, lessC), (53, rightC)]) (lps := [(0, overL)]) (live := [(0, [7, 8, 9, 10])]) (out := [(0, [7, 8])]) (fuel := 0) (give := (fun _ => false)) ⟨size_fn, small_fn, len_fn, trim_fn, left_fn, cmp_fn, less_fn, right_fn, trivial⟩ ⟨overL_ok, trivial⟩ over_he
end
end Go.Proofs.Ytcglfmldodhakaa.Vm
