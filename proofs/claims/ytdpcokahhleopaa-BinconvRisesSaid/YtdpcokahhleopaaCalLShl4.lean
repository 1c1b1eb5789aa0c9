/-
  What limbs.Shl at width 4 comes to: a walk. No statement is proved here. (Printed by limbs.py of this session.)
-/
import Derived.Test.YtdpcokahhleopaaCalK
namespace Go.Proofs.Ytdpcokahhleopaa.Vm
open Go Go.Vm
noncomputable section
def lShl4C : FnC := fun ds κ => match ds with
  | [.r .u64 4 xs, .p (.int .i64 n)] => κ [(.mine, .r .u64 4 (wordsN 4 (val xs * 2 ^ n.toNat)))]
  | _ => none
def lShl4L : LpC := lpC 56 [2, 4, 5, 6, 7, 8] fun vs m κ => match vs, m with
  | [.o (.a 0 0), .o (.a 1 0), .o (.a 2 0), .o (.p (.int .i64 w)), .o (.p (.int .u64 r)), .o (.p (.int .i64 i))], [(.mine, .w .u64 4 xs), (.mine, .w .u64 4 zs), (.mine, .w .u64 4 out)] =>
    cond (decide (0 ≤ w ∧ w < 1152921504606846976 ∧ r < 64 ∧ i = 3 ∧ val out = 0)) (κ (.exit 0) (lay 56 [4, 5] [.o (.a 0 0), .o (.a 1 0)]) [(.mine, .w .u64 4 zs), (.mine, .w .u64 4 (wordsN 4 (val xs * 2 ^ (64 * w.toNat + r.toNat))))]) none
  | _, _ => none
def lShl4E : Env := mkE ty [] [(0, lShl4L)] [(0, [2, 4, 5, 6, 7, 8])] [(0, [4, 5])] 0 (fun _ => false)
theorem lShl4_round (w r i : Int) (xs zs out : List Int) (f : Nat) (κ : X → List V → Mem → R) :
    lx lShl4E Try.f94 0 (f + 1) (lay 56 [2, 4, 5, 6, 7, 8] [.o (.a 0 0), .o (.a 1 0), .o (.a 2 0), .o (.p (.int .i64 w)), .o (.p (.int .u64 r)), .o (.p (.int .i64 (i)))]) [(.mine, .w .u64 4 xs), (.mine, .w .u64 4 zs), (.mine, .w .u64 4 out)] κ =
      cond (decide (i ≥ w)) (cond (decide (0 ≤ IntKind.i64.wrap (i - w) ∧ IntKind.i64.wrap (i - w) < ((4 : Nat) : Int))) (cond (decide (0 + (IntKind.i64.wrap (i - w)).toNat < 4)) (cond (decide (r < 0)) none (cond (decide (0 ≤ i ∧ i < ((4 : Nat) : Int))) (cond (decide (0 + i.toNat < 4 ∧ IntKind.u64 = IntKind.u64 ∧ (Ty.i .u64).size = 1)) (cond (decide (r > 0)) (cond (decide (i > w)) (cond (decide (0 ≤ i ∧ i < ((4 : Nat) : Int))) (cond (decide (0 + i.toNat < 4)) (cond (decide (0 ≤ IntKind.i64.wrap (IntKind.i64.wrap (i - w) - 1) ∧ IntKind.i64.wrap (IntKind.i64.wrap (i - w) - 1) < ((4 : Nat) : Int))) (cond (decide (0 + (IntKind.i64.wrap (IntKind.i64.wrap (i - w) - 1)).toNat < 4)) (cond (decide (IntKind.u64.wrap (64 - r) < 0)) none (cond (decide (0 ≤ i ∧ i < ((4 : Nat) : Int))) (cond (decide (0 + i.toNat < 4 ∧ IntKind.u64 = IntKind.u64 ∧ (Ty.i .u64).size = 1)) (lx lShl4E Try.f94 0 f (lay 56 [2, 4, 5, 6, 7, 8] [.o (.a 0 0), .o (.a 1 0), .o (.a 2 0), .o (.p (.int .i64 w)), .o (.p (.int .u64 r)), .o (.p (.int .i64 (IntKind.i64.wrap (i - 1))))]) [(.mine, .w .u64 4 xs), (.mine, .w .u64 4 zs), (.mine, .w .u64 4 ((out.set (0 + i.toNat) (shlI .u64 (xs.getD (0 + (IntKind.i64.wrap (i - w)).toNat) 0) r)).set (0 + i.toNat) (Go.bits .or .u64 ((out.set (0 + i.toNat) (shlI .u64 (xs.getD (0 + (IntKind.i64.wrap (i - w)).toNat) 0) r)).getD (0 + i.toNat) 0) (shrI .u64 (xs.getD (0 + (IntKind.i64.wrap (IntKind.i64.wrap (i - w) - 1)).toNat) 0) (IntKind.u64.wrap (64 - r))))))] κ) none) none)) none) none) none) none) (lx lShl4E Try.f94 0 f (lay 56 [2, 4, 5, 6, 7, 8] [.o (.a 0 0), .o (.a 1 0), .o (.a 2 0), .o (.p (.int .i64 w)), .o (.p (.int .u64 r)), .o (.p (.int .i64 (IntKind.i64.wrap (i - 1))))]) [(.mine, .w .u64 4 xs), (.mine, .w .u64 4 zs), (.mine, .w .u64 4 (out.set (0 + i.toNat) (shlI .u64 (xs.getD (0 + (IntKind.i64.wrap (i - w)).toNat) 0) r)))] κ)) (lx lShl4E Try.f94 0 f (lay 56 [2, 4, 5, 6, 7, 8] [.o (.a 0 0), .o (.a 1 0), .o (.a 2 0), .o (.p (.int .i64 w)), .o (.p (.int .u64 r)), .o (.p (.int .i64 (IntKind.i64.wrap (i - 1))))]) [(.mine, .w .u64 4 xs), (.mine, .w .u64 4 zs), (.mine, .w .u64 4 (out.set (0 + i.toNat) (shlI .u64 (xs.getD (0 + (IntKind.i64.wrap (i - w)).toNat) 0) r)))] κ)) none) none)) none) none)
        (κ (.exit 0) (lay 56 [4, 5] [.o (.a 0 0), .o (.a 1 0)]) [(.mine, .w .u64 4 zs), (.mine, .w .u64 4 out)]) := by kernel_rfl
theorem lShl4_loop (xs zs : List Int) (hx : inR .u64 xs) (w r : Nat) (hw : w < 1152921504606846976) (hr : r < 64) (κ : X → List V → Mem → R) : ∀ (k : Nat) (out : List Int), k ≤ 4 → out.length = 4 → out = List.replicate (min k 4) 0 ++ (wordsN 4 (val xs * 2 ^ (64 * w + r))).drop k →
    lx lShl4E Try.f94 0 (k + 1) (lay 56 [2, 4, 5, 6, 7, 8] [.o (.a 0 0), .o (.a 1 0), .o (.a 2 0), .o (.p (.int .i64 (w : Int))), .o (.p (.int .u64 (r : Int))), .o (.p (.int .i64 ((k : Int) - 1)))]) [(.mine, .w .u64 4 xs), (.mine, .w .u64 4 zs), (.mine, .w .u64 4 out)] κ = κ (.exit 0) (lay 56 [4, 5] [.o (.a 0 0), .o (.a 1 0)]) [(.mine, .w .u64 4 zs), (.mine, .w .u64 4 (wordsN 4 (val xs * 2 ^ (64 * w + r))))] := by
  intro k
  induction k with
  | zero =>
    intro out hK hol ho
    rw [lShl4_round, decide_eq_false (by omega), cond_false, ho]
    rfl
  | succ k ih =>
    intro out hK hol ho
    have hvn : ∀ q : Nat, 0 + ((q : Nat) : Int).toNat = q := fun q => by omega
    have e0 : ((k + 1 : Nat) : Int) - 1 = (k : Int) := by omega
    rw [e0]
    by_cases hkw : w ≤ k
    · have e1 : (k : Int) - (w : Int) = ((k - w : Nat) : Int) := by omega
      have e3 : (64 : Int) - (r : Int) = ((64 - r : Nat) : Int) := by omega
      have next := ih (List.replicate (min k 4) 0 ++ (wordsN 4 (val xs * 2 ^ (64 * w + r))).drop k) (by omega) (by rw [List.length_append, List.length_replicate, List.length_drop, length_wordsN]; omega) rfl
      have hset := shl_set (xs := xs) (n := 64 * w + r) (K := 4) (k := k) (by omega)
      obtain ⟨g0, g1⟩ := shl_word hx w r k hr hkw
      have dk : decide ((k : Int) ≥ (w : Int)) = true := decide_eq_true (by omega)
      have d1 : decide ((0 : Int) ≤ ((k - w : Nat) : Int) ∧ ((k - w : Nat) : Int) < ((4 : Nat) : Int)) = true := decide_eq_true (by omega)
      have d2 : decide (k - w < 4) = true := decide_eq_true (by omega)
      have d3 : decide ((r : Int) < 0) = false := decide_eq_false (by omega)
      have d4 : decide ((0 : Int) ≤ (k : Int) ∧ (k : Int) < ((4 : Nat) : Int)) = true := decide_eq_true (by omega)
      have d5 : decide (k < 4 ∧ IntKind.u64 = IntKind.u64 ∧ (Ty.i .u64).size = 1) = true := decide_eq_true ⟨by omega, rfl, rfl⟩
      have d6 : decide (k < 4) = true := decide_eq_true (by omega)
      have d7 : decide (((64 - r : Nat) : Int) < 0) = false := decide_eq_false (by omega)
      rw [lShl4_round, dk, cond_true, e1, i64_wrap (x := ((k - w : Nat) : Int)) (by omega) (by omega), i64_wrap (x := ((k - w : Nat) : Int) - 1) (by omega) (by omega), e3, u64_wrap (x := ((64 - r : Nat) : Int)) (by omega) (by omega), i64_wrap (x := (k : Int) - 1) (by omega) (by omega), hvn, hvn, d1, cond_true, d2, cond_true, d3, cond_false, d4, cond_true, d5, cond_true]
      have gset : ∀ q : Int, (out.set k q).getD k 0 = q := fun q => by rw [List.getD_eq_getElem?_getD, List.getElem?_set_self (by omega)]; rfl
      rw [ho] at *
      by_cases h0 : r = 0
      · subst h0
        rw [decide_eq_false (by omega), cond_false, ← g0 (.inl rfl), hset]
        exact next
      · rw [decide_eq_true (by omega), cond_true]
        by_cases h1 : w < k
        · have e2 : ((k - w : Nat) : Int) - 1 = ((k - w - 1 : Nat) : Int) := by omega
          have d8 : decide ((0 : Int) ≤ ((k - w - 1 : Nat) : Int) ∧ ((k - w - 1 : Nat) : Int) < ((4 : Nat) : Int)) = true := decide_eq_true (by omega)
          have d9 : decide (k - w - 1 < 4) = true := decide_eq_true (by omega)
          rw [decide_eq_true (by omega), cond_true, cond_true, d6, cond_true, e2, hvn, d8, cond_true, d9, cond_true, d7, cond_false, cond_true, cond_true, gset, g1 h0 h1, List.set_set, hset]
          exact next
        · rw [decide_eq_false (by omega), cond_false, ← g0 (.inr (by omega)), hset]
          exact next
    · rw [lShl4_round, decide_eq_false (by omega), cond_false, ho, shl_low (xs := xs) (n := 64 * w + r) (K := 4) (k := k + 1) (by omega) (by omega)]
theorem lShl4L_ok : LoopOK lShl4E 0 (lbody Try.f94 0) lShl4L := loopOK_lx fun vs m κ r hv hm h => by
  split at h
  case h_2 => cases h
  rename_i w r i xs zs out
  replace h := cond_none h
  obtain ⟨hc, h⟩ := h
  obtain ⟨h1, h2, h3, rfl, h5⟩ := of_decide_eq_true hc
  obtain ⟨_, _, hx3⟩ := hm 0 _ _ rfl
  obtain ⟨ho1, _, ho3⟩ := hm 2 _ _ rfl
  have hr := u64_iff.1 (hv (.o (.p (.int .u64 r))) (by simp))
  obtain ⟨w, rfl⟩ := Int.eq_ofNat_of_zero_le h1
  obtain ⟨r, rfl⟩ := Int.eq_ofNat_of_zero_le hr.1
  rw [Int.toNat_natCast, Int.toNat_natCast] at h
  exact ⟨_, (lShl4_loop xs zs hx3 w r (by omega) (by omega) κ 4 out (Nat.le_refl _) ho1 (by rw [wordsN_eq ho3 ho1 h5, List.drop_eq_nil_of_le (by rw [length_wordsN]; exact Nat.le_refl _)]; rfl)).trans h⟩
theorem lShl4_ev (xs : List Int) (n : Int) : evFn lShl4E Try.f94 [.r .u64 4 xs, .p (.int .i64 n)] =
    cond (decide (n < 1)) (some [(.mine, .r .u64 4 xs)])
      (cond (decide (0 ≤ IntKind.i64.wrap (n.tdiv 64) ∧ IntKind.i64.wrap (n.tdiv 64) < 1152921504606846976 ∧ IntKind.u64.wrap (n.tmod 64) < 64 ∧ (3 : Int) = 3 ∧ val (List.replicate 4 0) = 0))
        (some [(.mine, .r .u64 4 (wordsN 4 (val xs * 2 ^ (64 * (IntKind.i64.wrap (n.tdiv 64)).toNat + (IntKind.u64.wrap (n.tmod 64)).toNat))))]) none) := by kernel_rfl
theorem lShl4_he : ∀ ds κ r, (∀ d ∈ ds, d.wf) → lShl4C ds κ = some r → ∃ res, κ res = some r ∧ evFn lShl4E Try.f94 ds = some res := fun ds κ r hw h => by
  unfold lShl4C at h
  split at h
  case h_2 => cases h
  rename_i xs n
  refine ⟨_, h, (lShl4_ev xs n).trans ?_⟩
  obtain ⟨hl, hx⟩ := wfR hw (xs := xs) (n := 4) (by simp)
  have hn := wfI hw (x := n) (by simp)
  by_cases h0 : n < 1
  · have e : n.toNat = 0 := by omega
    have e2 : wordsN 4 (val xs) = xs := (wordsN_eq hx hl rfl).symm
    rw [decide_eq_true h0, cond_true, e, Nat.pow_zero, Nat.mul_one, e2]
  · obtain ⟨n, rfl⟩ := Int.eq_ofNat_of_zero_le (show 0 ≤ n by omega)
    rw [tdiv64, tmod64, i64_wrap (x := ((n / 64 : Nat) : Int)) (by omega) (by omega), u64_wrap (x := ((n % 64 : Nat) : Int)) (by omega) (by omega), decide_eq_false h0, cond_false, val_zeros, decide_eq_true ⟨by omega, by omega, by omega, rfl, rfl⟩, cond_true, Int.toNat_natCast, Int.toNat_natCast, Int.toNat_natCast, Nat.div_add_mod]
theorem lShl4_fn : FnOK Try.prog 94 lShl4C := fnOK_mk T mixed Try.func94 (by kernel_rfl) (fns := []) (lps := [(0, lShl4L)]) (live := [(0, [2, 4, 5, 6, 7, 8])]) (out := [(0, [4, 5])]) (fuel := 0) (give := (fun _ => false)) trivial ⟨lShl4L_ok, trivial⟩ lShl4_he
end
end Go.Proofs.Ytdpcokahhleopaa.Vm
