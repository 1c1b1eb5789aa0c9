/-
  What limbs.Cmp at width 8 comes to: a walk. No statement is proved here. (Printed by limbs.py of this session.)
-/
import Derived.Test.YtmjbikbakkbajaaCalK
namespace Go.Proofs.Ytmjbikbakkbajaa.Vm
open Go Go.Vm
noncomputable section
def lCmp8C : FnC := fun ds κ => match ds with
  | [.r .u64 8 xs, .r .u64 8 ys] => κ [(.mine, .p (.int .i64 (cmpI (val xs) (val ys))))]
  | _ => none
def lCmp8L : LpC := lpC 27 [2, 3, 5] fun vs m κ => match vs, m with
  | [.o (.a 0 0), .o (.a 1 0), .o (.p (.int .i64 i))], [(.mine, .w .u64 8 xs), (.mine, .w .u64 8 ys)] =>
    cond (decide (i = 7)) (cond (decide (val xs = val ys)) (κ (.exit 0) (lay 27 [] []) []) (κ .ret (lay 27 [4] [.o (.p (.int .i64 (cmpI (val xs) (val ys))))]) [])) none
  | _, _ => none
def lCmp8E : Env := mkE ty [] [(0, lCmp8L)] [(0, [2, 3, 5])] [(0, [4])] 0 (fun _ => false)
theorem lCmp8_round (i : Int) (xs ys : List Int) (f : Nat) (κ : X → List V → Mem → R) :
    lx lCmp8E Try.f44 0 (f + 1) (lay 27 [2, 3, 5] [.o (.a 0 0), .o (.a 1 0), .o (.p (.int .i64 (i)))]) [(.mine, .w .u64 8 xs), (.mine, .w .u64 8 ys)] κ =
      cond (decide (i ≥ 0)) (cond (decide (0 ≤ i ∧ i < ((8 : Nat) : Int))) (cond (decide (0 + i.toNat < 8)) (cond (decide (0 ≤ i ∧ i < ((8 : Nat) : Int))) (cond (decide (0 + i.toNat < 8)) (cond (xs.getD (0 + i.toNat) 0 != ys.getD (0 + i.toNat) 0) (cond (decide (0 ≤ i ∧ i < ((8 : Nat) : Int))) (cond (decide (0 + i.toNat < 8)) (cond (decide (0 ≤ i ∧ i < ((8 : Nat) : Int))) (cond (decide (0 + i.toNat < 8)) (cond (decide (xs.getD (0 + i.toNat) 0 < ys.getD (0 + i.toNat) 0)) (κ .ret (lay 27 [4] [.o (.p (.int .i64 (-1)))]) []) (κ .ret (lay 27 [4] [.o (.p (.int .i64 1))]) [])) none) none) none) none) (lx lCmp8E Try.f44 0 f (lay 27 [2, 3, 5] [.o (.a 0 0), .o (.a 1 0), .o (.p (.int .i64 (IntKind.i64.wrap (i - 1))))]) [(.mine, .w .u64 8 xs), (.mine, .w .u64 8 ys)] κ)) none) none) none) none)
        (κ (.exit 0) (lay 27 [] []) []) := by kernel_rfl
theorem lCmp8_loop (xs ys : List Int) (hx : inR .u64 xs) (hy : inR .u64 ys) (κ : X → List V → Mem → R) : ∀ (j : Nat), j ≤ 8 → val (xs.drop j) = val (ys.drop j) →
    lx lCmp8E Try.f44 0 (j + 1) (lay 27 [2, 3, 5] [.o (.a 0 0), .o (.a 1 0), .o (.p (.int .i64 ((j : Int) - 1)))]) [(.mine, .w .u64 8 xs), (.mine, .w .u64 8 ys)] κ =
      cond (decide (val xs = val ys)) (κ (.exit 0) (lay 27 [] []) []) (κ .ret (lay 27 [4] [.o (.p (.int .i64 (cmpI (val xs) (val ys))))]) []) := by
  intro j
  induction j with
  | zero =>
    intro _ he
    rw [lCmp8_round]
    have : val xs = val ys := by simpa using he
    simp [this]
  | succ j ih =>
    intro hj he
    have e1 : ((j + 1 : Nat) : Int) - 1 = (j : Int) := by omega
    have e2 : 0 + ((j : Nat) : Int).toNat = j := by omega
    have d1 : decide ((j : Int) ≥ 0) = true := decide_eq_true (by omega)
    have d2 : decide ((0 : Int) ≤ (j : Int) ∧ (j : Int) < ((8 : Nat) : Int)) = true := decide_eq_true (by omega)
    have d3 : decide (j < 8) = true := decide_eq_true (by omega)
    rw [lCmp8_round, e1, e2, d1, cond_true, d2, cond_true, d3, cond_true, cond_true, cond_true, cond_true, cond_true, cond_true, cond_true, i64_wrap (by omega) (by omega)]
    by_cases h0 : xs.getD j 0 = ys.getD j 0
    · rw [bne_eq_false_iff_eq.2 h0, cond_false]
      refine ih (by omega) ?_
      rw [val_drop_cons xs, val_drop_cons ys, he, h0]
    · rw [bne_iff_ne.2 h0, cond_true]
      by_cases h1 : xs.getD j 0 < ys.getD j 0
      · have h2 := val_lt_of hx hy j he h1
        rw [decide_eq_true h1, cond_true, decide_eq_false (by omega), cond_false]
        simp [cmpI, h2]
      · have h2 := val_lt_of hy hx j he.symm (by omega)
        have h3 : ¬ val xs < val ys := by omega
        rw [decide_eq_false h1, cond_false, decide_eq_false (by omega), cond_false]
        simp [cmpI, h2, h3]
theorem lCmp8L_ok : LoopOK lCmp8E 0 (lbody Try.f44 0) lCmp8L := loopOK_lx fun vs m κ r hv hm h => by
  split at h
  case h_2 => cases h
  rename_i i xs ys
  replace h := cond_none h
  obtain ⟨hc, h⟩ := h
  have hi := of_decide_eq_true hc
  subst hi
  obtain ⟨hx1, _, hx3⟩ := hm 0 _ _ rfl
  obtain ⟨hy1, _, hy3⟩ := hm 1 _ _ rfl
  exact ⟨_, (lCmp8_loop xs ys hx3 hy3 κ 8 (Nat.le_refl _) (by rw [List.drop_eq_nil_of_le (by omega), List.drop_eq_nil_of_le (by omega)])).trans h⟩
theorem lCmp8_ev (xs ys : List Int) : evFn lCmp8E Try.f44 [.r .u64 8 xs, .r .u64 8 ys] =
    cond (decide (val xs = val ys)) (some [(.mine, .p (.int .i64 0))]) (some [(.mine, .p (.int .i64 (cmpI (val xs) (val ys))))]) := by kernel_rfl
theorem lCmp8_he : ∀ ds κ r, (∀ d ∈ ds, d.wf) → lCmp8C ds κ = some r → ∃ res, κ res = some r ∧ evFn lCmp8E Try.f44 ds = some res := fun ds κ r hw h => by
  unfold lCmp8C at h
  split at h
  case h_2 => cases h
  rename_i xs ys
  refine ⟨_, h, (lCmp8_ev xs ys).trans ?_⟩
  by_cases he : val xs = val ys
  · simp [he, cmpI]
  · simp [he]
theorem lCmp8_fn : FnOK Try.prog 44 lCmp8C := fnOK_mk T mixed Try.func44 (by kernel_rfl) (fns := []) (lps := [(0, lCmp8L)]) (live := [(0, [2, 3, 5])]) (out := [(0, [4])]) (fuel := 0) (give := (fun _ => false)) trivial ⟨lCmp8L_ok, trivial⟩ lCmp8_he
end
end Go.Proofs.Ytmjbikbakkbajaa.Vm
