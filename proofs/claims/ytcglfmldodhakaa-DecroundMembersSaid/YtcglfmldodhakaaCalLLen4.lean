/-
  What limbs.Len at width 4 comes to: a walk. No statement is proved here. (Printed by limbs.py of this session.)
-/
import Derived.Test.YtcglfmldodhakaaCalK
namespace Go.Proofs.Ytcglfmldodhakaa.Vm
open Go Go.Vm
noncomputable section
def lLen4C : FnC := fun ds κ => match ds with
  | [.r .u64 4 xs] => κ [(.mine, .p (.int .i64 ((bitlen (val xs) : Nat) : Int)))]
  | _ => none
def lLen4L : LpC := lpC 22 [1, 3] fun vs m κ => match vs, m with
  | [.o (.a 0 0), .o (.p (.int .i64 i))], [(.mine, .w .u64 4 xs)] =>
    cond (decide (i = 3)) (cond (decide (val xs = 0)) (κ (.exit 0) (lay 22 [] []) []) (κ .ret (lay 22 [2] [.o (.p (.int .i64 ((bitlen (val xs) : Nat) : Int)))]) [])) none
  | _, _ => none
def lLen4E : Env := mkE ty [(84, len64C)] [(0, lLen4L)] [(0, [1, 3])] [(0, [2])] 0 (fun _ => false)
theorem lLen4_round (i : Int) (xs : List Int) (f : Nat) (κ : X → List V → Mem → R) :
    lx lLen4E Try.f57 0 (f + 1) (lay 22 [1, 3] [.o (.a 0 0), .o (.p (.int .i64 (i)))]) [(.mine, .w .u64 4 xs)] κ =
      cond (decide (i ≥ 0)) (cond (decide (0 ≤ i ∧ i < ((4 : Nat) : Int))) (cond (decide (0 + i.toNat < 4)) (cond (xs.getD (0 + i.toNat) 0 != 0) (cond (decide (0 ≤ i ∧ i < ((4 : Nat) : Int))) (cond (decide (0 + i.toNat < 4)) (κ .ret (lay 22 [2] [.o (.p (.int .i64 (IntKind.i64.wrap (IntKind.i64.wrap (64 * i) + ((bitlen (xs.getD (0 + i.toNat) 0).toNat : Nat) : Int)))))]) []) none) none) (lx lLen4E Try.f57 0 f (lay 22 [1, 3] [.o (.a 0 0), .o (.p (.int .i64 (IntKind.i64.wrap (i - 1))))]) [(.mine, .w .u64 4 xs)] κ)) none) none)
        (κ (.exit 0) (lay 22 [] []) []) := by kernel_rfl
theorem lLen4_loop (xs : List Int) (hx : inR .u64 xs) (hl : xs.length = 4) (κ : X → List V → Mem → R) : ∀ (j : Nat), j ≤ 4 → val xs = val (xs.take j) →
    lx lLen4E Try.f57 0 (j + 1) (lay 22 [1, 3] [.o (.a 0 0), .o (.p (.int .i64 ((j : Int) - 1)))]) [(.mine, .w .u64 4 xs)] κ =
      cond (decide (val xs = 0)) (κ (.exit 0) (lay 22 [] []) []) (κ .ret (lay 22 [2] [.o (.p (.int .i64 ((bitlen (val xs) : Nat) : Int)))]) []) := by
  intro j
  induction j with
  | zero =>
    intro _ he
    rw [lLen4_round]
    have : val xs = 0 := by simpa [val] using he
    simp [this]
  | succ j ih =>
    intro hj he
    have e1 : ((j + 1 : Nat) : Int) - 1 = (j : Int) := by omega
    have e2 : 0 + ((j : Nat) : Int).toNat = j := by omega
    have d1 : decide ((j : Int) ≥ 0) = true := decide_eq_true (by omega)
    have d2 : decide ((0 : Int) ≤ (j : Int) ∧ (j : Int) < ((4 : Nat) : Int)) = true := decide_eq_true (by omega)
    have d3 : decide (j < 4) = true := decide_eq_true (by omega)
    rw [lLen4_round, e1, e2, d1, cond_true, d2, cond_true, d3, cond_true, cond_true, cond_true, i64_wrap (x := (j : Int) - 1) (by omega) (by omega)]
    by_cases h0 : xs.getD j 0 = 0
    · rw [bne_eq_false_iff_eq.2 h0, cond_false]
      refine ih (by omega) ?_
      rw [he, val_take_succ (by omega), h0]
      rfl
    · rw [bne_iff_ne.2 h0, cond_true]
      obtain ⟨h1, h2, h3⟩ := top_word hx (by omega) he h0
      rw [decide_eq_false h1, cond_false, i64_wrap (x := 64 * (j : Int)) (by omega) (by omega), i64_wrap (by omega) (by omega), h2]
      rfl
theorem lLen4L_ok : LoopOK lLen4E 0 (lbody Try.f57 0) lLen4L := loopOK_lx fun vs m κ r hv hm h => by
  split at h
  case h_2 => cases h
  rename_i i xs
  replace h := cond_none h
  obtain ⟨hc, h⟩ := h
  have hi := of_decide_eq_true hc
  subst hi
  obtain ⟨hx1, _, hx3⟩ := hm 0 _ _ rfl
  exact ⟨_, (lLen4_loop xs hx3 hx1 κ 4 (Nat.le_refl _) (by rw [List.take_of_length_le (by omega)])).trans h⟩
theorem lLen4_ev (xs : List Int) : evFn lLen4E Try.f57 [.r .u64 4 xs] =
    cond (decide (val xs = 0)) (some [(.mine, .p (.int .i64 0))]) (some [(.mine, .p (.int .i64 ((bitlen (val xs) : Nat) : Int)))]) := by kernel_rfl
theorem lLen4_he : ∀ ds κ r, (∀ d ∈ ds, d.wf) → lLen4C ds κ = some r → ∃ res, κ res = some r ∧ evFn lLen4E Try.f57 ds = some res := fun ds κ r hw h => by
  unfold lLen4C at h
  split at h
  case h_2 => cases h
  rename_i xs
  refine ⟨_, h, (lLen4_ev xs).trans ?_⟩
  by_cases he : val xs = 0
  · simp [he, bitlen]
  · simp [he]
theorem lLen4_fn : FnOK Try.prog 57 lLen4C := fnOK_mk T mixed Try.func57 (by kernel_rfl) (fns := [(84, len64C)]) (lps := [(0, lLen4L)]) (live := [(0, [1, 3])]) (out := [(0, [2])]) (fuel := 0) (give := (fun _ => false)) ⟨len64_fn, trivial⟩ ⟨lLen4L_ok, trivial⟩ lLen4_he
end
end Go.Proofs.Ytcglfmldodhakaa.Vm
