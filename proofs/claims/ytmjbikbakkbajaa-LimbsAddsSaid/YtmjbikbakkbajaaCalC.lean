/-
  What the functions of caliperref02 come to: walks. No statement is proved here.
-/
import Derived.Test.YtmjbikbakkbajaaVmTy
import Derived.Test.YtmjbikbakkbajaaCalB
namespace Go.Proofs.Ytmjbikbakkbajaa.Vm
open Go Go.Vm
noncomputable section

def T : Tys Try.prog := ⟨ty, tyOK, eqOK⟩
theorem mixed : Try.prog.follows .mixedOrders = true := by kernel_rfl

theorem add64_fn : FnOK Try.prog 70 add64C := add64_ok Try.func70 (by kernel_rfl) (by kernel_rfl) (by kernel_rfl) (by kernel_rfl)
theorem sub64_fn : FnOK Try.prog 76 sub64C := sub64_ok Try.func76 (by kernel_rfl) (by kernel_rfl) (by kernel_rfl) (by kernel_rfl)

/-! ### word -/
def wordC : FnC := fun ds κ => match ds with
  | [.w .u64 xs, .p (.int .i64 i)] => κ [(.mine, .p (.int .u64 (wordI xs i)))]
  | _ => none
def wordE : Env := mkE ty [] [] [] [] 0 (fun _ => false)
theorem word_ev (xs : List Int) (i : Int) : evFn wordE Try.f77 [.w .u64 xs, .p (.int .i64 i)] =
    cond (decide (i < 0)) (some [(.mine, .p (.int .u64 0))]) (cond (decide (i ≥ (xs.length : Int))) (some [(.mine, .p (.int .u64 0))])
      (cond (decide (0 ≤ i ∧ i < (xs.length : Int))) (cond (decide (i.toNat < xs.length)) (some [(.mine, .p (.int .u64 (xs.getD i.toNat 0)))]) none) none)) := by kernel_rfl
theorem word_he : ∀ ds κ r, (∀ d ∈ ds, d.wf) → wordC ds κ = some r → ∃ res, κ res = some r ∧ evFn wordE Try.f77 ds = some res := fun ds κ r hw h => by
  unfold wordC at h
  split at h
  case h_2 => cases h
  rename_i xs i
  refine ⟨_, h, ?_⟩
  refine (word_ev xs i).trans ?_
  unfold wordI
  by_cases h0 : i < 0
  · simp [h0]
  · by_cases h1 : i ≥ (xs.length : Int)
    · have : ¬ i.toNat < xs.length := by omega
      simp [h0, h1, List.getD_eq_getElem?_getD, List.getElem?_eq_none (show xs.length ≤ i.toNat by omega)]
    · have h2 : 0 ≤ i ∧ i < (xs.length : Int) := by omega
      have h3 : i.toNat < xs.length := by omega
      simp [h0, h1, h2, h3]
theorem word_fn : FnOK Try.prog 77 wordC := fnOK_mk T mixed Try.func77 (by kernel_rfl) (fns := []) (lps := []) (live := []) (out := []) (fuel := 0) (give := (fun _ => false)) trivial trivial word_he

/-! ### Cmp -/
def cmpC : FnC := fun ds κ => match ds with
  | [.w .u64 xs, .w .u64 ys] => κ [(.mine, .p (.int .i64 (cmpI (val xs) (val ys))))]
  | _ => none
def cmpL : LpC := lpC 30 [0, 1, 5] fun vs m κ => match vs, m with
  | [.o (.f 0), .o (.f 1), .o (.p (.int .i64 i))], [(_, .w .u64 n xs), (_, .w .u64 n' ys)] => cond (decide ((n : Int) ≤ i + 1 ∧ (n' : Int) ≤ i + 1 ∧ i ≤ 281474976710656))
    (cond (decide (val xs = val ys)) (κ (.exit 0) (lay 30 [] []) []) (κ .ret (lay 30 [4] [.o (.p (.int .i64 (cmpI (val xs) (val ys))))]) [])) none
  | _, _ => none
def cmpE : Env := mkE ty [(77, wordC)] [(0, cmpL)] [(0, [0, 1, 5])] [(0, [4])] 0 (fun _ => false)
theorem cmp_round (i : Int) (o o' : Own) (n n' : Nat) (xs ys : List Int) (f : Nat) (κ : X → List V → Mem → R) :
    lx cmpE Try.f41 0 (f + 1) (lay 30 [0, 1, 5] [.o (.f 0), .o (.f 1), .o (.p (.int .i64 i))]) [(o, .w .u64 n xs), (o', .w .u64 n' ys)] κ =
      cond (decide (i ≥ 0))
        (cond (decide (wordI xs i < wordI ys i)) (κ .ret (lay 30 [4] [.o (.p (.int .i64 (-1)))]) [])
          (cond (decide (wordI xs i > wordI ys i)) (κ .ret (lay 30 [4] [.o (.p (.int .i64 1))]) [])
            (lx cmpE Try.f41 0 f (lay 30 [0, 1, 5] [.o (.f 0), .o (.f 1), .o (.p (.int .i64 (IntKind.i64.wrap (i - 1))))]) [(o, .w .u64 n xs), (o', .w .u64 n' ys)] κ)))
        (κ (.exit 0) (lay 30 [] []) []) := by kernel_rfl
theorem cmp_loop (xs ys : List Int) (hx : inR .u64 xs) (hy : inR .u64 ys) (o o' : Own) (n n' : Nat) (κ : X → List V → Mem → R) : ∀ (j : Nat), j ≤ 281474976710657 → val (xs.drop j) = val (ys.drop j) →
    lx cmpE Try.f41 0 (j + 1) (lay 30 [0, 1, 5] [.o (.f 0), .o (.f 1), .o (.p (.int .i64 ((j : Int) - 1)))]) [(o, .w .u64 n xs), (o', .w .u64 n' ys)] κ =
      cond (decide (val xs = val ys)) (κ (.exit 0) (lay 30 [] []) []) (κ .ret (lay 30 [4] [.o (.p (.int .i64 (cmpI (val xs) (val ys))))]) []) := by
  intro j
  induction j with
  | zero =>
    intro _ he
    rw [cmp_round]
    have : val xs = val ys := by simpa using he
    simp [this]
  | succ j ih =>
    intro hj he
    rw [cmp_round]
    have e1 : ((j + 1 : Nat) : Int) - 1 = (j : Int) := by omega
    rw [e1, wordI_nat, wordI_nat, i64_wrap (by omega) (by omega)]
    have h0 : decide ((j : Int) ≥ 0) = true := by simp
    rw [h0, cond_true]
    by_cases h1 : xs.getD j 0 < ys.getD j 0
    · have h2 := val_lt_of hx hy j he h1
      rw [decide_eq_true h1, cond_true, decide_eq_false (by omega), cond_false]
      simp [cmpI, h2]
    · rw [decide_eq_false h1, cond_false]
      by_cases h3 : xs.getD j 0 > ys.getD j 0
      · have h2 := val_lt_of hy hx j he.symm h3
        rw [decide_eq_true h3, cond_true, decide_eq_false (by omega), cond_false]
        have : ¬ val xs < val ys := by omega
        simp [cmpI, h2, this]
      · rw [decide_eq_false h3, cond_false]
        refine ih (by omega) ?_
        rw [val_drop_cons xs, val_drop_cons ys, he]
        have := inR_at hx j
        have := inR_at hy j
        omega
theorem cmpL_ok : LoopOK cmpE 0 (lbody Try.f41 0) cmpL := loopOK_lx fun vs m κ r hv hm h => by
  split at h
  case h_2 => cases h
  rename_i i o n xs o' n' ys
  replace h := cond_none h
  obtain ⟨hc, h⟩ := h
  obtain ⟨h1, h2, h3⟩ := of_decide_eq_true hc
  have hx := hm 0 _ _ rfl
  have hy := hm 1 _ _ rfl
  have key := cmp_loop xs ys hx.2.2 hy.2.2 o o' n n' κ (i + 1).toNat (by omega) (by rw [List.drop_eq_nil_of_le (by have := hx.1; omega), List.drop_eq_nil_of_le (by have := hy.1; omega)])
  have e : (((i + 1).toNat : Nat) : Int) - 1 = i := by omega
  rw [e] at key
  exact ⟨_, key.trans h⟩
theorem cmp_ev (xs ys : List Int) : evFn cmpE Try.f41 [.w .u64 xs, .w .u64 ys] =
    cond (decide (((xs.length : Nat) : Int) ≤ IntKind.i64.wrap ((if (ys.length : Int) > (xs.length : Int) then (ys.length : Int) else (xs.length : Int)) - 1) + 1 ∧
      ((ys.length : Nat) : Int) ≤ IntKind.i64.wrap ((if (ys.length : Int) > (xs.length : Int) then (ys.length : Int) else (xs.length : Int)) - 1) + 1 ∧
      IntKind.i64.wrap ((if (ys.length : Int) > (xs.length : Int) then (ys.length : Int) else (xs.length : Int)) - 1) ≤ 281474976710656))
    (cond (decide (val xs = val ys)) (some [(.mine, .p (.int .i64 0))]) (some [(.mine, .p (.int .i64 (cmpI (val xs) (val ys))))])) none := by kernel_rfl
theorem cmp_he : ∀ ds κ r, (∀ d ∈ ds, d.wf) → cmpC ds κ = some r → ∃ res, κ res = some r ∧ evFn cmpE Try.f41 ds = some res := fun ds κ r hw h => by
  unfold cmpC at h
  split at h
  case h_2 => cases h
  rename_i xs ys
  refine ⟨_, h, ?_⟩
  refine (cmp_ev xs ys).trans ?_
  have h1 : xs.length ≤ lim := (hw (.w .u64 xs) (by simp)).1
  have h2 : ys.length ≤ lim := (hw (.w .u64 ys) (by simp)).1
  have h47 : lim = 140737488355328 := by decide
  generalize hm : (if (ys.length : Int) > (xs.length : Int) then (ys.length : Int) else (xs.length : Int)) = mx
  have hmx : (xs.length : Int) ≤ mx ∧ (ys.length : Int) ≤ mx ∧ mx ≤ 140737488355328 := by split at hm <;> omega
  rw [i64_wrap (by omega) (by omega), decide_eq_true (by omega), cond_true]
  by_cases he : val xs = val ys
  · simp [he, cmpI]
  · simp [he]
theorem cmp_fn : FnOK Try.prog 41 cmpC := fnOK_mk T mixed Try.func41 (by kernel_rfl) (fns := [(77, wordC)]) (lps := [(0, cmpL)]) (live := [(0, [0, 1, 5])]) (out := [(0, [4])]) (fuel := 0) (give := (fun _ => false)) ⟨word_fn, trivial⟩ ⟨cmpL_ok, trivial⟩ cmp_he
end
end Go.Proofs.Ytmjbikbakkbajaa.Vm
