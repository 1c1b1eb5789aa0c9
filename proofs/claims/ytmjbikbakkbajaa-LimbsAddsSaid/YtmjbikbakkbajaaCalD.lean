/-
  What the functions of caliperref02 come to: walks. No statement is proved here.
-/
import Derived.Test.YtmjbikbakkbajaaCalC
namespace Go.Proofs.Ytmjbikbakkbajaa.Vm
open Go Go.Vm
noncomputable section

/-! ### Size -/
def sizeC : FnC := fun ds κ => match ds with
  | [.w .u64 xs] => κ [(.mine, .p (.int .i64 ((wlen (val xs) : Nat) : Int)))]
  | _ => none

def sizeL : LpC := lpC 19 [0, 3] fun vs m κ => match vs, m with
  | [.o (.f 0), .o (.p (.int .i64 i))], [(_, .w .u64 n xs)] => cond (decide (i = (n : Int))) (κ (.exit 0) (lay 19 [3] [.o (.p (.int .i64 ((wlen (val xs) : Nat) : Int)))]) []) none
  | _, _ => none
def sizeE : Env := mkE ty [] [(0, sizeL)] [(0, [0, 3])] [(0, [3])] 0 (fun _ => false)
theorem size_round (i : Int) (o : Own) (n : Nat) (xs : List Int) (f : Nat) (κ : X → List V → Mem → R) :
    lx sizeE Try.f75 0 (f + 1) (lay 19 [0, 3] [.o (.f 0), .o (.p (.int .i64 i))]) [(o, .w .u64 n xs)] κ =
      cond (decide (i > 0)) (cond (decide (0 ≤ IntKind.i64.wrap (i - 1) ∧ IntKind.i64.wrap (i - 1) < (n : Int))) (cond (decide ((IntKind.i64.wrap (i - 1)).toNat < n))
        (cond (xs.getD (IntKind.i64.wrap (i - 1)).toNat 0 == 0) (lx sizeE Try.f75 0 f (lay 19 [0, 3] [.o (.f 0), .o (.p (.int .i64 (IntKind.i64.wrap (i - 1))))]) [(o, .w .u64 n xs)] κ)
          (κ (.exit 0) (lay 19 [3] [.o (.p (.int .i64 i))]) [])) none) none)
        (κ (.exit 0) (lay 19 [3] [.o (.p (.int .i64 i))]) []) := by kernel_rfl
theorem size_loop (xs : List Int) (hx : inR .u64 xs) (hl : xs.length ≤ 140737488355328) (o : Own) (κ : X → List V → Mem → R) : ∀ (j : Nat), j ≤ xs.length → val xs = val (xs.take j) →
    lx sizeE Try.f75 0 (j + 1) (lay 19 [0, 3] [.o (.f 0), .o (.p (.int .i64 (j : Int)))]) [(o, .w .u64 xs.length xs)] κ = κ (.exit 0) (lay 19 [3] [.o (.p (.int .i64 ((wlen (val xs) : Nat) : Int)))]) [] := by
  intro j
  induction j with
  | zero =>
    intro _ he
    rw [size_round]
    have : val xs = 0 := by simpa [val] using he
    rw [this]
    rfl
  | succ j ih =>
    intro hj he
    rw [size_round]
    have e1 : ((j + 1 : Nat) : Int) - 1 = (j : Int) := by omega
    rw [e1, i64_wrap (by omega) (by omega), decide_eq_true (by omega), cond_true, decide_eq_true (by omega), cond_true, Int.toNat_natCast, decide_eq_true (by omega), cond_true]
    by_cases hz : xs.getD j 0 = 0
    · rw [beq_iff_eq.2 hz, cond_true]
      refine ih (by omega) ?_
      rw [he, val_take_succ (by omega), hz]
      rfl
    · rw [beq_eq_false_iff_ne.2 hz, cond_false]
      have hw := wlen_top (inR_take hx (j + 1)) (by
        have : (xs.take (j + 1)).length - 1 = j := by simp; omega
        rw [this]
        simpa [List.getElem?_take] using hz)
      rw [he, hw, List.length_take, Nat.min_eq_left hj]
theorem sizeL_ok : LoopOK sizeE 0 (lbody Try.f75 0) sizeL := loopOK_lx fun vs m κ r hv hm h => by
  split at h
  case h_2 => cases h
  rename_i i o n xs
  replace h := cond_none h
  obtain ⟨hc, h⟩ := h
  have hc := of_decide_eq_true hc
  have hx := hm 0 _ _ rfl
  obtain ⟨rfl, hl, hR⟩ := hx
  have h47 : lim = 140737488355328 := by decide
  rw [hc]
  exact ⟨_, (size_loop xs hR (by omega) o κ xs.length (Nat.le_refl _) (by rw [List.take_length])).trans h⟩

theorem size_ev (xs : List Int) : evFn sizeE Try.f75 [.w .u64 xs] = cond (decide ((xs.length : Int) = (xs.length : Int))) (some [(.mine, .p (.int .i64 ((wlen (val xs) : Nat) : Int)))]) none := by kernel_rfl
theorem size_he : ∀ ds κ r, (∀ d ∈ ds, d.wf) → sizeC ds κ = some r → ∃ res, κ res = some r ∧ evFn sizeE Try.f75 ds = some res := fun ds κ r hw h => by
  unfold sizeC at h
  split at h
  case h_2 => cases h
  rename_i xs
  exact ⟨_, h, (size_ev xs).trans (by rw [decide_eq_true rfl, cond_true])⟩
theorem size_fn : FnOK Try.prog 75 sizeC := fnOK_mk T mixed Try.func75 (by kernel_rfl) (fns := []) (lps := [(0, sizeL)]) (live := [(0, [0, 3])]) (out := [(0, [3])]) (fuel := 0) (give := (fun _ => false)) trivial ⟨sizeL_ok, trivial⟩ size_he

/-! ### Trim -/
def trimC : FnC := fun ds κ => match ds with
  | [.w .u64 xs] => cond (decide (xs.length ≤ 1099511627776)) (κ [(.mine, .w .u64 (words (val xs)))]) none
  | _ => none

def trimL : LpC := lpC 23 [0, 3] fun vs m κ => match vs, m with
  | [.o (.f 0), .o (.p (.int .i64 i))], [(o, .w .u64 n xs)] => cond (decide (i = (n : Int))) (κ (.exit 0) (lay 23 [0, 3] [.o (.f 0), .o (.p (.int .i64 ((wlen (val xs) : Nat) : Int)))]) [(o, .w .u64 n xs)]) none
  | _, _ => none
def trimE : Env := mkE ty [] [(0, trimL)] [(0, [0, 3])] [(0, [0, 3])] 0 (fun _ => false)
theorem trim_round (i : Int) (o : Own) (n : Nat) (xs : List Int) (f : Nat) (κ : X → List V → Mem → R) :
    lx trimE Try.f97 0 (f + 1) (lay 23 [0, 3] [.o (.f 0), .o (.p (.int .i64 i))]) [(o, .w .u64 n xs)] κ =
      cond (decide (i > 0)) (cond (decide (0 ≤ IntKind.i64.wrap (i - 1) ∧ IntKind.i64.wrap (i - 1) < (n : Int))) (cond (decide ((IntKind.i64.wrap (i - 1)).toNat < n))
        (cond (xs.getD (IntKind.i64.wrap (i - 1)).toNat 0 == 0) (lx trimE Try.f97 0 f (lay 23 [0, 3] [.o (.f 0), .o (.p (.int .i64 (IntKind.i64.wrap (i - 1))))]) [(o, .w .u64 n xs)] κ)
          (κ (.exit 0) (lay 23 [0, 3] [.o (.f 0), .o (.p (.int .i64 i))]) [(o, .w .u64 n xs)])) none) none)
        (κ (.exit 0) (lay 23 [0, 3] [.o (.f 0), .o (.p (.int .i64 i))]) [(o, .w .u64 n xs)]) := by kernel_rfl
theorem trim_loop (xs : List Int) (hx : inR .u64 xs) (hl : xs.length ≤ 140737488355328) (o : Own) (κ : X → List V → Mem → R) : ∀ (j : Nat), j ≤ xs.length → val xs = val (xs.take j) →
    lx trimE Try.f97 0 (j + 1) (lay 23 [0, 3] [.o (.f 0), .o (.p (.int .i64 (j : Int)))]) [(o, .w .u64 xs.length xs)] κ = κ (.exit 0) (lay 23 [0, 3] [.o (.f 0), .o (.p (.int .i64 ((wlen (val xs) : Nat) : Int)))]) [(o, .w .u64 xs.length xs)] := by
  intro j
  induction j with
  | zero =>
    intro _ he
    rw [trim_round]
    have : val xs = 0 := by simpa [val] using he
    rw [this]
    rfl
  | succ j ih =>
    intro hj he
    rw [trim_round]
    have e1 : ((j + 1 : Nat) : Int) - 1 = (j : Int) := by omega
    rw [e1, i64_wrap (by omega) (by omega), decide_eq_true (by omega), cond_true, decide_eq_true (by omega), cond_true, Int.toNat_natCast, decide_eq_true (by omega), cond_true]
    by_cases hz : xs.getD j 0 = 0
    · rw [beq_iff_eq.2 hz, cond_true]
      refine ih (by omega) ?_
      rw [he, val_take_succ (by omega), hz]
      rfl
    · rw [beq_eq_false_iff_ne.2 hz, cond_false]
      have hw := wlen_top (inR_take hx (j + 1)) (by
        have : (xs.take (j + 1)).length - 1 = j := by simp; omega
        rw [this]
        simpa [List.getElem?_take] using hz)
      rw [he, hw, List.length_take, Nat.min_eq_left hj]
theorem trimL_ok : LoopOK trimE 0 (lbody Try.f97 0) trimL := loopOK_lx fun vs m κ r hv hm h => by
  split at h
  case h_2 => cases h
  rename_i i o n xs
  replace h := cond_none h
  obtain ⟨hc, h⟩ := h
  have hc := of_decide_eq_true hc
  have hx := hm 0 _ _ rfl
  obtain ⟨rfl, hl, hR⟩ := hx
  have h47 : lim = 140737488355328 := by decide
  rw [hc]
  exact ⟨_, (trim_loop xs hR (by omega) o κ xs.length (Nat.le_refl _) (by rw [List.take_length])).trans h⟩

theorem trim_ev (xs : List Int) : evFn trimE Try.f97 [.w .u64 xs] = cond (decide ((xs.length : Int) = (xs.length : Int))) (cond (decide (0 ≤ ((wlen (val xs) : Nat) : Int) ∧ ((wlen (val xs) : Nat) : Int) ≤ (xs.length : Int)))
    (cond (decide (0 + (((wlen (val xs) : Nat) : Int).toNat - 0) ≤ xs.length)) (cond (decide (IntKind.u64 = IntKind.u64 ∧ (List.take (((wlen (val xs) : Nat) : Int).toNat - 0) (List.drop 0 xs)).length ≤ 17592186044416))
      (some [(.mine, .w .u64 (List.take (((wlen (val xs) : Nat) : Int).toNat - 0) (List.drop 0 xs)))]) none) none) none) none := by kernel_rfl
theorem trim_he : ∀ ds κ r, (∀ d ∈ ds, d.wf) → trimC ds κ = some r → ∃ res, κ res = some r ∧ evFn trimE Try.f97 ds = some res := fun ds κ r hw h => by
  unfold trimC at h
  split at h
  case h_2 => cases h
  rename_i xs
  obtain ⟨hc, h⟩ := cond_none h
  have hc := of_decide_eq_true hc
  have hx := (wfW hw (xs := xs) (by simp)).2
  have hwl := wlen_val hx
  refine ⟨_, h, (trim_ev xs).trans ?_⟩
  rw [Int.toNat_natCast, Nat.sub_zero, List.drop_zero, take_words hx]
  rw [decide_eq_true rfl, cond_true, decide_eq_true (by omega), cond_true, decide_eq_true (by omega), cond_true, decide_eq_true (by rw [length_words]; exact ⟨rfl, by omega⟩), cond_true]
theorem trim_fn : FnOK Try.prog 97 trimC := fnOK_mk T mixed Try.func97 (by kernel_rfl) (fns := []) (lps := [(0, trimL)]) (live := [(0, [0, 3])]) (out := [(0, [0, 3])]) (fuel := 0) (give := (fun _ => false)) trivial ⟨trimL_ok, trivial⟩ trim_he

/-! ### Same -/
def sameC : FnC := fun ds κ => match ds with
  | [.w .u64 xs, .w .u64 ys] => κ [(.mine, .p (.bool (decide (val xs = val ys))))]
  | _ => none
def sameE : Env := mkE ty [(41, cmpC)] [] [] [] 0 (fun _ => false)
theorem same_ev (xs ys : List Int) : evFn sameE Try.f98 [.w .u64 xs, .w .u64 ys] = some [(.mine, .p (.bool (cmpI (val xs) (val ys) == 0)))] := by kernel_rfl
theorem cmpI_zero (a b : Nat) : (cmpI a b == 0) = decide (a = b) := by
  unfold cmpI
  by_cases h : a < b
  · rw [if_pos h, decide_eq_false (by omega)]; rfl
  · by_cases h2 : b < a
    · rw [if_neg h, if_pos h2, decide_eq_false (by omega)]; rfl
    · rw [if_neg h, if_neg h2, decide_eq_true (by omega)]; rfl
theorem same_he : ∀ ds κ r, (∀ d ∈ ds, d.wf) → sameC ds κ = some r → ∃ res, κ res = some r ∧ evFn sameE Try.f98 ds = some res := fun ds κ r hw h => by
  unfold sameC at h
  split at h
  case h_2 => cases h
  rename_i xs ys
  exact ⟨_, h, (same_ev xs ys).trans (by rw [cmpI_zero])⟩
theorem same_fn : FnOK Try.prog 98 sameC := fnOK_mk T mixed Try.func98 (by kernel_rfl) (fns := [(41, cmpC)]) (lps := []) (live := []) (out := []) (fuel := 0) (give := (fun _ => false)) ⟨cmp_fn, trivial⟩ trivial same_he
end
end Go.Proofs.Ytmjbikbakkbajaa.Vm
