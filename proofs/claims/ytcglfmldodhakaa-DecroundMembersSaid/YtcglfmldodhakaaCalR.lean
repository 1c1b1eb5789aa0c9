/-
  What the functions of caliperref02 come to: walks. No statement is proved here.
-/
import Derived.Test.YtcglfmldodhakaaCalT

namespace Go.Proofs.Ytcglfmldodhakaa.Vm
open Go Go.Vm
noncomputable section

theorem add64_fn : FnOK Try.prog 48 add64C := add64_ok Try.func48 (by kernel_rfl) (by kernel_rfl) (by kernel_rfl) (by kernel_rfl)
theorem sub64_fn : FnOK Try.prog 67 sub64C := sub64_ok Try.func67 (by kernel_rfl) (by kernel_rfl) (by kernel_rfl) (by kernel_rfl)

/-! ### word -/
def wordC : FnC := fun ds κ => match ds with
  | [.w .u64 xs, .p (.int .i64 i)] => κ [(.mine, .p (.int .u64 (wordI xs i)))]
  | _ => none
def wordE : Env := mkE ty [] [] [] [] 0 (fun _ => false)
theorem word_ev (xs : List Int) (i : Int) : evFn wordE Try.f55 [.w .u64 xs, .p (.int .i64 i)] =
    cond (decide (i < 0)) (some [(.mine, .p (.int .u64 0))]) (cond (decide (i ≥ (xs.length : Int))) (some [(.mine, .p (.int .u64 0))])
      (cond (decide (0 ≤ i ∧ i < (xs.length : Int))) (cond (decide (i.toNat < xs.length)) (some [(.mine, .p (.int .u64 (xs.getD i.toNat 0)))]) none) none)) := by kernel_rfl
theorem word_he : ∀ ds κ r, (∀ d ∈ ds, d.wf) → wordC ds κ = some r → ∃ res, κ res = some r ∧ evFn wordE Try.f55 ds = some res := fun ds κ r hw h => by
  unfold wordC at h
  split at h
  case h_2 => cases h
  rename_i xs i
  refine ⟨_, h, ?_⟩
  refine (word_ev xs i).trans ?_
  unfold wordI
  by_cases h0 : i < 0
  · simp [h0]
  · by_cases h1 : i ≥ (xs.length : Int)
    · have : ¬ i.toNat < xs.length := by omega
      simp [h0, h1, List.getD_eq_getElem?_getD, List.getElem?_eq_none (show xs.length ≤ i.toNat by omega)]
    · have h2 : 0 ≤ i ∧ i < (xs.length : Int) := by omega
      have h3 : i.toNat < xs.length := by omega
      simp [h0, h1, h2, h3]
theorem word_fn : FnOK Try.prog 55 wordC := fnOK_mk T mixed Try.func55 (by kernel_rfl) (fns := []) (lps := []) (live := []) (out := []) (fuel := 0) (give := (fun _ => false)) trivial trivial word_he

/-! ### Cmp -/
def cmpC : FnC := fun ds κ => match ds with
  | [.w .u64 xs, .w .u64 ys] => κ [(.mine, .p (.int .i64 (cmpI (val xs) (val ys))))]
  | _ => none
def cmpL : LpC := lpC 30 [0, 1, 5] fun vs m κ => match vs, m with
  | [.o (.f 0), .o (.f 1), .o (.p (.int .i64 i))], [(_, .w .u64 n xs), (_, .w .u64 n' ys)] => cond (decide ((n : Int) ≤ i + 1 ∧ (n' : Int) ≤ i + 1 ∧ i ≤ 281474976710656))
    (cond (decide (val xs = val ys)) (κ (.exit 0) (lay 30 [] []) []) (κ .ret (lay 30 [4] [.o (.p (.int .i64 (cmpI (val xs) (val ys))))]) [])) none
  | _, _ => none
def cmpE : Env := mkE ty [(55, wordC)] [(0, cmpL)] [(0, [0, 1, 5])] [(0, [4])] 0 (fun _ => false)
theorem cmp_round (i : Int) (o o' : Own) (n n' : Nat) (xs ys : List Int) (f : Nat) (κ : X → List V → Mem → R) :
    lx cmpE Try.f25 0 (f + 1) (lay 30 [0, 1, 5] [.o (.f 0), .o (.f 1), .o (.p (.int .i64 i))]) [(o, .w .u64 n xs), (o', .w .u64 n' ys)] κ =
      cond (decide (i ≥ 0))
        (cond (decide (wordI xs i < wordI ys i)) (κ .ret (lay 30 [4] [.o (.p (.int .i64 (-1)))]) [])
          (cond (decide (wordI xs i > wordI ys i)) (κ .ret (lay 30 [4] [.o (.p (.int .i64 1))]) [])
            (lx cmpE Try.f25 0 f (lay 30 [0, 1, 5] [.o (.f 0), .o (.f 1), .o (.p (.int .i64 (IntKind.i64.wrap (i - 1))))]) [(o, .w .u64 n xs), (o', .w .u64 n' ys)] κ)))
        (κ (.exit 0) (lay 30 [] []) []) := by kernel_rfl
theorem cmp_loop (xs ys : List Int) (hx : inR .u64 xs) (hy : inR .u64 ys) (o o' : Own) (n n' : Nat) (κ : X → List V → Mem → R) : ∀ (j : Nat), j ≤ 281474976710657 → val (xs.drop j) = val (ys.drop j) →
    lx cmpE Try.f25 0 (j + 1) (lay 30 [0, 1, 5] [.o (.f 0), .o (.f 1), .o (.p (.int .i64 ((j : Int) - 1)))]) [(o, .w .u64 n xs), (o', .w .u64 n' ys)] κ =
      cond (decide (val xs = val ys)) (κ (.exit 0) (lay 30 [] []) []) (κ .ret (lay 30 [4] [.o (.p (.int .i64 (cmpI (val xs) (val ys))))]) []) := by
  intro j
  induction j with
  | zero =>
    intro _ he
    rw [cmp_round]
    have : val xs = val ys := by simpa using he
    simp [this]
  | succ j ih =>
    intro hj he
    rw [cmp_round]
    have e1 : ((j + 1 : Nat) : Int) - 1 = (j : Int) := by omega
    rw [e1, wordI_nat, wordI_nat, i64_wrap (by omega) (by omega)]
    have h0 : decide ((j : Int) ≥ 0) = true := by simp
    rw [h0, cond_true]
    by_cases h1 : xs.getD j 0 < ys.getD j 0
    · have h2 := val_lt_of hx hy j he h1
      rw [decide_eq_true h1, cond_true, decide_eq_false (by omega), cond_false]
      simp [cmpI, h2]
    · rw [decide_eq_false h1, cond_false]
      by_cases h3 : xs.getD j 0 > ys.getD j 0
      · have h2 := val_lt_of hy hx j he.symm h3
        rw [decide_eq_true h3, cond_true, decide_eq_false (by omega), cond_false]
        have : ¬ val xs < val ys := by omega
        simp [cmpI, h2, this]
      · rw [decide_eq_false h3, cond_false]
        refine ih (by omega) ?_
        rw [val_drop_cons xs, val_drop_cons ys, he]
        have := inR_at hx j
        have := inR_at hy j
        omega
theorem cmpL_ok : LoopOK cmpE 0 (lbody Try.f25 0) cmpL := loopOK_lx fun vs m κ r hv hm h => by
  split at h
  case h_2 => cases h
  rename_i i o n xs o' n' ys
  replace h := cond_none h
  obtain ⟨hc, h⟩ := h
  obtain ⟨h1, h2, h3⟩ := of_decide_eq_true hc
  have hx := hm 0 _ _ rfl
  have hy := hm 1 _ _ rfl
  have key := cmp_loop xs ys hx.2.2 hy.2.2 o o' n n' κ (i + 1).toNat (by omega) (by rw [List.drop_eq_nil_of_le (by have := hx.1; omega), List.drop_eq_nil_of_le (by have := hy.1; omega)])
  have e : (((i + 1).toNat : Nat) : Int) - 1 = i := by omega
  rw [e] at key
  exact ⟨_, key.trans h⟩
theorem cmp_ev (xs ys : List Int) : evFn cmpE Try.f25 [.w .u64 xs, .w .u64 ys] =
    cond (decide (((xs.length : Nat) : Int) ≤ IntKind.i64.wrap ((if (ys.length : Int) > (xs.length : Int) then (ys.length : Int) else (xs.length : Int)) - 1) + 1 ∧
      ((ys.length : Nat) : Int) ≤ IntKind.i64.wrap ((if (ys.length : Int) > (xs.length : Int) then (ys.length : Int) else (xs.length : Int)) - 1) + 1 ∧
      IntKind.i64.wrap ((if (ys.length : Int) > (xs.length : Int) then (ys.length : Int) else (xs.length : Int)) - 1) ≤ 281474976710656))
    (cond (decide (val xs = val ys)) (some [(.mine, .p (.int .i64 0))]) (some [(.mine, .p (.int .i64 (cmpI (val xs) (val ys))))])) none := by kernel_rfl
theorem cmp_he : ∀ ds κ r, (∀ d ∈ ds, d.wf) → cmpC ds κ = some r → ∃ res, κ res = some r ∧ evFn cmpE Try.f25 ds = some res := fun ds κ r hw h => by
  unfold cmpC at h
  split at h
  case h_2 => cases h
  rename_i xs ys
  refine ⟨_, h, ?_⟩
  refine (cmp_ev xs ys).trans ?_
  have h1 : xs.length ≤ lim := (hw (.w .u64 xs) (by simp)).1
  have h2 : ys.length ≤ lim := (hw (.w .u64 ys) (by simp)).1
  have h47 : lim = 140737488355328 := by decide
  generalize hm : (if (ys.length : Int) > (xs.length : Int) then (ys.length : Int) else (xs.length : Int)) = mx
  have hmx : (xs.length : Int) ≤ mx ∧ (ys.length : Int) ≤ mx ∧ mx ≤ 140737488355328 := by split at hm <;> omega
  rw [i64_wrap (by omega) (by omega), decide_eq_true (by omega), cond_true]
  by_cases he : val xs = val ys
  · simp [he, cmpI]
  · simp [he]
theorem cmp_fn : FnOK Try.prog 25 cmpC := fnOK_mk T mixed Try.func25 (by kernel_rfl) (fns := [(55, wordC)]) (lps := [(0, cmpL)]) (live := [(0, [0, 1, 5])]) (out := [(0, [4])]) (fuel := 0) (give := (fun _ => false)) ⟨word_fn, trivial⟩ ⟨cmpL_ok, trivial⟩ cmp_he
end
end Go.Proofs.Ytcglfmldodhakaa.Vm

namespace Go.Proofs.Ytcglfmldodhakaa.Vm
open Go Go.Vm
noncomputable section

/-! ### Size -/
def sizeC : FnC := fun ds κ => match ds with
  | [.w .u64 xs] => κ [(.mine, .p (.int .i64 ((wlen (val xs) : Nat) : Int)))]
  | _ => none

def sizeL : LpC := lpC 19 [0, 3] fun vs m κ => match vs, m with
  | [.o (.f 0), .o (.p (.int .i64 i))], [(_, .w .u64 n xs)] => cond (decide (i = (n : Int))) (κ (.exit 0) (lay 19 [3] [.o (.p (.int .i64 ((wlen (val xs) : Nat) : Int)))]) []) none
  | _, _ => none
def sizeE : Env := mkE ty [] [(0, sizeL)] [(0, [0, 3])] [(0, [3])] 0 (fun _ => false)
theorem size_round (i : Int) (o : Own) (n : Nat) (xs : List Int) (f : Nat) (κ : X → List V → Mem → R) :
    lx sizeE Try.f23 0 (f + 1) (lay 19 [0, 3] [.o (.f 0), .o (.p (.int .i64 i))]) [(o, .w .u64 n xs)] κ =
      cond (decide (i > 0)) (cond (decide (0 ≤ IntKind.i64.wrap (i - 1) ∧ IntKind.i64.wrap (i - 1) < (n : Int))) (cond (decide ((IntKind.i64.wrap (i - 1)).toNat < n))
        (cond (xs.getD (IntKind.i64.wrap (i - 1)).toNat 0 == 0) (lx sizeE Try.f23 0 f (lay 19 [0, 3] [.o (.f 0), .o (.p (.int .i64 (IntKind.i64.wrap (i - 1))))]) [(o, .w .u64 n xs)] κ)
          (κ (.exit 0) (lay 19 [3] [.o (.p (.int .i64 i))]) [])) none) none)
        (κ (.exit 0) (lay 19 [3] [.o (.p (.int .i64 i))]) []) := by kernel_rfl
theorem size_loop (xs : List Int) (hx : inR .u64 xs) (hl : xs.length ≤ 140737488355328) (o : Own) (κ : X → List V → Mem → R) : ∀ (j : Nat), j ≤ xs.length → val xs = val (xs.take j) →
    lx sizeE Try.f23 0 (j + 1) (lay 19 [0, 3] [.o (.f 0), .o (.p (.int .i64 (j : Int)))]) [(o, .w .u64 xs.length xs)] κ = κ (.exit 0) (lay 19 [3] [.o (.p (.int .i64 ((wlen (val xs) : Nat) : Int)))]) [] := by
  intro j
  induction j with
  | zero =>
    intro _ he
    rw [size_round]
    have : val xs = 0 := by simpa [val] using he
    rw [this]
    rfl
  | succ j ih =>
    intro hj he
    rw [size_round]
    have e1 : ((j + 1 : Nat) : Int) - 1 = (j : Int) := by omega
    rw [e1, i64_wrap (by omega) (by omega), decide_eq_true (by omega), cond_true, decide_eq_true (by omega), cond_true, Int.toNat_natCast, decide_eq_true (by omega), cond_true]
    by_cases hz : xs.getD j 0 = 0
    · rw [beq_iff_eq.2 hz, cond_true]
      refine ih (by omega) ?_
      rw [he, val_take_succ (by omega), hz]
      rfl
    · rw [beq_eq_false_iff_ne.2 hz, cond_false]
      have hw := wlen_top (inR_take hx (j + 1)) (by
        have : (xs.take (j + 1)).length - 1 = j := by simp; omega
        rw [this]
        simpa [List.getElem?_take] using hz)
      rw [he, hw, List.length_take, Nat.min_eq_left hj]
theorem sizeL_ok : LoopOK sizeE 0 (lbody Try.f23 0) sizeL := loopOK_lx fun vs m κ r hv hm h => by
  split at h
  case h_2 => cases h
  rename_i i o n xs
  replace h := cond_none h
  obtain ⟨hc, h⟩ := h
  have hc := of_decide_eq_true hc
  have hx := hm 0 _ _ rfl
  obtain ⟨rfl, hl, hR⟩ := hx
  have h47 : lim = 140737488355328 := by decide
  rw [hc]
  exact ⟨_, (size_loop xs hR (by omega) o κ xs.length (Nat.le_refl _) (by rw [List.take_length])).trans h⟩

theorem size_ev (xs : List Int) : evFn sizeE Try.f23 [.w .u64 xs] = cond (decide ((xs.length : Int) = (xs.length : Int))) (some [(.mine, .p (.int .i64 ((wlen (val xs) : Nat) : Int)))]) none := by kernel_rfl
theorem size_he : ∀ ds κ r, (∀ d ∈ ds, d.wf) → sizeC ds κ = some r → ∃ res, κ res = some r ∧ evFn sizeE Try.f23 ds = some res := fun ds κ r hw h => by
  unfold sizeC at h
  split at h
  case h_2 => cases h
  rename_i xs
  exact ⟨_, h, (size_ev xs).trans (by rw [decide_eq_true rfl, cond_true])⟩
theorem size_fn : FnOK Try.prog 23 sizeC := fnOK_mk T mixed Try.func23 (by kernel_rfl) (fns := []) (lps := [(0, sizeL)]) (live := [(0, [0, 3])]) (out := [(0, [3])]) (fuel := 0) (give := (fun _ => false)) trivial ⟨sizeL_ok, trivial⟩ size_he

/-! ### Trim -/
def trimC : FnC := fun ds κ => match ds with
  | [.w .u64 xs] => cond (decide (xs.length ≤ 1099511627776)) (κ [(.mine, .w .u64 (words (val xs)))]) none
  | _ => none

def trimL : LpC := lpC 23 [0, 3] fun vs m κ => match vs, m with
  | [.o (.f 0), .o (.p (.int .i64 i))], [(o, .w .u64 n xs)] => cond (decide (i = (n : Int))) (κ (.exit 0) (lay 23 [0, 3] [.o (.f 0), .o (.p (.int .i64 ((wlen (val xs) : Nat) : Int)))]) [(o, .w .u64 n xs)]) none
  | _, _ => none
def trimE : Env := mkE ty [] [(0, trimL)] [(0, [0, 3])] [(0, [0, 3])] 0 (fun _ => false)
theorem trim_round (i : Int) (o : Own) (n : Nat) (xs : List Int) (f : Nat) (κ : X → List V → Mem → R) :
    lx trimE Try.f42 0 (f + 1) (lay 23 [0, 3] [.o (.f 0), .o (.p (.int .i64 i))]) [(o, .w .u64 n xs)] κ =
      cond (decide (i > 0)) (cond (decide (0 ≤ IntKind.i64.wrap (i - 1) ∧ IntKind.i64.wrap (i - 1) < (n : Int))) (cond (decide ((IntKind.i64.wrap (i - 1)).toNat < n))
        (cond (xs.getD (IntKind.i64.wrap (i - 1)).toNat 0 == 0) (lx trimE Try.f42 0 f (lay 23 [0, 3] [.o (.f 0), .o (.p (.int .i64 (IntKind.i64.wrap (i - 1))))]) [(o, .w .u64 n xs)] κ)
          (κ (.exit 0) (lay 23 [0, 3] [.o (.f 0), .o (.p (.int .i64 i))]) [(o, .w .u64 n xs)])) none) none)
        (κ (.exit 0) (lay 23 [0, 3] [.o (.f 0), .o (.p (.int .i64 i))]) [(o, .w .u64 n xs)]) := by kernel_rfl
theorem trim_loop (xs : List Int) (hx : inR .u64 xs) (hl : xs.length ≤ 140737488355328) (o : Own) (κ : X → List V → Mem → R) : ∀ (j : Nat), j ≤ xs.length → val xs = val (xs.take j) →
    lx trimE Try.f42 0 (j + 1) (lay 23 [0, 3] [.o (.f 0), .o (.p (.int .i64 (j : Int)))]) [(o, .w .u64 xs.length xs)] κ = κ (.exit 0) (lay 23 [0, 3] [.o (.f 0), .o (.p (.int .i64 ((wlen (val xs) : Nat) : Int)))]) [(o, .w .u64 xs.length xs)] := by
  intro j
  induction j with
  | zero =>
    intro _ he
    rw [trim_round]
    have : val xs = 0 := by simpa [val] using he
    rw [this]
    rfl
  | succ j ih =>
    intro hj he
    rw [trim_round]
    have e1 : ((j + 1 : Nat) : Int) - 1 = (j : Int) := by omega
    rw [e1, i64_wrap (by omega) (by omega), decide_eq_true (by omega), cond_true, decide_eq_true (by omega), cond_true, Int.toNat_natCast, decide_eq_true (by omega), cond_true]
    by_cases hz : xs.getD j 0 = 0
    · rw [beq_iff_eq.2 hz, cond_true]
      refine ih (by omega) ?_
      rw [he, val_take_succ (by omega), hz]
      rfl
    · rw [beq_eq_false_iff_ne.2 hz, cond_false]
      have hw := wlen_top (inR_take hx (j + 1)) (by
        have : (xs.take (j + 1)).length - 1 = j := by simp; omega
        rw [this]
        simpa [List.getElem?_take] using hz)
      rw [he, hw, List.length_take, Nat.min_eq_left hj]
theorem trimL_ok : LoopOK trimE 0 (lbody Try.f42 0) trimL := loopOK_lx fun vs m κ r hv hm h => by
  split at h
  case h_2 => cases h
  rename_i i o n xs
  replace h := cond_none h
  obtain ⟨hc, h⟩ := h
  have hc := of_decide_eq_true hc
  have hx := hm 0 _ _ rfl
  obtain ⟨rfl, hl, hR⟩ := hx
  have h47 : lim = 140737488355328 := by decide
  rw [hc]
  exact ⟨_, (trim_loop xs hR (by omega) o κ xs.length (Nat.le_refl _) (by rw [List.take_length])).trans h⟩

theorem trim_ev (xs : List Int) : evFn trimE Try.f42 [.w .u64 xs] = cond (decide ((xs.length : Int) = (xs.length : Int))) (cond (decide (0 ≤ ((wlen (val xs) : Nat) : Int) ∧ ((wlen (val xs) : Nat) : Int) ≤ (xs.length : Int)))
    (cond (decide (0 + (((wlen (val xs) : Nat) : Int).toNat - 0) ≤ xs.length)) (cond (decide (IntKind.u64 = IntKind.u64 ∧ (List.take (((wlen (val xs) : Nat) : Int).toNat - 0) (List.drop 0 xs)).length ≤ 17592186044416))
      (some [(.mine, .w .u64 (List.take (((wlen (val xs) : Nat) : Int).toNat - 0) (List.drop 0 xs)))]) none) none) none) none := by kernel_rfl
theorem trim_he : ∀ ds κ r, (∀ d ∈ ds, d.wf) → trimC ds κ = some r → ∃ res, κ res = some r ∧ evFn trimE Try.f42 ds = some res := fun ds κ r hw h => by
  unfold trimC at h
  split at h
  case h_2 => cases h
  rename_i xs
  obtain ⟨hc, h⟩ := cond_none h
  have hc := of_decide_eq_true hc
  have hx := (wfW hw (xs := xs) (by simp)).2
  have hwl := wlen_val hx
  refine ⟨_, h, (trim_ev xs).trans ?_⟩
  rw [Int.toNat_natCast, Nat.sub_zero, List.drop_zero, take_words hx]
  rw [decide_eq_true rfl, cond_true, decide_eq_true (by omega), cond_true, decide_eq_true (by omega), cond_true, decide_eq_true (by rw [length_words]; exact ⟨rfl, by omega⟩), cond_true]
theorem trim_fn : FnOK Try.prog 42 trimC := fnOK_mk T mixed Try.func42 (by kernel_rfl) (fns := []) (lps := [(0, trimL)]) (live := [(0, [0, 3])]) (out := [(0, [0, 3])]) (fuel := 0) (give := (fun _ => false)) trivial ⟨trimL_ok, trivial⟩ trim_he

/-! ### Same -/
def sameC : FnC := fun ds κ => match ds with
  | [.w .u64 xs, .w .u64 ys] => κ [(.mine, .p (.bool (decide (val xs = val ys))))]
  | _ => none
def sameE : Env := mkE ty [(25, cmpC)] [] [] [] 0 (fun _ => false)
theorem same_ev (xs ys : List Int) : evFn sameE Try.f17 [.w .u64 xs, .w .u64 ys] = some [(.mine, .p (.bool (cmpI (val xs) (val ys) == 0)))] := by kernel_rfl
theorem cmpI_zero (a b : Nat) : (cmpI a b == 0) = decide (a = b) := by
  unfold cmpI
  by_cases h : a < b
  · rw [if_pos h, decide_eq_false (by omega)]; rfl
  · by_cases h2 : b < a
    · rw [if_neg h, if_pos h2, decide_eq_false (by omega)]; rfl
    · rw [if_neg h, if_neg h2, decide_eq_true (by omega)]; rfl
theorem same_he : ∀ ds κ r, (∀ d ∈ ds, d.wf) → sameC ds κ = some r → ∃ res, κ res = some r ∧ evFn sameE Try.f17 ds = some res := fun ds κ r hw h => by
  unfold sameC at h
  split at h
  case h_2 => cases h
  rename_i xs ys
  exact ⟨_, h, (same_ev xs ys).trans (by rw [cmpI_zero])⟩
theorem same_fn : FnOK Try.prog 17 sameC := fnOK_mk T mixed Try.func17 (by kernel_rfl) (fns := [(25, cmpC)]) (lps := []) (live := []) (out := []) (fuel := 0) (give := (fun _ => false)) ⟨cmp_fn, trivial⟩ trivial same_he
end
end Go.Proofs.Ytcglfmldodhakaa.Vm

namespace Go.Proofs.Ytcglfmldodhakaa.Vm
open Go Go.Vm
noncomputable section

/-! ### Add -/
def addC : FnC := fun ds κ => match ds with
  | [.w .u64 xs, .w .u64 ys] => cond (decide (xs.length ≤ 549755813888 ∧ ys.length ≤ 549755813888)) (κ [(.mine, .w .u64 (words (val xs + val ys)))]) none
  | _ => none
def addL : LpC := lpC 37 [0, 1, 5, 6, 16, 17] fun vs m κ => match vs, m with
  | [.o (.f 0), .o (.f 1), .o (.f 2), .o (.p (.int .u64 c)), .o (.p (.int .i64 n)), .o (.p (.int .i64 i))], [(_, .w .u64 _ xs), (_, .w .u64 _ ys), (.mine, .w .u64 n3 _)] =>
    cond (decide (c = 0 ∧ n = (n3 : Int) ∧ i = 0)) (κ (.exit 0) (lay 37 [5] [.o (.f 0)]) [(.mine, .w .u64 n3 (wordsN n3 (val xs + val ys)))]) none
  | _, _ => none
def addE : Env := mkE ty [(55, wordC), (48, add64C), (42, trimC)] [(0, addL)] [(0, [0, 1, 5, 6, 16, 17])] [(0, [5])] 0 (fun _ => false)
def addSt (c n i : Int) : List V := lay 37 [0, 1, 5, 6, 16, 17] [.o (.f 0), .o (.f 1), .o (.f 2), .o (.p (.int .u64 c)), .o (.p (.int .i64 n)), .o (.p (.int .i64 i))]
theorem add_round (c n i : Int) (o o' : Own) (n1 n2 n3 : Nat) (xs ys out : List Int) (f : Nat) (κ : X → List V → Mem → R) :
    lx addE Try.f24 0 (f + 1) (addSt c n i) [(o, .w .u64 n1 xs), (o', .w .u64 n2 ys), (.mine, .w .u64 n3 out)] κ =
      cond (decide (i < n)) (cond (decide (c ≤ 1)) (cond (decide (0 ≤ i ∧ i < (n3 : Int))) (cond (decide (i.toNat < n3 ∧ IntKind.u64 = IntKind.u64 ∧ (Ty.i .u64).size = 1))
        (lx addE Try.f24 0 f (addSt ((wordI xs i + wordI ys i + c) / 18446744073709551616) n (IntKind.i64.wrap (i + 1))) [(o, .w .u64 n1 xs), (o', .w .u64 n2 ys), (.mine, .w .u64 n3 (out.set i.toNat ((wordI xs i + wordI ys i + c) % 18446744073709551616)))] κ) none) none) none)
      (κ (.exit 0) (lay 37 [5] [.o (.f 0)]) [(.mine, .w .u64 n3 out)]) := by kernel_rfl
theorem add_loop (xs ys : List Int) (hx : inR .u64 xs) (hy : inR .u64 ys) (o o' : Own) (n1 n2 n3 : Nat) (h3 : n3 ≤ 140737488355328) (κ : X → List V → Mem → R) : ∀ (k i : Nat) (c : Nat) (out : List Int), i + k = n3 → c ≤ 1 → inR .u64 out → out.length = n3 →
    val (out.take i) + 18446744073709551616 ^ i * c = val xs % 18446744073709551616 ^ i + val ys % 18446744073709551616 ^ i →
    lx addE Try.f24 0 (k + 1) (addSt c n3 i) [(o, .w .u64 n1 xs), (o', .w .u64 n2 ys), (.mine, .w .u64 n3 out)] κ = κ (.exit 0) (lay 37 [5] [.o (.f 0)]) [(.mine, .w .u64 n3 (wordsN n3 (val xs + val ys)))] := by
  intro k
  induction k with
  | zero =>
    intro i c out hi hc hR hl hv
    rw [add_round, decide_eq_false (by omega), cond_false]
    have : out = wordsN n3 (val xs + val ys) := by
      refine wordsN_mod n3 _ ▸ wordsN_eq hR hl ?_
      have hi : i = n3 := by omega
      subst hi
      rw [List.take_of_length_le (by omega)] at hv
      have hlt := val_lt hR
      rw [hl] at hlt
      rw [Nat.add_mod, ← hv, Nat.add_mul_mod_self_left, Nat.mod_eq_of_lt hlt]
    rw [← this]
  | succ k ih =>
    intro i c out hi hc hR hl hv
    have e1 : ((i : Nat) : Int).toNat = i := Int.toNat_natCast i
    rw [add_round, wordI_nat, wordI_nat, decide_eq_true (by omega), cond_true, decide_eq_true (by omega), cond_true, decide_eq_true (by omega), cond_true, e1, decide_eq_true ⟨by omega, rfl, rfl⟩, cond_true, i64_wrap (by omega) (by omega)]
    have ax := inR_at hx i
    have ay := inR_at hy i
    generalize hX : xs.getD i 0 = x at *
    generalize hY : ys.getD i 0 = y at *
    have ec : (x + y + (c : Int)) / 18446744073709551616 = (((x.toNat + y.toNat + c) / 18446744073709551616 : Nat) : Int) := by omega
    have es : ((x + y + (c : Int)) % 18446744073709551616).toNat = (x.toNat + y.toNat + c) % 18446744073709551616 := by omega
    rw [ec]
    refine ih (i + 1) _ _ (by omega) (by omega) (inR_set hR i (by omega) (by omega)) (by simpa using hl) ?_
    rw [val_take_set (by omega), es, mod_step_at hx, mod_step_at hy, hX, hY, Nat.pow_succ]
    exact carry_step hv (by omega)
theorem addL_ok : LoopOK addE 0 (lbody Try.f24 0) addL := loopOK_lx fun vs m κ r hv hm h => by
  split at h
  case h_2 => cases h
  rename_i c n i o n1 xs o' n2 ys n3 out
  replace h := cond_none h
  obtain ⟨hc, h⟩ := h
  obtain ⟨rfl, rfl, rfl⟩ := of_decide_eq_true hc
  have hx := hm 0 _ _ rfl
  have hy := hm 1 _ _ rfl
  have hz := hm 2 _ _ rfl
  have h47 : lim = 140737488355328 := by decide
  exact ⟨_, (add_loop xs ys hx.2.2 hy.2.2 o o' n1 n2 n3 (by have := hz.2.1; omega) κ n3 0 0 out (by omega) (by omega) hz.2.2 hz.1 (by simp [val, Nat.mod_one])).trans h⟩
theorem add_ev (xs ys : List Int) : evFn addE Try.f24 [.w .u64 xs, .w .u64 ys] =
    let l := IntKind.i64.wrap ((if (ys.length : Int) > (xs.length : Int) then (ys.length : Int) else (xs.length : Int)) + 1)
    cond (decide (0 ≤ l ∧ l ≤ l ∧ l ≤ 17592186044416)) (cond (decide ((0 : Int) = 0 ∧ (l.toNat : Int) = (l.toNat : Int) ∧ (0 : Int) = 0))
      (cond (decide ((wordsN l.toNat (val xs + val ys)).length ≤ 1099511627776)) (some [(.mine, .w .u64 (words (val (wordsN l.toNat (val xs + val ys)))))]) none) none) none := by kernel_rfl
theorem add_he : ∀ ds κ r, (∀ d ∈ ds, d.wf) → addC ds κ = some r → ∃ res, κ res = some r ∧ evFn addE Try.f24 ds = some res := fun ds κ r hw h => by
  unfold addC at h
  split at h
  case h_2 => cases h
  rename_i xs ys
  obtain ⟨hc, h⟩ := cond_none h
  have hc := of_decide_eq_true hc
  have hx := (wfW hw (xs := xs) (by simp)).2
  have hy := (wfW hw (xs := ys) (by simp)).2
  refine ⟨_, h, (add_ev xs ys).trans ?_⟩
  generalize hm : (if (ys.length : Int) > (xs.length : Int) then (ys.length : Int) else (xs.length : Int)) = mx
  have hmx : (xs.length : Int) ≤ mx ∧ (ys.length : Int) ≤ mx ∧ mx ≤ 549755813888 := by split at hm <;> omega
  rw [i64_wrap (by omega) (by omega)]
  have hlt : val xs + val ys < 18446744073709551616 ^ (mx + 1).toNat := by
    have h1 : val xs < 18446744073709551616 ^ mx.toNat := Nat.lt_of_lt_of_le (val_lt hx) (Nat.pow_le_pow_right (by decide) (by omega))
    have h2 : val ys < 18446744073709551616 ^ mx.toNat := Nat.lt_of_lt_of_le (val_lt hy) (Nat.pow_le_pow_right (by decide) (by omega))
    rw [show (mx + 1).toNat = mx.toNat + 1 from by omega, Nat.pow_succ]
    omega
  simp only [length_wordsN, val_wordsN]
  rw [Nat.mod_eq_of_lt hlt, decide_eq_true (by omega), cond_true, decide_eq_true ⟨trivial, trivial, trivial⟩, cond_true, decide_eq_true (by omega), cond_true]
theorem add_fn : FnOK Try.prog 24 addC := fnOK_mk T mixed Try.func24 (by kernel_rfl) (fns := [(55, wordC), (48, add64C), (42, trimC)]) (lps := [(0, addL)]) (live := [(0, [0, 1, 5, 6, 16, 17])]) (out := [(0, [5])]) (fuel := 0) (give := (fun _ => false)) ⟨word_fn, add64_fn, trim_fn, trivial⟩ ⟨addL_ok, trivial⟩ add_he

/-! ### Less -/
def lessC : FnC := fun ds κ => match ds with
  | [.w .u64 xs, .w .u64 ys] => cond (decide (xs.length ≤ 549755813888 ∧ ys.length ≤ 549755813888 ∧ val ys ≤ val xs)) (κ [(.mine, .w .u64 (words (val xs - val ys)))]) none
  | _ => none
def lessL : LpC := lpC 36 [0, 1, 5, 6, 15, 16] fun vs m κ => match vs, m with
  | [.o (.f 0), .o (.f 1), .o (.f 2), .o (.p (.int .u64 c)), .o (.p (.int .i64 n)), .o (.p (.int .i64 i))], [(_, .w .u64 n1 xs), (_, .w .u64 n2 ys), (.mine, .w .u64 n3 _)] =>
    cond (decide (c = 0 ∧ n = (n3 : Int) ∧ i = 0 ∧ n1 ≤ n3 ∧ n2 ≤ n3 ∧ val ys ≤ val xs)) (κ (.exit 0) (lay 36 [5] [.o (.f 0)]) [(.mine, .w .u64 n3 (wordsN n3 (val xs - val ys)))]) none
  | _, _ => none
def lessE : Env := mkE ty [(55, wordC), (67, sub64C), (42, trimC)] [(0, lessL)] [(0, [0, 1, 5, 6, 15, 16])] [(0, [5])] 0 (fun _ => false)
def lessSt (c n i : Int) : List V := lay 36 [0, 1, 5, 6, 15, 16] [.o (.f 0), .o (.f 1), .o (.f 2), .o (.p (.int .u64 c)), .o (.p (.int .i64 n)), .o (.p (.int .i64 i))]
theorem less_round (c n i : Int) (o o' : Own) (n1 n2 n3 : Nat) (xs ys out : List Int) (f : Nat) (κ : X → List V → Mem → R) :
    lx lessE Try.f52 0 (f + 1) (lessSt c n i) [(o, .w .u64 n1 xs), (o', .w .u64 n2 ys), (.mine, .w .u64 n3 out)] κ =
      cond (decide (i < n)) (cond (decide (c ≤ 1)) (cond (decide (0 ≤ i ∧ i < (n3 : Int))) (cond (decide (i.toNat < n3 ∧ IntKind.u64 = IntKind.u64 ∧ (Ty.i .u64).size = 1))
        (lx lessE Try.f52 0 f (lessSt (-((wordI xs i - wordI ys i - c) / 18446744073709551616)) n (IntKind.i64.wrap (i + 1))) [(o, .w .u64 n1 xs), (o', .w .u64 n2 ys), (.mine, .w .u64 n3 (out.set i.toNat ((wordI xs i - wordI ys i - c) % 18446744073709551616)))] κ) none) none) none)
      (κ (.exit 0) (lay 36 [5] [.o (.f 0)]) [(.mine, .w .u64 n3 out)]) := by kernel_rfl
theorem less_loop (xs ys : List Int) (hx : inR .u64 xs) (hy : inR .u64 ys) (o o' : Own) (n1 n2 n3 : Nat) (h3 : n3 ≤ 140737488355328) (hxl : xs.length ≤ n3) (hyl : ys.length ≤ n3) (hle : val ys ≤ val xs) (κ : X → List V → Mem → R) : ∀ (k i : Nat) (c : Nat) (out : List Int), i + k = n3 → c ≤ 1 → inR .u64 out → out.length = n3 →
    val (out.take i) + val ys % 18446744073709551616 ^ i = val xs % 18446744073709551616 ^ i + 18446744073709551616 ^ i * c →
    lx lessE Try.f52 0 (k + 1) (lessSt c n3 i) [(o, .w .u64 n1 xs), (o', .w .u64 n2 ys), (.mine, .w .u64 n3 out)] κ = κ (.exit 0) (lay 36 [5] [.o (.f 0)]) [(.mine, .w .u64 n3 (wordsN n3 (val xs - val ys)))] := by
  intro k
  induction k with
  | zero =>
    intro i c out hi hc hR hl hv
    rw [less_round, decide_eq_false (by omega), cond_false]
    have : out = wordsN n3 (val xs - val ys) := by
      refine wordsN_eq hR hl ?_
      have hi : i = n3 := by omega
      subst hi
      rw [List.take_of_length_le (by omega)] at hv
      have hlt := val_lt hR
      rw [hl] at hlt
      have hxlt : val xs < 18446744073709551616 ^ i := Nat.lt_of_lt_of_le (val_lt hx) (Nat.pow_le_pow_right (by decide) hxl)
      rw [Nat.mod_eq_of_lt hxlt, Nat.mod_eq_of_lt (by omega)] at hv
      have : c = 0 ∨ c = 1 := by omega
      rcases this with rfl | rfl
      · omega
      · omega
    rw [← this]
  | succ k ih =>
    intro i c out hi hc hR hl hv
    have e1 : ((i : Nat) : Int).toNat = i := Int.toNat_natCast i
    rw [less_round, wordI_nat, wordI_nat, decide_eq_true (by omega), cond_true, decide_eq_true (by omega), cond_true, decide_eq_true (by omega), cond_true, e1, decide_eq_true ⟨by omega, rfl, rfl⟩, cond_true, i64_wrap (by omega) (by omega)]
    have ax := inR_at hx i
    have ay := inR_at hy i
    generalize hX : xs.getD i 0 = x at *
    generalize hY : ys.getD i 0 = y at *
    obtain ⟨b, hb⟩ : ∃ b : Nat, -((x - y - (c : Int)) / 18446744073709551616) = (b : Int) := ⟨(-((x - y - (c : Int)) / 18446744073709551616)).toNat, by omega⟩
    have es : ((x - y - (c : Int)) % 18446744073709551616).toNat + y.toNat + c = x.toNat + 18446744073709551616 * b := by omega
    rw [hb]
    refine ih (i + 1) _ _ (by omega) (by omega) (inR_set hR i (by omega) (by omega)) (by simpa using hl) ?_
    rw [val_take_set (by omega), mod_step_at hx, mod_step_at hy, hX, hY, Nat.pow_succ]
    exact borrow_step hv es
theorem lessL_ok : LoopOK lessE 0 (lbody Try.f52 0) lessL := loopOK_lx fun vs m κ r hv hm h => by
  split at h
  case h_2 => cases h
  rename_i c n i o n1 xs o' n2 ys n3 out
  replace h := cond_none h
  obtain ⟨hc, h⟩ := h
  obtain ⟨rfl, rfl, rfl, h1, h2, hle⟩ := of_decide_eq_true hc
  have hx := hm 0 _ _ rfl
  have hy := hm 1 _ _ rfl
  have hz := hm 2 _ _ rfl
  have h47 : lim = 140737488355328 := by decide
  exact ⟨_, (less_loop xs ys hx.2.2 hy.2.2 o o' n1 n2 n3 (by have := hz.2.1; omega) (by have := hx.1; omega) (by have := hy.1; omega) hle κ n3 0 0 out (by omega) (by omega) hz.2.2 hz.1 (by simp [val, Nat.mod_one])).trans h⟩
theorem less_ev (xs ys : List Int) : evFn lessE Try.f52 [.w .u64 xs, .w .u64 ys] =
    let l := (if (ys.length : Int) > (xs.length : Int) then (ys.length : Int) else (xs.length : Int))
    cond (decide (0 ≤ l ∧ l ≤ l ∧ l ≤ 17592186044416)) (cond (decide ((0 : Int) = 0 ∧ (l.toNat : Int) = (l.toNat : Int) ∧ (0 : Int) = 0 ∧ xs.length ≤ l.toNat ∧ ys.length ≤ l.toNat ∧ val ys ≤ val xs))
      (cond (decide ((wordsN l.toNat (val xs - val ys)).length ≤ 1099511627776)) (some [(.mine, .w .u64 (words (val (wordsN l.toNat (val xs - val ys)))))]) none) none) none := by kernel_rfl
theorem less_he : ∀ ds κ r, (∀ d ∈ ds, d.wf) → lessC ds κ = some r → ∃ res, κ res = some r ∧ evFn lessE Try.f52 ds = some res := fun ds κ r hw h => by
  unfold lessC at h
  split at h
  case h_2 => cases h
  rename_i xs ys
  obtain ⟨hc, h⟩ := cond_none h
  have hc := of_decide_eq_true hc
  have hx := (wfW hw (xs := xs) (by simp)).2
  have hy := (wfW hw (xs := ys) (by simp)).2
  refine ⟨_, h, (less_ev xs ys).trans ?_⟩
  generalize hm : (if (ys.length : Int) > (xs.length : Int) then (ys.length : Int) else (xs.length : Int)) = mx
  have hmx : (xs.length : Int) ≤ mx ∧ (ys.length : Int) ≤ mx ∧ mx ≤ 549755813888 := by split at hm <;> omega
  have hlt : val xs - val ys < 18446744073709551616 ^ mx.toNat := by
    have h1 : val xs < 18446744073709551616 ^ mx.toNat := Nat.lt_of_lt_of_le (val_lt hx) (Nat.pow_le_pow_right (by decide) (by omega))
    omega
  simp only [length_wordsN, val_wordsN]
  rw [Nat.mod_eq_of_lt hlt, decide_eq_true (by omega), cond_true, decide_eq_true ⟨trivial, trivial, trivial, by omega, by omega, hc.2.2⟩, cond_true, decide_eq_true (by omega), cond_true]
theorem less_fn : FnOK Try.prog 52 lessC := fnOK_mk T mixed Try.func52 (by kernel_rfl) (fns := [(55, wordC), (67, sub64C), (42, trimC)]) (lps := [(0, lessL)]) (live := [(0, [0, 1, 5, 6, 15, 16])]) (out := [(0, [5])]) (fuel := 0) (give := (fun _ => false)) ⟨word_fn, sub64_fn, trim_fn, trivial⟩ ⟨lessL_ok, trivial⟩ less_he
end
end Go.Proofs.Ytcglfmldodhakaa.Vm

namespace Go.Proofs.Ytcglfmldodhakaa.Vm
open Go Go.Vm
noncomputable section

/-! ### Len64 -/
def lenTab : ByteArray := ⟨((List.range 256).map fun n => UInt8.ofNat (bitlen n)).toArray⟩
def len64C : FnC := fun ds κ => match ds with
  | [.p (.int .u64 x)] => κ [(.mine, .p (.int .i64 ((bitlen x.toNat : Nat) : Int)))]
  | _ => none
def len64E : Env := mkE ty [] [] [] [] 0 (fun _ => false)
def len64c (x n : Int) : R := cond (decide (0 ≤ IntKind.u8.wrap x ∧ IntKind.u8.wrap x < (lenTab.size : Int))) (some [(.mine, .p (.int .i64 (IntKind.i64.wrap (n + IntKind.i64.wrap ((lenTab.data.toList.getD (IntKind.u8.wrap x).toNat 0).toNat : Int)))))]) none
def len64b (x n : Int) : R := cond (decide (x ≥ 256)) (len64c (shrI .u64 x 8) (IntKind.i64.wrap (n + 8))) (len64c x n)
def len64a (x n : Int) : R := cond (decide (x ≥ 65536)) (len64b (shrI .u64 x 16) (IntKind.i64.wrap (n + 16))) (len64b x n)
theorem len64_ev (x : Int) : evFn len64E Try.f84 [.p (.int .u64 x)] = cond (decide (x ≥ 4294967296)) (len64a (shrI .u64 x 32) 32) (len64a x 0) := by kernel_rfl
theorem lenTab_at : ∀ n, n < 256 → (lenTab.data.toList.getD n 0).toNat = bitlen n := by decide +kernel
theorem u8_wrap {x : Int} (h0 : 0 ≤ x) (h : x < 256) : IntKind.u8.wrap x = x := by
  simp [IntKind.wrap, IntKind.signed, IntKind.bits]
  exact Int.emod_eq_of_lt h0 h
theorem len64c_eq (x n : Nat) (hx : x < 256) (hn : n ≤ 1000) : len64c x n = some [(.mine, .p (.int .i64 ((n + bitlen x : Nat) : Int)))] := by
  unfold len64c
  have hb : bitlen x ≤ 8 := (bitlen_le_iff x 8).2 hx
  have hs : (lenTab.size : Int) = 256 := by decide +kernel
  rw [hs, u8_wrap (by omega) (by omega), decide_eq_true (by omega), cond_true, Int.toNat_natCast, lenTab_at x hx, i64_wrap (x := (bitlen x : Int)) (by omega) (by omega), i64_wrap (by omega) (by omega)]
  rfl
theorem len64b_eq (x n : Nat) (hx : x < 65536) (hn : n ≤ 900) : len64b x n = some [(.mine, .p (.int .i64 ((n + bitlen x : Nat) : Int)))] := by
  unfold len64b
  by_cases h : x ≥ 256
  · have hb := bitlen_shift x 8
    have hb2 := bitlen_ge (n := x) (k := 8) h
    rw [decide_eq_true (by omega), cond_true, show ((8 : Int)) = ((8 : Nat) : Int) from rfl, shr_nat, i64_wrap (by omega) (by omega), show ((n : Int) + ((8 : Nat) : Int)) = ((n + 8 : Nat) : Int) from rfl, show min 8 64 = 8 from rfl, len64c_eq _ _ (by omega) (by omega), hb]
    rw [show n + 8 + (bitlen x - 8) = n + bitlen x from by omega]
  · rw [decide_eq_false (by omega), cond_false, len64c_eq x n (by omega) (by omega)]
theorem len64a_eq (x n : Nat) (hx : x < 4294967296) (hn : n ≤ 800) : len64a x n = some [(.mine, .p (.int .i64 ((n + bitlen x : Nat) : Int)))] := by
  unfold len64a
  by_cases h : x ≥ 65536
  · have hb := bitlen_shift x 16
    have hb2 := bitlen_ge (n := x) (k := 16) h
    rw [decide_eq_true (by omega), cond_true, show ((16 : Int)) = ((16 : Nat) : Int) from rfl, shr_nat, i64_wrap (by omega) (by omega), show ((n : Int) + ((16 : Nat) : Int)) = ((n + 16 : Nat) : Int) from rfl, show min 16 64 = 16 from rfl, len64b_eq _ _ (by omega) (by omega), hb]
    rw [show n + 16 + (bitlen x - 16) = n + bitlen x from by omega]
  · rw [decide_eq_false (by omega), cond_false, len64b_eq x n (by omega) (by omega)]
theorem len64_he : ∀ ds κ r, (∀ d ∈ ds, d.wf) → len64C ds κ = some r → ∃ res, κ res = some r ∧ evFn len64E Try.f84 ds = some res := fun ds κ r hw h => by
  unfold len64C at h
  split at h
  case h_2 => cases h
  rename_i x
  refine ⟨_, h, (len64_ev x).trans ?_⟩
  have hx := wfU hw (x := x) (by simp)
  obtain ⟨a, rfl⟩ := Int.eq_ofNat_of_zero_le hx.1
  rw [Int.toNat_natCast]
  by_cases h : a ≥ 4294967296
  · have hb := bitlen_shift a 32
    have hb2 := bitlen_ge (n := a) (k := 32) h
    rw [decide_eq_true (by omega), cond_true, show ((32 : Int)) = ((32 : Nat) : Int) from rfl, shr_nat, show min 32 64 = 32 from rfl, len64a_eq _ _ (by omega) (by omega), hb]
    rw [show 32 + (bitlen a - 32) = bitlen a from by omega]
  · rw [decide_eq_false (by omega), cond_false, show ((0 : Int)) = ((0 : Nat) : Int) from rfl, len64a_eq a 0 (by omega) (by omega), Nat.zero_add]
theorem len64_fn : FnOK Try.prog 84 len64C := fnOK_mk T mixed Try.func84 (by kernel_rfl) (fns := []) (lps := []) (live := []) (out := []) (fuel := 0) (give := (fun _ => false)) trivial trivial len64_he

/-! ### LeadingZeros64 -/
def lz64C : FnC := fun ds κ => match ds with
  | [.p (.int .u64 x)] => κ [(.mine, .p (.int .i64 (64 - ((bitlen x.toNat : Nat) : Int))))]
  | _ => none
def lz64E : Env := mkE ty [(84, len64C)] [] [] [] 0 (fun _ => false)
theorem lz64_ev (x : Int) : evFn lz64E Try.f88 [.p (.int .u64 x)] = some [(.mine, .p (.int .i64 (IntKind.i64.wrap (64 - ((bitlen x.toNat : Nat) : Int)))))] := by kernel_rfl
theorem lz64_he : ∀ ds κ r, (∀ d ∈ ds, d.wf) → lz64C ds κ = some r → ∃ res, κ res = some r ∧ evFn lz64E Try.f88 ds = some res := fun ds κ r hw h => by
  unfold lz64C at h
  split at h
  case h_2 => cases h
  rename_i x
  refine ⟨_, h, (lz64_ev x).trans ?_⟩
  have hx := wfU hw (x := x) (by simp)
  have := bitlen_le64 (n := x.toNat) (by omega)
  rw [i64_wrap (by omega) (by omega)]
theorem lz64_fn : FnOK Try.prog 88 lz64C := fnOK_mk T mixed Try.func88 (by kernel_rfl) (fns := [(84, len64C)]) (lps := []) (live := []) (out := []) (fuel := 0) (give := (fun _ => false)) ⟨len64_fn, trivial⟩ trivial lz64_he

/-! ### Len -/
def lenC : FnC := fun ds κ => match ds with
  | [.w .u64 xs] => κ [(.mine, .p (.int .i64 ((bitlen (val xs) : Nat) : Int)))]
  | _ => none
def lenE : Env := mkE ty [(23, sizeC), (84, len64C)] [] [] [] 0 (fun _ => false)
theorem len_ev (xs : List Int) : evFn lenE Try.f50 [.w .u64 xs] =
    let s : Int := ((wlen (val xs) : Nat) : Int)
    cond (s == 0) (some [(.mine, .p (.int .i64 0))]) (cond (decide (0 ≤ IntKind.i64.wrap (s - 1) ∧ IntKind.i64.wrap (s - 1) < (xs.length : Int))) (cond (decide ((IntKind.i64.wrap (s - 1)).toNat < xs.length))
      (some [(.mine, .p (.int .i64 (IntKind.i64.wrap (IntKind.i64.wrap (IntKind.i64.wrap (64 * s) - 64) + ((bitlen (xs.getD (IntKind.i64.wrap (s - 1)).toNat 0).toNat : Nat) : Int)))))]) none) none) := by kernel_rfl
theorem bitlen_words {n : Nat} (h : n ≠ 0) : bitlen n = 64 * (wlen n - 1) + bitlen (n / 18446744073709551616 ^ (wlen n - 1)) := by
  rw [pow64, bitlen_shift]
  have : bitlen n ≠ 0 := fun e => h (bitlen_zero.1 e)
  unfold wlen
  omega
theorem len_he : ∀ ds κ r, (∀ d ∈ ds, d.wf) → lenC ds κ = some r → ∃ res, κ res = some r ∧ evFn lenE Try.f50 ds = some res := fun ds κ r hw h => by
  unfold lenC at h
  split at h
  case h_2 => cases h
  rename_i xs
  refine ⟨_, h, (len_ev xs).trans ?_⟩
  obtain ⟨hl, hx⟩ := wfW hw (xs := xs) (by simp)
  have hwl := wlen_val hx
  by_cases h0 : val xs = 0
  · rw [h0]; rfl
  · have hs : wlen (val xs) ≠ 0 := fun e => h0 (wlen_eq_zero.1 e)
    have hb := bitlen_words h0
    have ht : xs.getD (wlen (val xs) - 1) 0 = ((val xs / 18446744073709551616 ^ (wlen (val xs) - 1) : Nat) : Int) := by
      rw [getD_val hx, Nat.mod_eq_of_lt]
      rw [Nat.div_lt_iff_lt_mul (Nat.pow_pos (by decide)), Nat.mul_comm, ← Nat.pow_succ, show (wlen (val xs) - 1).succ = wlen (val xs) from by omega]
      exact lt_wlen _
    have hlt : val xs / 18446744073709551616 ^ (wlen (val xs) - 1) < 18446744073709551616 := by
      have := (inR_at hx (wlen (val xs) - 1)).2
      omega
    have hb64 := bitlen_le64 hlt
    simp only []
    rw [show (((wlen (val xs) : Nat) : Int) == 0) = false from beq_eq_false_iff_ne.2 (by omega), cond_false, i64_wrap (x := ((wlen (val xs) : Nat) : Int) - 1) (by omega) (by omega), decide_eq_true (by omega), cond_true,
      show (((wlen (val xs) : Nat) : Int) - 1).toNat = wlen (val xs) - 1 from by omega, decide_eq_true (by omega), cond_true, ht, Int.toNat_natCast, i64_wrap (x := 64 * ((wlen (val xs) : Nat) : Int)) (by omega) (by omega),
      i64_wrap (x := 64 * ((wlen (val xs) : Nat) : Int) - 64) (by omega) (by omega), i64_wrap (by omega) (by omega)]
    generalize bitlen (val xs / 18446744073709551616 ^ (wlen (val xs) - 1)) = q at *
    rw [show 64 * ((wlen (val xs) : Nat) : Int) - 64 + (q : Int) = ((bitlen (val xs) : Nat) : Int) from by omega]
theorem len_fn : FnOK Try.prog 50 lenC := fnOK_mk T mixed Try.func50 (by kernel_rfl) (fns := [(23, sizeC), (84, len64C)]) (lps := []) (live := []) (out := []) (fuel := 0) (give := (fun _ => false)) ⟨size_fn, len64_fn, trivial⟩ trivial len_he

/-! ### Mul64 -/
def mul64C : FnC := fun ds κ => match ds with
  | [.p (.int .u64 x), .p (.int .u64 y)] => κ [(.mine, .p (.int .u64 (x * y / 18446744073709551616))), (.mine, .p (.int .u64 (x * y % 18446744073709551616)))]
  | _ => none
def mul64E : Env := mkE ty [] [] [] [] 0 (fun _ => false)
def m32 (a : Int) : Int := Go.bits .and .u64 a 4294967295
def h32 (a : Int) : Int := shrI .u64 a 32
theorem mul64_ev (x y : Int) : evFn mul64E Try.f47 [.p (.int .u64 x), .p (.int .u64 y)] =
    let w := IntKind.u64.wrap
    let t := w (w (h32 x * m32 y) + h32 (w (m32 x * m32 y)))
    some [(.mine, .p (.int .u64 (w (w (w (h32 x * h32 y) + h32 t) + h32 (w (m32 t + w (m32 x * h32 y))))))), (.mine, .p (.int .u64 (w (x * y))))] := by kernel_rfl
theorem mul64_he : ∀ ds κ r, (∀ d ∈ ds, d.wf) → mul64C ds κ = some r → ∃ res, κ res = some r ∧ evFn mul64E Try.f47 ds = some res := fun ds κ r hw h => by
  unfold mul64C at h
  split at h
  case h_2 => cases h
  rename_i x y
  refine ⟨_, h, (mul64_ev x y).trans ?_⟩
  have hx := wfU hw (x := x) (by simp)
  have hy := wfU hw (x := y) (by simp)
  obtain ⟨a, rfl⟩ := Int.eq_ofNat_of_zero_le hx.1
  obtain ⟨b, rfl⟩ := Int.eq_ofNat_of_zero_le hy.1
  have ha : a < 18446744073709551616 := by omega
  have hb : b < 18446744073709551616 := by omega
  obtain ⟨k1, k2, k3, k4⟩ := Lib.mul64_hi a b ha hb
  have hm : ∀ q : Nat, q < 18446744073709551616 → m32 (q : Int) = ((q % 4294967296 : Nat) : Int) := fun q hq => mask32 q hq
  have hh : ∀ q : Nat, h32 (q : Int) = ((q / 4294967296 : Nat) : Int) := fun q => shr_nat q 32
  have m1 := Lib.half_mul_le (a := a / 4294967296) (b := b / 4294967296) (by omega) (by omega)
  have m2 := Lib.half_mul_le (a := a / 4294967296) (b := b % 4294967296) (by omega) (by omega)
  have m3 := Lib.half_mul_le (a := a % 4294967296) (b := b / 4294967296) (by omega) (by omega)
  simp only [hm a ha, hm b hb, hh a, hh b, ← Int.natCast_mul]
  rw [wrapM (a * b)]
  have e1 : (a * b : Nat) / (18446744073709551616 : Int) = ((a * b / 18446744073709551616 : Nat) : Int) := by omega
  have e2 : ((a * b : Nat) : Int) % (18446744073709551616 : Int) = ((a * b % 18446744073709551616 : Nat) : Int) := by omega
  rw [e1, e2, ← k4]
  clear e1 e2 k4
  generalize (a / 4294967296) * (b / 4294967296) = p1 at *
  generalize (a / 4294967296) * (b % 4294967296) = p2 at *
  generalize (a % 4294967296) * (b / 4294967296) = p3 at *
  generalize (a % 4294967296) * (b % 4294967296) = p4 at *
  rw [wrapN (a := p4) k1, hh p4, wrapN (a := p2) (by omega), ← Int.natCast_add, wrapN (a := p2 + p4 / 4294967296) k2, hh, hm _ k2, wrapN (a := p3) (by omega), ← Int.natCast_add, wrapN k3, hh, wrapN (a := p1) (by omega), ← Int.natCast_add, wrapN (by omega), ← Int.natCast_add, wrapN (by omega)]
theorem mul64_fn : FnOK Try.prog 47 mul64C := fnOK_mk T mixed Try.func47 (by kernel_rfl) (fns := []) (lps := []) (live := []) (out := []) (fuel := 0) (give := (fun _ => false)) trivial trivial mul64_he
end
end Go.Proofs.Ytcglfmldodhakaa.Vm

namespace Go.Proofs.Ytcglfmldodhakaa.Vm
open Go Go.Vm
noncomputable section

/-! ### Times -/
def timesC : FnC := fun ds κ => match ds with
  | [.w .u64 xs, .w .u64 ys] => cond (decide (xs.length ≤ 274877906944 ∧ ys.length ≤ 274877906944)) (κ [(.mine, .w .u64 (words (val xs * val ys)))]) none
  | _ => none
def rowSum (out ys : List Int) (x : Int) (i n2 : Nat) : Nat := val ((out.drop i).take n2) + x.toNat * val ys
def rowOut (out ys : List Int) (x : Int) (i n2 : Nat) : List Int := out.take i ++ (wordsN n2 (rowSum out ys x i n2) ++ (out.drop i).drop n2)
def timesL2 : LpC := lpC 83 [0, 1, 5, 6, 7, 21, 22, 26, 27] fun vs m κ => match vs, m with
  | [.o (.f 0), .o (.f 1), .o (.f 2), .o (.p (.int .i64 i)), .o (.p (.int .u64 c)), .o (.p (.int .i64 n)), .o (.p (.int .i64 z)), .o (.p (.int .i64 lb)), .o (.p (.int .i64 k))], [(o1, .w .u64 n1 xs), (o2, .w .u64 n2 ys), (.mine, .w .u64 n3 out)] =>
    cond (decide (c = 0 ∧ k = 0 ∧ lb = (n2 : Int) ∧ 0 ≤ i ∧ i < (n1 : Int) ∧ i + (n2 : Int) ≤ (n3 : Int)))
      (κ (.exit 2) (lay 83 [0, 1, 5, 6, 7, 21, 22] [.o (.f 0), .o (.f 1), .o (.f 2), .o (.p (.int .i64 i)), .o (.p (.int .u64 ((rowSum out ys (xs.getD i.toNat 0) i.toNat n2 / 18446744073709551616 ^ n2 : Nat) : Int))), .o (.p (.int .i64 n)), .o (.p (.int .i64 z))])
        [(o1, .w .u64 n1 xs), (o2, .w .u64 n2 ys), (.mine, .w .u64 n3 (rowOut out ys (xs.getD i.toNat 0) i.toNat n2))]) none
  | _, _ => none
def timesL : LpC := lpC 83 [0, 1, 5, 21, 22] fun vs m κ => match vs, m with
  | [.o (.f 0), .o (.f 1), .o (.f 2), .o (.p (.int .i64 n)), .o (.p (.int .i64 z))], [(_, .w .u64 n1 xs), (_, .w .u64 n2 ys), (.mine, .w .u64 n3 out)] =>
    cond (decide (n = (n1 : Int) ∧ z = 0 ∧ n3 = n1 + n2 + 1 ∧ n3 ≤ 1099511627776 ∧ val out = 0)) (κ (.exit 0) (lay 83 [5] [.o (.f 0)]) [(.mine, .w .u64 n3 (wordsN n3 (val xs * val ys)))]) none
  | _, _ => none
def timesE : Env := mkE ty [(47, mul64C), (48, add64C), (42, trimC)] [(0, timesL), (2, timesL2)] [(0, [0, 1, 5, 21, 22]), (2, [0, 1, 5, 6, 7, 21, 22, 26, 27])] [(0, [5]), (2, [0, 1, 5, 6, 7, 21, 22])] 0 (fun _ => false)
def timesSt2 (i c n z lb k : Int) : List V := lay 83 [0, 1, 5, 6, 7, 21, 22, 26, 27] [.o (.f 0), .o (.f 1), .o (.f 2), .o (.p (.int .i64 i)), .o (.p (.int .u64 c)), .o (.p (.int .i64 n)), .o (.p (.int .i64 z)), .o (.p (.int .i64 lb)), .o (.p (.int .i64 k))]
theorem times_round2 (i c n z lb k : Int) (o o' : Own) (n1 n2 n3 : Nat) (xs ys out : List Int) (f : Nat) (κ : X → List V → Mem → R) :
    lx timesE Try.f18 2 (f + 1) (timesSt2 i c n z lb k) [(o, .w .u64 n1 xs), (o', .w .u64 n2 ys), (.mine, .w .u64 n3 out)] κ =
      cond (decide (k < lb)) (cond (decide (0 ≤ i ∧ i < (n1 : Int))) (cond (decide (i.toNat < n1)) (cond (decide (0 ≤ k ∧ k < (n2 : Int))) (cond (decide (k.toNat < n2))
        (cond (decide (0 ≤ IntKind.i64.wrap (i + k) ∧ IntKind.i64.wrap (i + k) < (n3 : Int))) (cond (decide ((IntKind.i64.wrap (i + k)).toNat < n3))
        (cond (decide (0 ≤ IntKind.i64.wrap (i + k) ∧ IntKind.i64.wrap (i + k) < (n3 : Int))) (cond (decide ((IntKind.i64.wrap (i + k)).toNat < n3 ∧ IntKind.u64 = IntKind.u64 ∧ (Ty.i .u64).size = 1))
        (lx timesE Try.f18 2 f (timesSt2 i (mulHi (xs.getD i.toNat 0) (ys.getD k.toNat 0) (out.getD (IntKind.i64.wrap (i + k)).toNat 0) c) n z lb (IntKind.i64.wrap (k + 1)))
          [(o, .w .u64 n1 xs), (o', .w .u64 n2 ys), (.mine, .w .u64 n3 (out.set (IntKind.i64.wrap (i + k)).toNat (mulLo (xs.getD i.toNat 0) (ys.getD k.toNat 0) (out.getD (IntKind.i64.wrap (i + k)).toNat 0) c)))] κ)
        none) none) none) none) none) none) none) none)
      (κ (.exit 2) (lay 83 [0, 1, 5, 6, 7, 21, 22] [.o (.f 0), .o (.f 1), .o (.f 2), .o (.p (.int .i64 i)), .o (.p (.int .u64 c)), .o (.p (.int .i64 n)), .o (.p (.int .i64 z))]) [(o, .w .u64 n1 xs), (o', .w .u64 n2 ys), (.mine, .w .u64 n3 out)]) := by kernel_rfl
theorem drop_set_same (q : List Int) (k : Nat) (v : Int) : (q.set k v).drop (k + 1) = q.drop (k + 1) := by
  rw [List.drop_set]
  rw [if_pos (by omega)]
theorem mul_step {A P c Q X s c' x y o Y : Nat} (h : A + P * c = Q + X * Y) (hx : x = X) (hs : s + 18446744073709551616 * c' = x * y + o + c) : A + P * s + P * 18446744073709551616 * c' = Q + P * o + X * (Y + P * y) := by
  subst hx
  have e : P * (s + 18446744073709551616 * c') = P * (x * y + o + c) := by rw [hs]
  rw [Nat.mul_add, Nat.mul_add, Nat.mul_add, ← Nat.mul_assoc] at e
  rw [Nat.mul_add, Nat.mul_left_comm x P y]
  omega
theorem times_loop2 (xs ys p q0 : List Int) (hx : inR .u64 xs) (hy : inR .u64 ys) (o o' : Own) (n1 n2 : Nat) (n z : Int) (hn1 : n1 ≤ 140737488355328) (hyl : ys.length = n2) (hip : p.length < n1) (hpl : n2 ≤ q0.length) (hlim : p.length + q0.length ≤ 140737488355328) (κ : X → List V → Mem → R) :
    ∀ (j k : Nat) (c : Nat) (q : List Int), k + j = n2 → c < 18446744073709551616 → inR .u64 q → q.length = q0.length → q.drop k = q0.drop k → val (q.take k) + 18446744073709551616 ^ k * c = val (q0.take k) + (xs.getD p.length 0).toNat * val (ys.take k) →
    lx timesE Try.f18 2 (j + 1) (timesSt2 p.length c n z n2 k) [(o, .w .u64 n1 xs), (o', .w .u64 n2 ys), (.mine, .w .u64 (p.length + q0.length) (p ++ q))] κ =
      κ (.exit 2) (lay 83 [0, 1, 5, 6, 7, 21, 22] [.o (.f 0), .o (.f 1), .o (.f 2), .o (.p (.int .i64 p.length)), .o (.p (.int .u64 (((val (q0.take n2) + (xs.getD p.length 0).toNat * val ys) / 18446744073709551616 ^ n2 : Nat) : Int))), .o (.p (.int .i64 n)), .o (.p (.int .i64 z))])
        [(o, .w .u64 n1 xs), (o', .w .u64 n2 ys), (.mine, .w .u64 (p.length + q0.length) (p ++ (wordsN n2 (val (q0.take n2) + (xs.getD p.length 0).toNat * val ys) ++ q0.drop n2)))] := by
  intro j
  induction j with
  | zero =>
    intro k c q hk hc hR hl hd hv
    have hk : k = n2 := by omega
    subst hk
    rw [times_round2, decide_eq_false (by omega), cond_false]
    rw [List.take_of_length_le (l := ys) (by omega)] at hv
    have hlt := val_lt (inR_take hR k)
    rw [List.length_take, Nat.min_eq_left (by omega)] at hlt
    have e1 : (val (q0.take k) + (xs.getD p.length 0).toNat * val ys) / 18446744073709551616 ^ k = c := by
      rw [← hv, Nat.add_mul_div_left _ _ (Nat.pow_pos (by decide)), Nat.div_eq_of_lt hlt, Nat.zero_add]
    have e2 : q.take k = wordsN k (val (q0.take k) + (xs.getD p.length 0).toNat * val ys) := by
      rw [← wordsN_mod]
      refine wordsN_eq (inR_take hR k) (by simp; omega) ?_
      rw [← hv, Nat.add_mul_mod_self_left, Nat.mod_eq_of_lt hlt]
    rw [e1, ← e2, ← hd, List.take_append_drop]
  | succ j ih =>
    intro k c q hk hc hR hl hd hv
    have e1 : ((p.length : Nat) : Int) + (k : Int) = ((p.length + k : Nat) : Int) := rfl
    rw [times_round2, decide_eq_true (by omega), cond_true, decide_eq_true (by omega), cond_true, Int.toNat_natCast, decide_eq_true (by omega), cond_true, decide_eq_true (by omega), cond_true, Int.toNat_natCast, decide_eq_true (by omega), cond_true,
      e1, i64_wrap (x := ((p.length + k : Nat) : Int)) (by omega) (by omega), Int.toNat_natCast, decide_eq_true (by omega), cond_true, decide_eq_true (by omega), cond_true, cond_true, decide_eq_true ⟨by omega, rfl, rfl⟩, cond_true,
      i64_wrap (by omega) (by omega)]
    have eo : (p ++ q).getD (p.length + k) 0 = q.getD k 0 := by
      simp [List.getD_eq_getElem?_getD, List.getElem?_append_right]
    have es : ∀ v, (p ++ q).set (p.length + k) v = p ++ q.set k v := by
      intro v
      rw [List.set_append_right _ _ (by omega), Nat.add_sub_cancel_left]
    rw [eo, es]
    have ax := inR_at hx p.length
    have ay := inR_at hy k
    have ao := inR_at hR k
    have hqk : q0.getD k 0 = q.getD k 0 := by
      have := congrArg (fun l => l.getD 0 0) hd
      simpa [List.getD_eq_getElem?_getD, List.getElem?_drop] using this.symm
    have hvy : val (ys.take (k + 1)) = val (ys.take k) + 18446744073709551616 ^ k * (ys.getD k 0).toNat := val_take_succ (by omega)
    have hvq : val (q0.take (k + 1)) = val (q0.take k) + 18446744073709551616 ^ k * (q.getD k 0).toNat := by rw [← hqk]; exact val_take_succ (by omega)
    obtain ⟨x, hX⟩ := Int.eq_ofNat_of_zero_le ax.1
    obtain ⟨y, hY⟩ := Int.eq_ofNat_of_zero_le ay.1
    obtain ⟨w, hW⟩ := Int.eq_ofNat_of_zero_le ao.1
    obtain ⟨m1, m2, m3⟩ := mul_parts (x := x) (y := y) (o := w) (c := c) (by omega) (by omega) (by omega) hc
    rw [← hX, ← hY, ← hW] at m1 m2
    rw [m1, m2]
    refine ih (k + 1) _ _ (by omega) m3 (inR_set hR k (Int.natCast_nonneg _) (Int.ofNat_lt.2 (Nat.mod_lt _ (by decide)))) (by simpa using hl) ?_ ?_
    · rw [drop_set_same, ← List.drop_drop, hd, List.drop_drop]
    · rw [val_take_set (by omega), hvy, hvq, Nat.pow_succ]
      rw [hX] at hv ⊢
      rw [hY, hW]
      simp only [Int.toNat_natCast] at hv ⊢
      exact mul_step hv rfl (Nat.mod_add_div _ _)
theorem timesL2_ok : LoopOK timesE 2 (lbody Try.f18 2) timesL2 := loopOK_lx fun vs m κ r hv hm h => by
  split at h
  case h_2 => cases h
  rename_i i c n z lb k o n1 xs o' n2 ys n3 out
  replace h := cond_none h
  obtain ⟨hc, h⟩ := h
  obtain ⟨rfl, rfl, rfl, h1, h2, h3⟩ := of_decide_eq_true hc
  have hx := hm 0 _ _ rfl
  have hy := hm 1 _ _ rfl
  have hz := hm 2 _ _ rfl
  have h47 : lim = 140737488355328 := by decide
  obtain ⟨i, rfl⟩ := Int.eq_ofNat_of_zero_le h1
  obtain ⟨hx1, hx2, hx3⟩ := hx
  obtain ⟨hy1, hy2, hy3⟩ := hy
  obtain ⟨hz1, hz2, hz3⟩ := hz
  have hp : (out.take i).length = i := by simp; omega
  have key := times_loop2 xs ys (out.take i) (out.drop i) hx3 hy3 o o' n1 n2 n z (by omega) hy1 (by omega) (by simp; omega) (by simp; omega) κ n2 0 0 (out.drop i) (by omega) (by omega) (inR_drop hz3 i) rfl rfl (by simp [val])
  have hn3 : (out.take i).length + (out.drop i).length = n3 := by simp; omega
  rw [hn3, hp, List.take_append_drop] at key
  refine ⟨_, key.trans ?_⟩
  rw [Int.toNat_natCast] at h
  exact h
def timesSt (n z : Int) : List V := lay 83 [0, 1, 5, 21, 22] [.o (.f 0), .o (.f 1), .o (.f 2), .o (.p (.int .i64 n)), .o (.p (.int .i64 z))]
theorem times_round (n z : Int) (o o' : Own) (n1 n2 n3 : Nat) (xs ys out : List Int) (f : Nat) (κ : X → List V → Mem → R) :
    lx timesE Try.f18 0 (f + 1) (timesSt n z) [(o, .w .u64 n1 xs), (o', .w .u64 n2 ys), (.mine, .w .u64 n3 out)] κ =
      cond (decide (z < n)) (cond (decide ((0 : Int) = 0 ∧ (0 : Int) = 0 ∧ (n2 : Int) = (n2 : Int) ∧ 0 ≤ z ∧ z < (n1 : Int) ∧ z + (n2 : Int) ≤ (n3 : Int)))
        (cond (decide (0 ≤ IntKind.i64.wrap (z + (n2 : Int)) ∧ IntKind.i64.wrap (z + (n2 : Int)) < (n3 : Int))) (cond (decide ((IntKind.i64.wrap (z + (n2 : Int))).toNat < n3 ∧ IntKind.u64 = IntKind.u64 ∧ (Ty.i .u64).size = 1))
        (lx timesE Try.f18 0 f (timesSt n (IntKind.i64.wrap (z + 1)))
          [(o, .w .u64 n1 xs), (o', .w .u64 n2 ys), (.mine, .w .u64 n3 ((rowOut out ys (xs.getD z.toNat 0) z.toNat n2).set (IntKind.i64.wrap (z + (n2 : Int))).toNat ((rowSum out ys (xs.getD z.toNat 0) z.toNat n2 / 18446744073709551616 ^ n2 : Nat) : Int)))] κ)
        none) none) none)
      (κ (.exit 0) (lay 83 [5] [.o (.f 0)]) [(.mine, .w .u64 n3 out)]) := by kernel_rfl
/-- One row more. -/
theorem row_val {out ys : List Int} (ho : inR .u64 out) (hy : inR .u64 ys) {x i n3 : Nat} (hx : x < 18446744073709551616) (hl : out.length = n3) (hi : i + ys.length < n3) (hA : val out < 18446744073709551616 ^ (i + ys.length)) :
    (rowOut out ys (x : Int) i ys.length).set (i + ys.length) ((rowSum out ys (x : Int) i ys.length / 18446744073709551616 ^ ys.length : Nat) : Int) = wordsN n3 (val out + x * val ys * 18446744073709551616 ^ i) := by
  have hp : (out.take i).length = i := by simp; omega
  have hw := length_wordsN ys.length (rowSum out ys (x : Int) i ys.length)
  have hS : rowSum out ys (x : Int) i ys.length = val out / 18446744073709551616 ^ i + x * val ys := by
    unfold rowSum
    rw [val_take (inR_drop ho i), val_drop ho, Int.toNat_natCast, Nat.mod_eq_of_lt]
    rw [Nat.div_lt_iff_lt_mul (Nat.pow_pos (by decide)), ← Nat.pow_add, Nat.add_comm ys.length i]
    exact hA
  have hr : val ((out.drop i).drop ys.length) = 0 := by
    rw [List.drop_drop, val_drop ho, Nat.div_eq_of_lt hA]
  have hyl := val_lt hy
  have hAi : val out / 18446744073709551616 ^ i < 18446744073709551616 ^ ys.length := by
    rw [Nat.div_lt_iff_lt_mul (Nat.pow_pos (by decide)), ← Nat.pow_add, Nat.add_comm ys.length i]
    exact hA
  have hcl : rowSum out ys (x : Int) i ys.length / 18446744073709551616 ^ ys.length < 18446744073709551616 := by
    rw [Nat.div_lt_iff_lt_mul (Nat.pow_pos (by decide)), hS]
    have : x * val ys ≤ 18446744073709551615 * 18446744073709551616 ^ ys.length := Nat.mul_le_mul (by omega) (Nat.le_of_lt hyl)
    omega
  have hdl : 0 < ((out.drop i).drop ys.length).length := by simp; omega
  have e1 : (rowOut out ys (x : Int) i ys.length).set (i + ys.length) ((rowSum out ys (x : Int) i ys.length / 18446744073709551616 ^ ys.length : Nat) : Int) =
      out.take i ++ (wordsN ys.length (rowSum out ys (x : Int) i ys.length) ++ ((out.drop i).drop ys.length).set 0 ((rowSum out ys (x : Int) i ys.length / 18446744073709551616 ^ ys.length : Nat) : Int)) := by
    unfold rowOut
    rw [List.set_append_right _ _ (by omega), List.set_append_right _ _ (by omega), hp, hw]
    congr 3
    omega
  rw [e1]
  refine wordsN_eq ?_ ?_ ?_
  · exact inR_append (inR_take ho i) (inR_append (inR_wordsN _ _) (inR_set (inR_drop (inR_drop ho i) _) 0 (Int.natCast_nonneg _) (Int.ofNat_lt.2 hcl)))
  · simp only [List.length_append, hp, hw, List.length_set, List.length_drop]
    omega
  · have hs := val_set hdl ((rowSum out ys (x : Int) i ys.length / 18446744073709551616 ^ ys.length : Nat) : Int)
    rw [hr, Nat.pow_zero, Nat.one_mul, Nat.one_mul, Int.toNat_natCast] at hs
    have h0 : (((out.drop i).drop ys.length).getD 0 0).toNat = 0 := by
      have := val_drop_cons ((out.drop i).drop ys.length) 0
      rw [List.drop_zero, hr] at this
      omega
    rw [h0] at hs
    rw [val_append, val_append, hp, hw, val_wordsN, Nat.add_zero] at *
    rw [hs, Nat.zero_add, Nat.mod_add_div, hS, val_take ho, Nat.mul_add, ← Nat.add_assoc, Nat.mod_add_div, Nat.mul_comm (18446744073709551616 ^ i) (x * val ys)]
theorem times_loop (xs ys : List Int) (hx : inR .u64 xs) (hy : inR .u64 ys) (o o' : Own) (n3 : Nat) (h3 : n3 = xs.length + ys.length + 1) (hlim : n3 ≤ 1099511627776) (κ : X → List V → Mem → R) :
    ∀ (j i : Nat), i + j = xs.length →
    lx timesE Try.f18 0 (j + 1) (timesSt xs.length i) [(o, .w .u64 xs.length xs), (o', .w .u64 ys.length ys), (.mine, .w .u64 n3 (wordsN n3 (val (xs.take i) * val ys)))] κ =
      κ (.exit 0) (lay 83 [5] [.o (.f 0)]) [(.mine, .w .u64 n3 (wordsN n3 (val xs * val ys)))] := by
  intro j
  induction j with
  | zero =>
    intro i hi
    rw [times_round, decide_eq_false (by omega), cond_false, List.take_of_length_le (by omega)]
  | succ j ih =>
    intro i hi
    have ei : ((i : Nat) : Int) + ((ys.length : Nat) : Int) = ((i + ys.length : Nat) : Int) := rfl
    rw [times_round, decide_eq_true (by omega), cond_true, decide_eq_true (by omega), cond_true, ei, i64_wrap (x := ((i + ys.length : Nat) : Int)) (by omega) (by omega), decide_eq_true (by omega), cond_true, Int.toNat_natCast, Int.toNat_natCast, decide_eq_true ⟨by omega, rfl, rfl⟩, cond_true, i64_wrap (by omega) (by omega)]
    have ax := inR_at hx i
    have hvx : val (xs.take (i + 1)) = val (xs.take i) + 18446744073709551616 ^ i * (xs.getD i 0).toNat := val_take_succ (by omega)
    obtain ⟨x, hX⟩ := Int.eq_ofNat_of_zero_le ax.1
    rw [hX] at hvx ⊢
    have hA : val (xs.take i) * val ys < 18446744073709551616 ^ (i + ys.length) := by
      have h1 := val_lt (inR_take hx i)
      have h2 := val_lt hy
      rw [List.length_take, Nat.min_eq_left (by omega)] at h1
      rw [Nat.pow_add]
      exact Nat.mul_lt_mul'' h1 h2
    have hA3 : val (xs.take i) * val ys < 18446744073709551616 ^ n3 := Nat.lt_of_lt_of_le hA (Nat.pow_le_pow_right (by decide) (by omega))
    have hv : val (wordsN n3 (val (xs.take i) * val ys)) = val (xs.take i) * val ys := by rw [val_wordsN, Nat.mod_eq_of_lt hA3]
    rw [row_val (inR_wordsN _ _) hy (x := x) (i := i) (n3 := n3) (by omega) (length_wordsN _ _) (by omega) (by rw [hv]; exact hA), hv]
    have e : val (xs.take i) * val ys + x * val ys * 18446744073709551616 ^ i = val (xs.take (i + 1)) * val ys := by
      rw [hvx, Int.toNat_natCast, Nat.add_mul, Nat.mul_comm (18446744073709551616 ^ i) x, Nat.mul_right_comm]
    rw [e]
    exact ih (i + 1) (by omega)
theorem timesL_ok : LoopOK timesE 0 (lbody Try.f18 0) timesL := loopOK_lx fun vs m κ r hv hm h => by
  split at h
  case h_2 => cases h
  rename_i n z o n1 xs o' n2 ys n3 out
  replace h := cond_none h
  obtain ⟨hc, h⟩ := h
  obtain ⟨rfl, rfl, h3, h4, h5⟩ := of_decide_eq_true hc
  obtain ⟨hx1, hx2, hx3⟩ := hm 0 _ _ rfl
  obtain ⟨hy1, hy2, hy3⟩ := hm 1 _ _ rfl
  obtain ⟨hz1, hz2, hz3⟩ := hm 2 _ _ rfl
  subst hx1 hy1
  have ho : out = wordsN n3 0 := wordsN_eq hz3 hz1 h5
  subst ho
  have key := times_loop xs ys hx3 hy3 o o' n3 h3 h4 κ xs.length 0 (by omega)
  simp only [List.take_zero, val, Nat.zero_mul] at key
  exact ⟨_, key.trans h⟩
theorem times_ev (xs ys : List Int) : evFn timesE Try.f18 [.w .u64 xs, .w .u64 ys] =
    let l := IntKind.i64.wrap (IntKind.i64.wrap ((xs.length : Int) + (ys.length : Int)) + 1)
    cond (decide (0 ≤ l ∧ l ≤ l ∧ l ≤ 17592186044416)) (cond (decide ((xs.length : Int) = (xs.length : Int) ∧ (0 : Int) = 0 ∧ l.toNat = xs.length + ys.length + 1 ∧ l.toNat ≤ 1099511627776 ∧ val (List.replicate l.toNat 0) = 0))
      (cond (decide ((wordsN l.toNat (val xs * val ys)).length ≤ 1099511627776)) (some [(.mine, .w .u64 (words (val (wordsN l.toNat (val xs * val ys)))))]) none) none) none := by kernel_rfl
theorem times_he : ∀ ds κ r, (∀ d ∈ ds, d.wf) → timesC ds κ = some r → ∃ res, κ res = some r ∧ evFn timesE Try.f18 ds = some res := fun ds κ r hw h => by
  unfold timesC at h
  split at h
  case h_2 => cases h
  rename_i xs ys
  obtain ⟨hc, h⟩ := cond_none h
  have hc := of_decide_eq_true hc
  have hx := (wfW hw (xs := xs) (by simp)).2
  have hy := (wfW hw (xs := ys) (by simp)).2
  refine ⟨_, h, (times_ev xs ys).trans ?_⟩
  simp only []
  rw [i64_wrap (x := (xs.length : Int) + (ys.length : Int)) (by omega) (by omega), i64_wrap (by omega) (by omega)]
  have hlt : val xs * val ys < 18446744073709551616 ^ ((xs.length : Int) + (ys.length : Int) + 1).toNat := by
    have h1 := val_lt hx
    have h2 := val_lt hy
    refine Nat.lt_of_lt_of_le (Nat.mul_lt_mul'' h1 h2) ?_
    rw [← Nat.pow_add]
    exact Nat.pow_le_pow_right (by decide) (by omega)
  rw [val_zeros, length_wordsN, val_wordsN, Nat.mod_eq_of_lt hlt, decide_eq_true (by omega), cond_true, decide_eq_true ⟨trivial, trivial, by omega, by omega, rfl⟩, cond_true, decide_eq_true (by omega), cond_true]
theorem times_fn : FnOK Try.prog 18 timesC := fnOK_mk T mixed Try.func18 (by kernel_rfl) (fns := [(47, mul64C), (48, add64C), (42, trimC)]) (lps := [(0, timesL), (2, timesL2)]) (live := [(0, [0, 1, 5, 21, 22]), (2, [0, 1, 5, 6, 7, 21, 22, 26, 27])]) (out := [(0, [5]), (2, [0, 1, 5, 6, 7, 21, 22])]) (fuel := 0) (give := (fun _ => false)) ⟨mul64_fn, add64_fn, trim_fn, trivial⟩ ⟨timesL_ok, timesL2_ok, trivial⟩ times_he
end
end Go.Proofs.Ytcglfmldodhakaa.Vm

namespace Go.Proofs.Ytcglfmldodhakaa.Vm
open Go Go.Vm
noncomputable section

theorem tdiv64 (n : Nat) : Int.tdiv (n : Int) 64 = ((n / 64 : Nat) : Int) := rfl
theorem tmod64 (n : Nat) : Int.tmod (n : Int) 64 = ((n % 64 : Nat) : Int) := rfl
theorem or_disjoint {h q r : Nat} (hh : h < 2 ^ r) (hw : h < 18446744073709551616) (hq : 2 ^ r * q < 18446744073709551616) : Go.bits .or .u64 (h : Int) ((2 ^ r * q : Nat) : Int) = ((h + 2 ^ r * q : Nat) : Int) := by
  rw [u64_or_nat h _ hw hq, Nat.or_comm, ← Nat.two_pow_add_eq_or_of_lt hh, Nat.add_comm]
theorem mod_shift {x r : Nat} (hr : r ≤ 64) : x * 2 ^ r % 18446744073709551616 = 2 ^ r * (x % 2 ^ (64 - r)) := by
  have e : (18446744073709551616 : Nat) = 2 ^ r * 2 ^ (64 - r) := by
    rw [← Nat.pow_add, show r + (64 - r) = 64 from by omega]
  rw [e, Nat.mul_comm x, Nat.mul_mod_mul_left]
theorem div_shift {x r : Nat} (hr : r ≤ 64) : x * 2 ^ r / 18446744073709551616 = x / 2 ^ (64 - r) := by
  have e : (18446744073709551616 : Nat) = 2 ^ (64 - r) * 2 ^ r := by
    rw [← Nat.pow_add, show 64 - r + r = 64 from by omega]
  rw [e, Nat.mul_div_mul_right _ _ (Nat.two_pow_pos r)]

/-! ### Left -/
def leftC : FnC := fun ds κ => match ds with
  | [.w .u64 xs, .p (.int .i64 n)] => cond (decide (xs.length ≤ 274877906944 ∧ 0 ≤ n ∧ n ≤ 1099511627776)) (κ [(.mine, .w .u64 (words (val xs * 2 ^ n.toNat)))]) none
  | _ => none
def leftL : LpC := lpC 63 [0, 1, 5, 15, 16] fun vs m κ => match vs, m with
  | [.o (.f 0), .o (.p (.int .i64 n)), .o (.f 1), .o (.p (.int .i64 l)), .o (.p (.int .i64 i))], [(_, .w .u64 n1 xs), (.mine, .w .u64 n2 out)] =>
    cond (decide (l = (n1 : Int) ∧ i = 0 ∧ 0 ≤ n ∧ n ≤ 1099511627776 ∧ n1 ≤ 274877906944 ∧ n2 = n1 + n.toNat / 64 + 1 ∧ val out = 0)) (κ (.exit 0) (lay 63 [5] [.o (.f 0)]) [(.mine, .w .u64 n2 (wordsN n2 (val xs * 2 ^ n.toNat)))]) none
  | _, _ => none
def leftE : Env := mkE ty [(42, trimC)] [(0, leftL)] [(0, [0, 1, 5, 15, 16])] [(0, [5])] 0 (fun _ => false)
def leftSt (n l i : Int) : List V := lay 63 [0, 1, 5, 15, 16] [.o (.f 0), .o (.p (.int .i64 n)), .o (.f 1), .o (.p (.int .i64 l)), .o (.p (.int .i64 i))]
theorem left_round (n l i : Int) (o : Own) (n1 n2 : Nat) (xs out : List Int) (f : Nat) (κ : X → List V → Mem → R) :
    lx leftE Try.f51 0 (f + 1) (leftSt n l i) [(o, .w .u64 n1 xs), (.mine, .w .u64 n2 out)] κ =
      let p := IntKind.i64.wrap (i + IntKind.i64.wrap (n.tdiv 64))
      let v := Go.bits .or .u64 (out.getD p.toNat 0) (shlI .u64 (xs.getD i.toNat 0) (IntKind.u64.wrap (n.tmod 64)))
      let w := shrI .u64 (xs.getD i.toNat 0) (IntKind.u64.wrap (IntKind.i64.wrap (64 - n.tmod 64)))
      cond (decide (i < l)) (cond (decide (0 ≤ p ∧ p < (n2 : Int))) (cond (decide (p.toNat < n2)) (cond (decide (0 ≤ i ∧ i < (n1 : Int))) (cond (decide (i.toNat < n1)) (cond (decide (IntKind.u64.wrap (n.tmod 64) < 0)) none
        (cond (decide (0 ≤ p ∧ p < (n2 : Int))) (cond (decide (p.toNat < n2 ∧ IntKind.u64 = IntKind.u64 ∧ (Ty.i .u64).size = 1))
          (cond (decide (n.tmod 64 > 0))
            (cond (decide (0 ≤ i ∧ i < (n1 : Int))) (cond (decide (i.toNat < n1)) (cond (decide (IntKind.u64.wrap (IntKind.i64.wrap (64 - n.tmod 64)) < 0)) none
              (cond (decide (0 ≤ IntKind.i64.wrap (p + 1) ∧ IntKind.i64.wrap (p + 1) < (n2 : Int))) (cond (decide ((IntKind.i64.wrap (p + 1)).toNat < n2 ∧ IntKind.u64 = IntKind.u64 ∧ (Ty.i .u64).size = 1))
                (lx leftE Try.f51 0 f (leftSt n l (IntKind.i64.wrap (i + 1))) [(o, .w .u64 n1 xs), (.mine, .w .u64 n2 ((out.set p.toNat v).set (IntKind.i64.wrap (p + 1)).toNat w))] κ) none) none)) none) none)
            (lx leftE Try.f51 0 f (leftSt n l (IntKind.i64.wrap (i + 1))) [(o, .w .u64 n1 xs), (.mine, .w .u64 n2 (out.set p.toNat v))] κ)) none) none)) none) none) none) none)
      (κ (.exit 0) (lay 63 [5] [.o (.f 0)]) [(.mine, .w .u64 n2 out)]) := by kernel_rfl
theorem two_pow_le {r : Nat} (hr : r < 64) : 2 ^ r ≤ 9223372036854775808 := Nat.pow_le_pow_right (n := 2) (by decide) (show r ≤ 63 by omega)
theorem pow_pos64 (p : Nat) : 0 < 18446744073709551616 ^ p := Nat.pow_pos (by decide)
theorem pow_two_le {p r : Nat} (hr : r < 64) : (18446744073709551616 : Nat) ^ p * 2 ^ r ≤ 18446744073709551616 ^ (p + 1) := by
  rw [Nat.pow_succ]
  exact Nat.mul_le_mul_left _ (by have := two_pow_le hr; omega)
theorem pow64_split {r : Nat} (hr : r ≤ 64) : (18446744073709551616 : Nat) = 2 ^ r * 2 ^ (64 - r) := by rw [← Nat.pow_add, show r + (64 - r) = 64 from by omega]
theorem or_shift {h r x : Nat} (hr : r < 64) (hh : h < 2 ^ r) : Go.bits .or .u64 (h : Int) (shlI .u64 (x : Int) (r : Int)) = ((h + x * 2 ^ r % 18446744073709551616 : Nat) : Int) ∧ h + x * 2 ^ r % 18446744073709551616 < 18446744073709551616 := by
  have h2 := two_pow_le hr
  have hlt : 2 ^ r * (x % 2 ^ (64 - r)) < 18446744073709551616 := by rw [← mod_shift (by omega)]; exact Nat.mod_lt _ (by decide)
  constructor
  · rw [shl_nat, Nat.min_eq_left (by omega), mod_shift (by omega), or_disjoint hh (by omega) hlt]
  · rw [mod_shift (by omega)]
    have hm : x % 2 ^ (64 - r) < 2 ^ (64 - r) := Nat.mod_lt _ (Nat.two_pow_pos _)
    have h3 : 2 ^ r * (x % 2 ^ (64 - r) + 1) ≤ 2 ^ r * 2 ^ (64 - r) := Nat.mul_le_mul_left _ hm
    rw [Nat.mul_add, ← pow64_split (by omega), Nat.mul_one] at h3
    generalize 2 ^ r * (x % 2 ^ (64 - r)) = q at *
    omega
theorem word_at {A p n2 b : Nat} (hA : A < 18446744073709551616 ^ p * b) (hb : b ≤ 18446744073709551616) (hp : p < n2) :
    val (wordsN n2 A) = A ∧ (wordsN n2 A).getD p 0 = ((A / 18446744073709551616 ^ p : Nat) : Int) ∧ A / 18446744073709551616 ^ p < b ∧ ∀ q, p < q → (wordsN n2 A).getD q 0 = 0 := by
  have h1 : A < 18446744073709551616 ^ (p + 1) := by
    rw [Nat.pow_succ]
    exact Nat.lt_of_lt_of_le hA (Nat.mul_le_mul_left _ hb)
  have h2 : ∀ q, p < q → A < 18446744073709551616 ^ q := fun q hq => Nat.lt_of_lt_of_le h1 (Nat.pow_le_pow_right (by decide) hq)
  have h3 : A / 18446744073709551616 ^ p < b := by
    rw [Nat.div_lt_iff_lt_mul (pow_pos64 p), Nat.mul_comm]
    exact hA
  have h4 : val (wordsN n2 A) = A := by rw [val_wordsN, Nat.mod_eq_of_lt (h2 n2 hp)]
  refine ⟨h4, ?_, h3, fun q hq => ?_⟩
  · rw [getD_val (inR_wordsN _ _), h4, Nat.mod_eq_of_lt (Nat.lt_of_lt_of_le h3 hb)]
  · rw [getD_val (inR_wordsN _ _), h4, Nat.div_eq_of_lt (h2 q hq)]
    rfl
theorem left_words {A p r n2 x : Nat} (hr : r < 64) (hA : A < 18446744073709551616 ^ p * 2 ^ r) (hx : x < 18446744073709551616) (hp : p + 1 < n2) :
    (r = 0 → (wordsN n2 A).set p (Go.bits .or .u64 ((wordsN n2 A).getD p 0) (shlI .u64 (x : Int) (r : Int))) = wordsN n2 (A + 18446744073709551616 ^ p * (x * 2 ^ r))) ∧
    ((wordsN n2 A).set p (Go.bits .or .u64 ((wordsN n2 A).getD p 0) (shlI .u64 (x : Int) (r : Int)))).set (p + 1) (shrI .u64 (x : Int) ((64 - r : Nat) : Int)) = wordsN n2 (A + 18446744073709551616 ^ p * (x * 2 ^ r)) := by
  have hr64 : r ≤ 64 := Nat.le_of_lt hr
  have hp1 : p < n2 := Nat.lt_of_succ_lt hp
  have hne : p ≠ p + 1 := Nat.ne_of_lt (Nat.lt_succ_self p)
  have h2 : 2 ^ r ≤ 18446744073709551616 := Nat.le_trans (two_pow_le hr) (by decide)
  have hL := length_wordsN n2 A
  obtain ⟨hv0, hg, hh, hz⟩ := word_at hA h2 hp1
  obtain ⟨hvv, hvlt⟩ := or_shift (x := x) hr hh
  have hsh : shrI .u64 (x : Int) ((64 - r : Nat) : Int) = ((x * 2 ^ r / 18446744073709551616 : Nat) : Int) := by
    rw [shr_nat, Nat.min_eq_left (Nat.sub_le 64 r), div_shift hr64]
  have hhi : x * 2 ^ r / 18446744073709551616 < 18446744073709551616 := by
    rw [div_shift hr64]
    exact Nat.lt_of_le_of_lt (Nat.div_le_self _ _) hx
  rw [hg, hvv, hsh]
  have e : 18446744073709551616 ^ p * (x * 2 ^ r) = 18446744073709551616 ^ p * (x * 2 ^ r % 18446744073709551616) + 18446744073709551616 ^ (p + 1) * (x * 2 ^ r / 18446744073709551616) := by
    rw [Nat.pow_succ, Nat.mul_assoc, ← Nat.mul_add, Nat.mod_add_div]
  have e0 : r = 0 → x * 2 ^ r % 18446744073709551616 = x * 2 ^ r := fun h0 => by subst h0; rw [Nat.pow_zero, Nat.mul_one, Nat.mod_eq_of_lt hx]
  generalize x * 2 ^ r % 18446744073709551616 = lo at *
  generalize x * 2 ^ r / 18446744073709551616 = hi at *
  generalize A / 18446744073709551616 ^ p = h at *
  have s1 := val_set (xs := wordsN n2 A) (i := p) (by rw [hL]; exact hp1) ((h + lo : Nat) : Int)
  rw [hv0, hg, Int.toNat_natCast, Int.toNat_natCast, Nat.mul_add] at s1
  have z1 : ((wordsN n2 A).set p ((h + lo : Nat) : Int)).getD (p + 1) 0 = 0 := by
    rw [List.getD_eq_getElem?_getD, List.getElem?_set_ne hne, ← List.getD_eq_getElem?_getD, hz (p + 1) (Nat.lt_succ_self p)]
  have hR1 : inR .u64 ((wordsN n2 A).set p ((h + lo : Nat) : Int)) := inR_set (inR_wordsN _ _) p (Int.natCast_nonneg _) (Int.ofNat_lt.2 hvlt)
  have hL1 : ((wordsN n2 A).set p ((h + lo : Nat) : Int)).length = n2 := by rw [List.length_set, hL]
  generalize (wordsN n2 A).set p ((h + lo : Nat) : Int) = l1 at *
  have v1 : val l1 = A + 18446744073709551616 ^ p * lo := Nat.add_right_cancel (m := 18446744073709551616 ^ p * h) (by rw [s1, Nat.add_comm (18446744073709551616 ^ p * h), Nat.add_assoc])
  constructor
  · intro h0
    refine wordsN_eq hR1 hL1 ?_
    rw [v1, e0 h0]
  · refine wordsN_eq (inR_set hR1 _ (Int.natCast_nonneg _) (Int.ofNat_lt.2 hhi)) (by rw [List.length_set, hL1]) ?_
    have s2 := val_set (xs := l1) (i := p + 1) (by rw [hL1]; exact hp) ((hi : Nat) : Int)
    rw [z1, Int.toNat_natCast, v1, Int.toNat_zero, Nat.mul_zero] at s2
    rw [e]
    exact s2.trans (Nat.add_assoc _ _ _)
theorem two_pow_split (n : Nat) : 2 ^ n = 18446744073709551616 ^ (n / 64) * 2 ^ (n % 64) := by
  rw [pow64, ← Nat.pow_add, Nat.div_add_mod]
theorem left_loop (xs : List Int) (hx : inR .u64 xs) (o : Own) (n n2 : Nat) (h2 : n2 = xs.length + n / 64 + 1) (hl : xs.length ≤ 274877906944) (hn : n ≤ 1099511627776) (κ : X → List V → Mem → R) :
    ∀ (j i : Nat), i + j = xs.length →
    lx leftE Try.f51 0 (j + 1) (leftSt n xs.length i) [(o, .w .u64 xs.length xs), (.mine, .w .u64 n2 (wordsN n2 (val (xs.take i) * 2 ^ n)))] κ =
      κ (.exit 0) (lay 63 [5] [.o (.f 0)]) [(.mine, .w .u64 n2 (wordsN n2 (val xs * 2 ^ n)))] := by
  intro j
  induction j with
  | zero =>
    intro i hi
    rw [left_round]
    simp only []
    rw [decide_eq_false (by omega), cond_false, List.take_of_length_le (by omega)]
  | succ j ih =>
    intro i hi
    have ep : ((i : Nat) : Int) + ((n / 64 : Nat) : Int) = ((i + n / 64 : Nat) : Int) := rfl
    have ep1 : ((i + n / 64 : Nat) : Int) + 1 = ((i + n / 64 + 1 : Nat) : Int) := rfl
    have er : (64 : Int) - ((n % 64 : Nat) : Int) = ((64 - n % 64 : Nat) : Int) := by omega
    rw [left_round]
    simp only []
    rw [tdiv64, tmod64, i64_wrap (x := ((n / 64 : Nat) : Int)) (by omega) (by omega), ep, i64_wrap (x := ((i + n / 64 : Nat) : Int)) (by omega) (by omega), ep1, i64_wrap (x := ((i + n / 64 + 1 : Nat) : Int)) (by omega) (by omega),
      er, i64_wrap (x := ((64 - n % 64 : Nat) : Int)) (by omega) (by omega), u64_wrap (x := ((n % 64 : Nat) : Int)) (by omega) (by omega), u64_wrap (x := ((64 - n % 64 : Nat) : Int)) (by omega) (by omega), i64_wrap (x := (i : Int) + 1) (by omega) (by omega)]
    rw [Int.toNat_natCast, Int.toNat_natCast, Int.toNat_natCast]
    have ax := inR_at hx i
    have hvx : val (xs.take (i + 1)) = val (xs.take i) + 18446744073709551616 ^ i * (xs.getD i 0).toNat := val_take_succ (by omega)
    obtain ⟨x, hX⟩ := Int.eq_ofNat_of_zero_le ax.1
    rw [hX, Int.toNat_natCast] at hvx
    rw [hX]
    have hA : val (xs.take i) * 2 ^ n < 18446744073709551616 ^ (i + n / 64) * 2 ^ (n % 64) := by
      have h1 := val_lt (inR_take hx i)
      rw [List.length_take, Nat.min_eq_left (by omega)] at h1
      rw [two_pow_split n, Nat.pow_add, ← Nat.mul_assoc]
      exact Nat.mul_lt_mul_of_pos_right (Nat.mul_lt_mul_of_pos_right h1 (Nat.pow_pos (by decide))) (Nat.two_pow_pos _)
    have hxl : x < 18446744073709551616 := by omega
    obtain ⟨w0, w1⟩ := left_words (n2 := n2) (x := x) (show n % 64 < 64 by omega) hA hxl (by omega)
    have en : val (xs.take i) * 2 ^ n + 18446744073709551616 ^ (i + n / 64) * (x * 2 ^ (n % 64)) = val (xs.take (i + 1)) * 2 ^ n := by
      rw [hvx, Nat.add_mul]
      congr 1
      rw [two_pow_split n, Nat.pow_add]
      simp only [Nat.mul_assoc, Nat.mul_comm, Nat.mul_left_comm]
    rw [en] at w0 w1
    have d1 : decide ((0 : Int) ≤ ((i + n / 64 : Nat) : Int) ∧ ((i + n / 64 : Nat) : Int) < (n2 : Int)) = true := decide_eq_true (by omega)
    have d2 : decide (i + n / 64 < n2) = true := decide_eq_true (by omega)
    have d3 : decide ((0 : Int) ≤ (i : Int) ∧ (i : Int) < ((xs.length : Nat) : Int)) = true := decide_eq_true (by omega)
    have d4 : decide (i < xs.length) = true := decide_eq_true (by omega)
    have d5 : decide (((n % 64 : Nat) : Int) < 0) = false := decide_eq_false (by omega)
    have d6 : decide (i + n / 64 < n2 ∧ True ∧ (Ty.i .u64).size = 1) = true := decide_eq_true ⟨by omega, trivial, rfl⟩
    have d7 : decide ((i : Int) < ((xs.length : Nat) : Int)) = true := decide_eq_true (by omega)
    rw [d7, cond_true, d1, cond_true, d2, cond_true, d3, cond_true, d4, cond_true, d5, cond_false, cond_true, d6, cond_true]
    have next := ih (i + 1) (by omega)
    by_cases hr : n % 64 = 0
    · rw [w0 hr, decide_eq_false (by omega), cond_false]
      exact next
    · have d8 : decide (((64 - n % 64 : Nat) : Int) < 0) = false := decide_eq_false (by omega)
      have d9 : decide ((0 : Int) ≤ ((i + n / 64 + 1 : Nat) : Int) ∧ ((i + n / 64 + 1 : Nat) : Int) < (n2 : Int)) = true := decide_eq_true (by omega)
      have d10 : decide (i + n / 64 + 1 < n2 ∧ True ∧ (Ty.i .u64).size = 1) = true := decide_eq_true ⟨by omega, trivial, rfl⟩
      rw [w1, decide_eq_true (by omega), cond_true, cond_true, cond_true, d8, cond_false, d9, cond_true, d10, cond_true]
      exact next
theorem leftL_ok : LoopOK leftE 0 (lbody Try.f51 0) leftL := loopOK_lx fun vs m κ r hv hm h => by
  split at h
  case h_2 => cases h
  rename_i n l i o n1 xs n2 out
  replace h := cond_none h
  obtain ⟨hc, h⟩ := h
  obtain ⟨rfl, rfl, h3, h4, h5, h6, h7⟩ := of_decide_eq_true hc
  obtain ⟨hx1, hx2, hx3⟩ := hm 0 _ _ rfl
  obtain ⟨hz1, hz2, hz3⟩ := hm 1 _ _ rfl
  obtain ⟨n, rfl⟩ := Int.eq_ofNat_of_zero_le h3
  rw [Int.toNat_natCast] at *
  subst hx1
  have ho : out = wordsN n2 0 := wordsN_eq hz3 hz1 h7
  subst ho
  have key := left_loop xs hx3 o n n2 h6 h5 (by omega) κ xs.length 0 (by omega)
  simp only [List.take_zero, val, Nat.zero_mul] at key
  exact ⟨_, key.trans h⟩
theorem left_ev (xs : List Int) (n : Int) : evFn leftE Try.f51 [.w .u64 xs, .p (.int .i64 n)] =
    let l := IntKind.i64.wrap (IntKind.i64.wrap ((xs.length : Int) + IntKind.i64.wrap (n.tdiv 64)) + 1)
    cond (decide (0 ≤ l ∧ l ≤ l ∧ l ≤ 17592186044416)) (cond (decide ((xs.length : Int) = (xs.length : Int) ∧ (0 : Int) = 0 ∧ 0 ≤ n ∧ n ≤ 1099511627776 ∧ xs.length ≤ 274877906944 ∧ l.toNat = xs.length + n.toNat / 64 + 1 ∧ val (List.replicate l.toNat 0) = 0))
      (cond (decide ((wordsN l.toNat (val xs * 2 ^ n.toNat)).length ≤ 1099511627776)) (some [(.mine, .w .u64 (words (val (wordsN l.toNat (val xs * 2 ^ n.toNat)))))]) none) none) none := by kernel_rfl
theorem shl_lt (xs : List Int) (hx : inR .u64 xs) (n : Nat) : val xs * 2 ^ n < 18446744073709551616 ^ (xs.length + n / 64 + 1) := by
  rw [two_pow_split n, ← Nat.mul_assoc]
  refine Nat.lt_of_lt_of_le (Nat.mul_lt_mul_of_pos_right (Nat.mul_lt_mul_of_pos_right (val_lt hx) (pow_pos64 _)) (Nat.two_pow_pos _)) ?_
  rw [← Nat.pow_add]
  exact pow_two_le (by omega)
theorem left_he : ∀ ds κ r, (∀ d ∈ ds, d.wf) → leftC ds κ = some r → ∃ res, κ res = some r ∧ evFn leftE Try.f51 ds = some res := fun ds κ r hw h => by
  unfold leftC at h
  split at h
  case h_2 => cases h
  rename_i xs n
  obtain ⟨hc, h⟩ := cond_none h
  obtain ⟨h1, h2, h3⟩ := of_decide_eq_true hc
  have hx := (wfW hw (xs := xs) (by simp)).2
  refine ⟨_, h, (left_ev xs n).trans ?_⟩
  obtain ⟨n, rfl⟩ := Int.eq_ofNat_of_zero_le h2
  have hlt := shl_lt xs hx n
  simp only []
  rw [tdiv64, i64_wrap (x := ((n / 64 : Nat) : Int)) (by omega) (by omega), i64_wrap (x := (xs.length : Int) + ((n / 64 : Nat) : Int)) (by omega) (by omega), i64_wrap (by omega) (by omega)]
  have e : ((xs.length : Int) + ((n / 64 : Nat) : Int) + 1).toNat = xs.length + n / 64 + 1 := by omega
  rw [e, Int.toNat_natCast, val_zeros, length_wordsN, val_wordsN, Nat.mod_eq_of_lt hlt, decide_eq_true (by omega), cond_true, decide_eq_true ⟨trivial, trivial, by omega, by omega, by omega, rfl, rfl⟩, cond_true, decide_eq_true (by omega), cond_true]
theorem left_fn : FnOK Try.prog 51 leftC := fnOK_mk T mixed Try.func51 (by kernel_rfl) (fns := [(42, trimC)]) (lps := [(0, leftL)]) (live := [(0, [0, 1, 5, 15, 16])]) (out := [(0, [5])]) (fuel := 0) (give := (fun _ => false)) ⟨trim_fn, trivial⟩ ⟨leftL_ok, trivial⟩ left_he
end
end Go.Proofs.Ytcglfmldodhakaa.Vm

namespace Go.Proofs.Ytcglfmldodhakaa.Vm
open Go Go.Vm
noncomputable section

/-! ### Right -/
def rightC : FnC := fun ds κ => match ds with
  | [.w .u64 xs, .p (.int .i64 n)] => cond (decide (xs.length ≤ 274877906944 ∧ 0 ≤ n)) (κ [(.new, .w .u64 (words (val xs / 2 ^ n.toNat))), (.mine, .p (.bool (decide (val xs % 2 ^ n.toNat ≠ 0))))]) none
  | _ => none
def rightL : LpC := lpC 84 [0, 1, 6, 12, 13] fun vs m κ => match vs, m with
  | [.o (.f 0), .o (.p (.int .i64 n)), .o (.p (.bool g)), .o (.p (.int .i64 l)), .o (.p (.int .i64 i))], [(o, .w .u64 n1 xs)] =>
    cond (decide (g = false ∧ l = (n1 : Int) ∧ i = 0 ∧ 0 ≤ n ∧ n < 9223372036854775808)) (κ (.exit 0) (lay 84 [0, 1, 6] [.o (.f 0), .o (.p (.int .i64 n)), .o (.p (.bool (decide (val xs % 2 ^ n.toNat ≠ 0))))]) [(o, .w .u64 n1 xs)]) none
  | _, _ => none
def rightL2 : LpC := lpC 84 [0, 1, 6, 8, 9] fun vs m κ => match vs, m with
  | [.o (.f 0), .o (.p (.int .i64 n)), .o (.p (.bool g)), .o .z, .o (.p (.int .i64 i))], [(_, .w .u64 n1 xs)] =>
    cond (decide (0 ≤ n ∧ n < 9223372036854775808 ∧ i = ((n.toNat / 64 : Nat) : Int) ∧ n1 ≤ 274877906944))
      (cond (decide (n.toNat / 64 < n1)) (κ (.exit 2) (lay 84 [6, 8] [.o (.p (.bool g)), .o (.f 0)]) [(.mine, .w .u64 (n1 - n.toNat / 64) (wordsN (n1 - n.toNat / 64) (val xs / 2 ^ n.toNat)))])
        (κ (.exit 2) (lay 84 [6, 8] [.o (.p (.bool g)), .o .z]) [])) none
  | _, _ => none
def rightE : Env := mkE ty [(55, wordC), (42, trimC)] [(0, rightL), (2, rightL2)] [(0, [0, 1, 6, 12, 13]), (2, [0, 1, 6, 8, 9])] [(0, [0, 1, 6]), (2, [6, 8])] 0 (fun _ => false)
def rightSt (n : Int) (g : Bool) (l i : Int) : List V := lay 84 [0, 1, 6, 12, 13] [.o (.f 0), .o (.p (.int .i64 n)), .o (.p (.bool g)), .o (.p (.int .i64 l)), .o (.p (.int .i64 i))]
def rightT (xs : List Int) (n1 : Nat) (i n : Int) (kT kF : R) : R :=
  cond (i == IntKind.i64.wrap (n.tdiv 64)) (cond (decide (0 ≤ i ∧ i < (n1 : Int))) (cond (decide (i.toNat < n1)) (cond (decide (IntKind.u64.wrap (n.tmod 64) < 0)) none
    (cond (Go.bits .and .u64 (xs.getD i.toNat 0) (IntKind.u64.wrap (shlI .u64 1 (IntKind.u64.wrap (n.tmod 64)) - 1)) != 0) kT kF)) none) none) kF
theorem right_round (n : Int) (g : Bool) (l i : Int) (o : Own) (n1 : Nat) (xs : List Int) (f : Nat) (κ : X → List V → Mem → R) :
    lx rightE Try.f53 0 (f + 1) (rightSt n g l i) [(o, .w .u64 n1 xs)] κ =
      cond (decide (i < l)) (cond (decide (i < IntKind.i64.wrap (n.tdiv 64)))
        (cond (decide (0 ≤ i ∧ i < (n1 : Int))) (cond (decide (i.toNat < n1)) (cond (xs.getD i.toNat 0 != 0) (lx rightE Try.f53 0 f (rightSt n true l (IntKind.i64.wrap (i + 1))) [(o, .w .u64 n1 xs)] κ)
          (rightT xs n1 i n (lx rightE Try.f53 0 f (rightSt n true l (IntKind.i64.wrap (i + 1))) [(o, .w .u64 n1 xs)] κ) (lx rightE Try.f53 0 f (rightSt n g l (IntKind.i64.wrap (i + 1))) [(o, .w .u64 n1 xs)] κ))) none) none)
        (rightT xs n1 i n (lx rightE Try.f53 0 f (rightSt n true l (IntKind.i64.wrap (i + 1))) [(o, .w .u64 n1 xs)] κ) (lx rightE Try.f53 0 f (rightSt n g l (IntKind.i64.wrap (i + 1))) [(o, .w .u64 n1 xs)] κ)))
      (κ (.exit 0) (lay 84 [0, 1, 6] [.o (.f 0), .o (.p (.int .i64 n)), .o (.p (.bool g))]) [(o, .w .u64 n1 xs)]) := by kernel_rfl
/-- The word of a place, shifted. -/
def rightW (xs : List Int) (i n : Int) (kκ : Int → R) : R :=
  cond (decide (IntKind.u64.wrap (n.tmod 64) < 0)) none (cond (decide (n.tmod 64 > 0))
    (cond (decide (IntKind.u64.wrap (IntKind.i64.wrap (64 - n.tmod 64)) < 0)) none
      (kκ (Go.bits .or .u64 (shrI .u64 (xs.getD i.toNat 0) (IntKind.u64.wrap (n.tmod 64))) (shlI .u64 (wordI xs (IntKind.i64.wrap (i + 1))) (IntKind.u64.wrap (IntKind.i64.wrap (64 - n.tmod 64)))))))
    (kκ (shrI .u64 (xs.getD i.toNat 0) (IntKind.u64.wrap (n.tmod 64)))))
theorem right_first (n : Int) (g : Bool) (i : Int) (o : Own) (n1 : Nat) (xs : List Int) (f : Nat) (κ : X → List V → Mem → R) :
    lx rightE Try.f53 2 (f + 1) (lay 84 [0, 1, 6, 8, 9] [.o (.f 0), .o (.p (.int .i64 n)), .o (.p (.bool g)), .o .z, .o (.p (.int .i64 i))]) [(o, .w .u64 n1 xs)] κ =
      cond (decide (i < (n1 : Int))) (cond (decide (0 ≤ i ∧ i < (n1 : Int))) (cond (decide (i.toNat < n1)) (rightW xs i n fun v =>
        lx rightE Try.f53 2 f (lay 84 [0, 1, 6, 8, 9] [.o (.f 0), .o (.p (.int .i64 n)), .o (.p (.bool g)), .o (.f 1), .o (.p (.int .i64 (IntKind.i64.wrap (i + 1))))]) [(o, .w .u64 n1 xs), (.mine, .w .u64 1 [v])] κ) none) none)
      (κ (.exit 2) (lay 84 [6, 8] [.o (.p (.bool g)), .o .z]) []) := by kernel_rfl
theorem right_more (n : Int) (g : Bool) (i : Int) (o : Own) (n1 n2 : Nat) (xs out : List Int) (f : Nat) (κ : X → List V → Mem → R) :
    lx rightE Try.f53 2 (f + 1) (lay 84 [0, 1, 6, 8, 9] [.o (.f 0), .o (.p (.int .i64 n)), .o (.p (.bool g)), .o (.f 1), .o (.p (.int .i64 i))]) [(o, .w .u64 n1 xs), (.mine, .w .u64 n2 out)] κ =
      cond (decide (i < (n1 : Int))) (cond (decide (0 ≤ i ∧ i < (n1 : Int))) (cond (decide (i.toNat < n1)) (rightW xs i n fun v =>
        cond (decide (IntKind.u64 = IntKind.u64 ∧ IntKind.u64 = IntKind.u64 ∧ nameOf (.o (.f 2)) ≠ some 1 ∧ n2 + [v].length ≤ 17592186044416))
        (lx rightE Try.f53 2 f (lay 84 [0, 1, 6, 8, 9] [.o (.f 0), .o (.p (.int .i64 n)), .o (.p (.bool g)), .o (.f 1), .o (.p (.int .i64 (IntKind.i64.wrap (i + 1))))]) [(o, .w .u64 n1 xs), (.mine, .w .u64 (n2 + [v].length) (out ++ [v]))] κ) none) none) none)
      (κ (.exit 2) (lay 84 [6, 8] [.o (.p (.bool g)), .o (.f 0)]) [(.mine, .w .u64 n2 out)]) := by kernel_rfl
theorem and_mask {x r : Nat} (hx : x < 18446744073709551616) (hr : r < 64) : Go.bits .and .u64 (x : Int) (IntKind.u64.wrap (shlI .u64 1 (r : Int) - 1)) = ((x % 2 ^ r : Nat) : Int) := by
  have h2 := two_pow_le hr
  have hp := Nat.two_pow_pos r
  have e : shlI .u64 1 (r : Int) - 1 = ((2 ^ r - 1 : Nat) : Int) := by
    have h1 := shl_nat 1 r
    rw [Nat.min_eq_left (by omega), Nat.one_mul, Nat.mod_eq_of_lt (by omega)] at h1
    have h3 : shlI .u64 1 (r : Int) = shlI .u64 ((1 : Nat) : Int) (r : Int) := rfl
    rw [h3, h1]
    omega
  rw [e, u64_wrap (by omega) (by omega), u64_and_nat x _ hx (by omega), Nat.and_two_pow_sub_one_eq_mod]
theorem wordsN_succ : ∀ (j n : Nat), wordsN (j + 1) n = wordsN j n ++ [((n / 18446744073709551616 ^ j % 18446744073709551616 : Nat) : Int)]
  | 0, n => by simp [wordsN]
  | j + 1, n => by
    rw [wordsN, wordsN_succ j, Nat.div_div_eq_div_mul, Nat.pow_succ, Nat.mul_comm (18446744073709551616 ^ j)]
    rfl
/-- What goes out, word by word. -/
theorem gone_low {X x n i : Nat} (hX : X < 18446744073709551616 ^ i) (hx : x < 18446744073709551616) (hi : i < n / 64) : (X + 18446744073709551616 ^ i * x) % 2 ^ n ≠ 0 ↔ X % 2 ^ n ≠ 0 ∨ x ≠ 0 := by
  have h1 : X + 18446744073709551616 ^ i * x < 18446744073709551616 ^ (i + 1) := by
    rw [Nat.pow_succ]
    have : 18446744073709551616 ^ i * (x + 1) ≤ 18446744073709551616 ^ i * 18446744073709551616 := Nat.mul_le_mul_left _ hx
    rw [Nat.mul_add, Nat.mul_one] at this
    exact Nat.lt_of_lt_of_le (Nat.add_lt_add_right hX _) (by rw [Nat.add_comm]; exact this)
  have h2 : 18446744073709551616 ^ (i + 1) ≤ 2 ^ n := by
    rw [pow64]
    exact Nat.pow_le_pow_right (by decide) (by omega)
  have h3 : X ≤ X + 18446744073709551616 ^ i * x := Nat.le_add_right _ _
  rw [Nat.mod_eq_of_lt (Nat.lt_of_lt_of_le h1 h2), Nat.mod_eq_of_lt (Nat.lt_of_le_of_lt h3 (Nat.lt_of_lt_of_le h1 h2))]
  have hp := pow_pos64 i
  constructor
  · intro h
    by_cases hz : x = 0
    · subst hz; left; simpa using h
    · exact .inr hz
  · rintro (h | h)
    · exact fun e => h (Nat.eq_zero_of_add_eq_zero_right e)
    · intro e
      have := Nat.eq_zero_of_add_eq_zero_left e
      rcases Nat.mul_eq_zero.1 this with h4 | h4
      · omega
      · exact h h4
theorem gone_at {X x n : Nat} (hX : X < 18446744073709551616 ^ (n / 64)) : (X + 18446744073709551616 ^ (n / 64) * x) % 2 ^ n ≠ 0 ↔ X % 2 ^ n ≠ 0 ∨ x % 2 ^ (n % 64) ≠ 0 := by
  have hp := pow_pos64 (n / 64)
  have e1 : (X + 18446744073709551616 ^ (n / 64) * x) % 2 ^ n = X + 18446744073709551616 ^ (n / 64) * (x % 2 ^ (n % 64)) := by
    rw [two_pow_split n, Nat.mod_mul, Nat.add_mul_mod_self_left, Nat.mod_eq_of_lt hX, Nat.add_mul_div_left _ _ hp, Nat.div_eq_of_lt hX, Nat.zero_add]
  have e2 : X % 2 ^ n = X := by
    refine Nat.mod_eq_of_lt (Nat.lt_of_lt_of_le hX ?_)
    rw [two_pow_split n]
    exact Nat.le_mul_of_pos_right _ (Nat.two_pow_pos _)
  rw [e1, e2]
  constructor
  · intro h
    by_cases hz : x % 2 ^ (n % 64) = 0
    · rw [hz] at h; left; simpa using h
    · exact .inr hz
  · rintro (h | h)
    · exact fun e => h (Nat.eq_zero_of_add_eq_zero_right e)
    · intro e
      have := Nat.eq_zero_of_add_eq_zero_left e
      rcases Nat.mul_eq_zero.1 this with h4 | h4
      · omega
      · exact h h4
theorem gone_high {X x n i : Nat} (hi : n / 64 < i) : (X + 18446744073709551616 ^ i * x) % 2 ^ n = X % 2 ^ n := by
  have : 18446744073709551616 ^ i * x = 2 ^ n * (2 ^ (64 * i - n) * x) := by
    rw [pow64, ← Nat.mul_assoc, ← Nat.pow_add, show n + (64 * i - n) = 64 * i from by omega]
  rw [this, Nat.add_mul_mod_self_left]
theorem dec_congr {p q : Prop} [Decidable p] [Decidable q] (h : p ↔ q) : decide p = decide q := by simp [h]
theorem right_loop (xs : List Int) (hx : inR .u64 xs) (hl : xs.length ≤ 140737488355328) (o : Own) (n : Nat) (hn : n < 9223372036854775808) (κ : X → List V → Mem → R) :
    ∀ (j i : Nat), i + j = xs.length →
    lx rightE Try.f53 0 (j + 1) (rightSt n (decide (val (xs.take i) % 2 ^ n ≠ 0)) xs.length i) [(o, .w .u64 xs.length xs)] κ =
      κ (.exit 0) (lay 84 [0, 1, 6] [.o (.f 0), .o (.p (.int .i64 n)), .o (.p (.bool (decide (val xs % 2 ^ n ≠ 0))))]) [(o, .w .u64 xs.length xs)] := by
  intro j
  induction j with
  | zero =>
    intro i hi
    rw [right_round, decide_eq_false (by omega), cond_false, List.take_of_length_le (by omega)]
  | succ j ih =>
    intro i hi
    have next := ih (i + 1) (by omega)
    have ax := inR_at hx i
    have hvx : val (xs.take (i + 1)) = val (xs.take i) + 18446744073709551616 ^ i * (xs.getD i 0).toNat := val_take_succ (by omega)
    have hX := val_lt (inR_take hx i)
    rw [List.length_take, Nat.min_eq_left (by omega)] at hX
    obtain ⟨x, hxx⟩ := Int.eq_ofNat_of_zero_le ax.1
    have hxl : x < 18446744073709551616 := by omega
    have d1 : decide ((i : Int) < ((xs.length : Nat) : Int)) = true := decide_eq_true (by omega)
    have d3 : decide ((0 : Int) ≤ (i : Int) ∧ (i : Int) < ((xs.length : Nat) : Int)) = true := decide_eq_true (by omega)
    have d4 : decide (i < xs.length) = true := decide_eq_true (by omega)
    rw [right_round, tdiv64, i64_wrap (x := ((n / 64 : Nat) : Int)) (by omega) (by omega), d1, cond_true, d3, cond_true, Int.toNat_natCast, d4, cond_true, i64_wrap (x := (i : Int) + 1) (by omega) (by omega), hxx]
    have e1 : ((i : Nat) : Int) + 1 = ((i + 1 : Nat) : Int) := rfl
    rw [e1]
    rw [hvx, hxx, Int.toNat_natCast] at next
    unfold rightT
    rw [tdiv64, i64_wrap (x := ((n / 64 : Nat) : Int)) (by omega) (by omega), tmod64, u64_wrap (x := ((n % 64 : Nat) : Int)) (by omega) (by omega), Int.toNat_natCast, hxx, and_mask hxl (by omega), d3, cond_true, d4, cond_true, decide_eq_false (p := ((n % 64 : Nat) : Int) < 0) (by omega), cond_false]
    rcases Nat.lt_trichotomy i (n / 64) with hlt | heq | hgt
    · have hg := gone_low hX hxl hlt
      rw [decide_eq_true (p := (i : Int) < ((n / 64 : Nat) : Int)) (by omega), cond_true, show (((i : Nat) : Int) == ((n / 64 : Nat) : Int)) = false from beq_eq_false_iff_ne.2 (by omega), cond_false]
      by_cases hz : x = 0
      · subst hz
        have : (((0 : Nat) : Int) != 0) = false := rfl
        rw [this, cond_false]
        rw [← next, dec_congr hg]
        simp
      · have : ((x : Int) != 0) = true := by simp [hz]
        rw [this, cond_true, ← next, dec_congr hg]
        simp [hz]
    · have hg := gone_at (x := x) (n := n) (by rw [← heq]; exact hX)
      rw [← heq] at hg
      rw [decide_eq_false (p := (i : Int) < ((n / 64 : Nat) : Int)) (by omega), cond_false, show (((i : Nat) : Int) == ((n / 64 : Nat) : Int)) = true from beq_iff_eq.2 (by omega), cond_true]
      by_cases hz : x % 2 ^ (n % 64) = 0
      · have : (((x % 2 ^ (n % 64) : Nat) : Int) != 0) = false := by rw [hz]; rfl
        rw [this, cond_false, ← next, dec_congr hg]
        simp [hz]
      · have : (((x % 2 ^ (n % 64) : Nat) : Int) != 0) = true := bne_iff_ne.2 (by omega)
        rw [this, cond_true, ← next, dec_congr hg]
        simp [hz]
    · have hg := gone_high (X := val (xs.take i)) (x := x) hgt
      rw [decide_eq_false (p := (i : Int) < ((n / 64 : Nat) : Int)) (by omega), cond_false, show (((i : Nat) : Int) == ((n / 64 : Nat) : Int)) = false from beq_eq_false_iff_ne.2 (by omega), cond_false, ← next, hg]
theorem rightL_ok : LoopOK rightE 0 (lbody Try.f53 0) rightL := loopOK_lx fun vs m κ r hv hm h => by
  split at h
  case h_2 => cases h
  rename_i n g l i o n1 xs
  replace h := cond_none h
  obtain ⟨hc, h⟩ := h
  obtain ⟨rfl, rfl, rfl, h3, h4⟩ := of_decide_eq_true hc
  obtain ⟨hx1, hx2, hx3⟩ := hm 0 _ _ rfl
  have h47 : lim = 140737488355328 := by decide
  obtain ⟨n, rfl⟩ := Int.eq_ofNat_of_zero_le h3
  rw [Int.toNat_natCast] at h
  subst hx1
  have key := right_loop xs hx3 (by omega) o n (by omega) κ xs.length 0 (by omega)
  have e : decide (val (xs.take 0) % 2 ^ n ≠ 0) = false := by simp [val]
  rw [e] at key
  exact ⟨_, key.trans h⟩
theorem rightW_eq (xs : List Int) (hx : inR .u64 xs) (hl : xs.length ≤ 140737488355328) (n i : Nat) (hi : i < xs.length) (hw : n / 64 ≤ i) (k : Int → R) :
    rightW xs i n k = k ((val xs / 2 ^ n / 18446744073709551616 ^ (i - n / 64) % 18446744073709551616 : Nat) : Int) := by
  have hr : n % 64 < 64 := Nat.mod_lt _ (by decide)
  have e0 : val xs / 2 ^ n / 18446744073709551616 ^ (i - n / 64) = val xs / 18446744073709551616 ^ i / 2 ^ (n % 64) := by
    rw [Nat.div_div_eq_div_mul, Nat.div_div_eq_div_mul, two_pow_split n, Nat.mul_right_comm, ← Nat.pow_add, show n / 64 + (i - n / 64) = i from by omega]
  have e1 : xs.getD i 0 = ((val xs / 18446744073709551616 ^ i % 18446744073709551616 : Nat) : Int) := getD_val hx i
  have e2 : xs.getD (i + 1) 0 = ((val xs / 18446744073709551616 ^ i / 18446744073709551616 % 18446744073709551616 : Nat) : Int) := by
    rw [getD_val hx, Nat.div_div_eq_div_mul, Nat.pow_succ]
  unfold rightW
  rw [tmod64, u64_wrap (x := ((n % 64 : Nat) : Int)) (by omega) (by omega), decide_eq_false (p := ((n % 64 : Nat) : Int) < 0) (by omega), cond_false, i64_wrap (x := (i : Int) + 1) (by omega) (by omega), show ((i : Nat) : Int) + 1 = ((i + 1 : Nat) : Int) from rfl, wordI_nat, Int.toNat_natCast, e1, e2, e0]
  generalize val xs / 18446744073709551616 ^ i = Q
  rw [shr_nat, Nat.min_eq_left (Nat.le_of_lt hr)]
  by_cases h0 : n % 64 = 0
  · rw [h0, decide_eq_false (by omega), cond_false, Nat.pow_zero, Nat.div_one, Nat.div_one]
  · have er : (64 : Int) - ((n % 64 : Nat) : Int) = ((64 - n % 64 : Nat) : Int) := by omega
    rw [decide_eq_true (p := ((n % 64 : Nat) : Int) > 0) (by omega), cond_true, er, i64_wrap (x := ((64 - n % 64 : Nat) : Int)) (by omega) (by omega), u64_wrap (x := ((64 - n % 64 : Nat) : Int)) (by omega) (by omega), decide_eq_false (p := ((64 - n % 64 : Nat) : Int) < 0) (by omega), cond_false]
    generalize n % 64 = r at *
    have hsp := pow64_split (Nat.le_of_lt hr)
    have hq1 : Q % 18446744073709551616 / 2 ^ r < 2 ^ (64 - r) := by
      rw [Nat.div_lt_iff_lt_mul (Nat.two_pow_pos r), Nat.mul_comm, ← hsp]
      exact Nat.mod_lt _ (by decide)
    obtain ⟨ho, hlt⟩ := or_shift (x := Q / 18446744073709551616 % 18446744073709551616) (show 64 - r < 64 by omega) hq1
    rw [ho]
    have h1 : Q / 2 ^ r = Q % 18446744073709551616 / 2 ^ r + 2 ^ (64 - r) * (Q / 18446744073709551616) := by
      have h2 : Q = Q % 18446744073709551616 + 2 ^ r * (2 ^ (64 - r) * (Q / 18446744073709551616)) := by
        rw [← Nat.mul_assoc, ← hsp, Nat.mod_add_div]
      have h3 : Q / 2 ^ r = (Q % 18446744073709551616 + 2 ^ r * (2 ^ (64 - r) * (Q / 18446744073709551616))) / 2 ^ r := congrArg (· / 2 ^ r) h2
      rw [h3, Nat.add_mul_div_left _ _ (Nat.two_pow_pos r)]
    have h4 : Q / 18446744073709551616 % 18446744073709551616 * 2 ^ (64 - r) % 18446744073709551616 = 2 ^ (64 - r) * (Q / 18446744073709551616) % 18446744073709551616 := by
      rw [Nat.mul_comm, Nat.mul_mod, Nat.mod_mod, ← Nat.mul_mod]
    have h5 : Q / 2 ^ r % 18446744073709551616 = Q % 18446744073709551616 / 2 ^ r + Q / 18446744073709551616 % 18446744073709551616 * 2 ^ (64 - r) % 18446744073709551616 := by
      rw [h4, h1, Nat.add_mod, Nat.mod_eq_of_lt (a := Q % 18446744073709551616 / 2 ^ r) (Nat.lt_of_le_of_lt (Nat.div_le_self _ _) (Nat.mod_lt _ (by decide))), ← h4, Nat.mod_eq_of_lt hlt]
    rw [h5]
theorem right_loop2 (xs : List Int) (hx : inR .u64 xs) (hl : xs.length ≤ 274877906944) (o : Own) (n : Nat) (g : Bool) (κ : X → List V → Mem → R) :
    ∀ (j i : Nat), i + j = xs.length → n / 64 ≤ i →
    lx rightE Try.f53 2 (j + 1) (lay 84 [0, 1, 6, 8, 9] [.o (.f 0), .o (.p (.int .i64 n)), .o (.p (.bool g)), .o (.f 1), .o (.p (.int .i64 i))]) [(o, .w .u64 xs.length xs), (.mine, .w .u64 (i - n / 64) (wordsN (i - n / 64) (val xs / 2 ^ n)))] κ =
      κ (.exit 2) (lay 84 [6, 8] [.o (.p (.bool g)), .o (.f 0)]) [(.mine, .w .u64 (xs.length - n / 64) (wordsN (xs.length - n / 64) (val xs / 2 ^ n)))] := by
  intro j
  induction j with
  | zero =>
    intro i hi hw
    rw [right_more, decide_eq_false (by omega), cond_false, show i = xs.length from by omega]
  | succ j ih =>
    intro i hi hw
    have next := ih (i + 1) (by omega) (by omega)
    have d1 : decide ((i : Int) < ((xs.length : Nat) : Int)) = true := decide_eq_true (by omega)
    have d3 : decide ((0 : Int) ≤ (i : Int) ∧ (i : Int) < ((xs.length : Nat) : Int)) = true := decide_eq_true (by omega)
    have d4 : decide (i < xs.length) = true := decide_eq_true (by omega)
    rw [right_more, d1, cond_true, d3, cond_true, Int.toNat_natCast, d4, cond_true, rightW_eq xs hx (by omega) n i (by omega) hw, decide_eq_true ⟨rfl, rfl, by decide, by simp; omega⟩, cond_true, i64_wrap (x := (i : Int) + 1) (by omega) (by omega), ← wordsN_succ]
    have e1 : i - n / 64 + 1 = i + 1 - n / 64 := by omega
    rw [List.length_singleton, e1]
    exact next
theorem rightL2_ok : LoopOK rightE 2 (lbody Try.f53 2) rightL2 := loopOK_lx fun vs m κ r hv hm h => by
  split at h
  case h_2 => cases h
  rename_i n g i o n1 xs
  replace h := cond_none h
  obtain ⟨hc, h⟩ := h
  obtain ⟨h3, h4, rfl, h5⟩ := of_decide_eq_true hc
  obtain ⟨hx1, hx2, hx3⟩ := hm 0 _ _ rfl
  obtain ⟨n, rfl⟩ := Int.eq_ofNat_of_zero_le h3
  rw [Int.toNat_natCast] at *
  subst hx1
  by_cases hlt : n / 64 < xs.length
  · rw [decide_eq_true hlt, cond_true] at h
    have key := right_loop2 xs hx3 (by omega) o n g κ (xs.length - (n / 64 + 1)) (n / 64 + 1) (by omega) (by omega)
    refine ⟨xs.length - (n / 64 + 1) + 1 + 1, ?_⟩
    rw [right_first, decide_eq_true (by omega), cond_true, decide_eq_true (by omega), cond_true, Int.toNat_natCast, decide_eq_true hlt, cond_true, rightW_eq xs hx3 (by omega) n (n / 64) hlt (Nat.le_refl _), i64_wrap (x := ((n / 64 : Nat) : Int) + 1) (by omega) (by omega)]
    have e : n / 64 + 1 - n / 64 = 1 := by omega
    rw [e] at key
    have e2 : wordsN 1 (val xs / 2 ^ n) = [((val xs / 2 ^ n / 18446744073709551616 ^ (n / 64 - n / 64) % 18446744073709551616 : Nat) : Int)] := by
      rw [Nat.sub_self, Nat.pow_zero, Nat.div_one]
      rfl
    rw [e2] at key
    exact key.trans h
  · rw [decide_eq_false hlt, cond_false] at h
    refine ⟨1, ?_⟩
    rw [right_first, decide_eq_false (by omega), cond_false]
    exact h
theorem right_ev (xs : List Int) (n : Int) : evFn rightE Try.f53 [.w .u64 xs, .p (.int .i64 n)] =
    cond (decide (false = false ∧ (xs.length : Int) = (xs.length : Int) ∧ (0 : Int) = 0 ∧ 0 ≤ n ∧ n < 9223372036854775808))
      (cond (decide (0 ≤ n ∧ n < 9223372036854775808 ∧ IntKind.i64.wrap (n.tdiv 64) = ((n.toNat / 64 : Nat) : Int) ∧ xs.length ≤ 274877906944))
        (cond (decide (n.toNat / 64 < xs.length))
          (cond (decide ((wordsN (xs.length - n.toNat / 64) (val xs / 2 ^ n.toNat)).length ≤ 1099511627776))
            (some [(.new, .w .u64 (words (val (wordsN (xs.length - n.toNat / 64) (val xs / 2 ^ n.toNat))))), (.mine, .p (.bool (decide (val xs % 2 ^ n.toNat ≠ 0))))]) none)
          (some [(.new, .w .u64 (words (val []))), (.mine, .p (.bool (decide (val xs % 2 ^ n.toNat ≠ 0))))])) none) none := by kernel_rfl
theorem shr_lt (xs : List Int) (hx : inR .u64 xs) (n : Nat) : val xs / 2 ^ n < 18446744073709551616 ^ (xs.length - n / 64) := by
  rw [Nat.div_lt_iff_lt_mul (Nat.two_pow_pos n)]
  refine Nat.lt_of_lt_of_le (val_lt hx) ?_
  rw [pow64, pow64, ← Nat.pow_add]
  exact Nat.pow_le_pow_right (by decide) (by omega)
theorem right_he : ∀ ds κ r, (∀ d ∈ ds, d.wf) → rightC ds κ = some r → ∃ res, κ res = some r ∧ evFn rightE Try.f53 ds = some res := fun ds κ r hw h => by
  unfold rightC at h
  split at h
  case h_2 => cases h
  rename_i xs n
  obtain ⟨hc, h⟩ := cond_none h
  obtain ⟨h1, h2⟩ := of_decide_eq_true hc
  have hx := (wfW hw (xs := xs) (by simp)).2
  have hn := (wfI hw (x := n) (by simp)).2
  refine ⟨_, h, (right_ev xs n).trans ?_⟩
  obtain ⟨n, rfl⟩ := Int.eq_ofNat_of_zero_le h2
  have hlt := shr_lt xs hx n
  rw [tdiv64, i64_wrap (x := ((n / 64 : Nat) : Int)) (by omega) (by omega), Int.toNat_natCast, decide_eq_true ⟨rfl, rfl, rfl, by omega, hn⟩, cond_true, decide_eq_true ⟨by omega, hn, rfl, h1⟩, cond_true]
  by_cases hl : n / 64 < xs.length
  · rw [decide_eq_true hl, cond_true, length_wordsN, decide_eq_true (by omega), cond_true, val_wordsN, Nat.mod_eq_of_lt hlt]
  · rw [decide_eq_false hl, cond_false]
    rw [show xs.length - n / 64 = 0 from by omega, Nat.pow_zero] at hlt
    rw [show val xs / 2 ^ n = 0 from Nat.lt_one_iff.1 hlt]
    rfl
theorem right_fn : FnOK Try.prog 53 rightC := fnOK_mk T mixed Try.func53 (by kernel_rfl) (fns := [(55, wordC), (42, trimC)]) (lps := [(0, rightL), (2, rightL2)]) (live := [(0, [0, 1, 6, 12, 13]), (2, [0, 1, 6, 8, 9])]) (out := [(0, [0, 1, 6]), (2, [6, 8])]) (fuel := 0) (give := (fun _ => false)) ⟨word_fn, trim_fn, trivial⟩ ⟨rightL_ok, rightL2_ok, trivial⟩ right_he
end
end Go.Proofs.Ytcglfmldodhakaa.Vm
