/-
  Conversions between formats, evaluated: binconv.Still, Special, Convert, ref05.NaN, ref12.Into, Convert. No statement is proved here.
-/
import Derived.Test.YtdpcokahhleopaaCalR6
import Derived.Test.YtdpcokahhleopaaCalBQ
import Derived.Test.YtdpcokahhleopaaCalV0
namespace Go.Proofs.Ytdpcokahhleopaa.Vm
open Go Go.Vm
noncomputable section
set_option linter.unusedVariables false

/-! ### NaNs -/
def stillT (n c : Int) (s q : Bool) (x w0 w1 w2 w3 : Int) (κ : List (Own × D) → R) : R :=
  cond (decide (val [w0, w1, w2, w3] < 2 ^ (payI n).toNat)) (κ [(.mine, .g [.int .i64 c, .bool s, .bool false, .int .i64 x, .int .u64 w0, .int .u64 w1, .int .u64 w2, .int .u64 w3]), (.mine, .p (.int .i64 (cond q 1 0)))])
    (κ [(.mine, .g [.int .i64 c, .bool s, .bool false, .int .i64 x, .int .u64 0, .int .u64 0, .int .u64 0, .int .u64 0]), (.mine, .p (.int .i64 (cond q 1 0)))])
def stillC : FnC := fun ds κ => match ds with
  | [.p (.int .i64 n), .g [.int .i64 c, .bool s, .bool q, .int .i64 x, .int .u64 w0, .int .u64 w1, .int .u64 w2, .int .u64 w3]] => cond (decide (1 ≤ n ∧ n ≤ 6)) (stillT n c s q x w0 w1 w2 w3 κ) none
  | _ => none
def stillE : Env := mkE ty [(70, dOfC), (107, nPowerC), (44, nCmpC)] [] [] [] 0 (fun _ => false)
theorem still_ev (n c : Int) (s q : Bool) (x w0 w1 w2 w3 : Int) : evFn stillE Try.f95 [.p (.int .i64 n), .g [.int .i64 c, .bool s, .bool q, .int .i64 x, .int .u64 w0, .int .u64 w1, .int .u64 w2, .int .u64 w3]] =
    (cond (decide ((1 : Int) ≤ n ∧ n ≤ (12 : Int)))
     (cond (decide (baseI n = (2 : Int) ∧ (0 : Int) ≤ payI n ∧ payI n ≤ (12000 : Int)))
      (cond (decide (cmpI (val [w0, w1, w2, w3]) (val (words (2 ^ (payI n).toNat))) ≥ (0 : Int)))
       (cond (q)
        (some [(.mine, .g [(.int .i64 (c)), (.bool (s)), (.bool (false)), (.int .i64 (x)), (.int .u64 (0)), (.int .u64 (0)), (.int .u64 (0)), (.int .u64 (0))]), (.mine, .p (.int .i64 (1)))])
        (some [(.mine, .g [(.int .i64 (c)), (.bool (s)), (.bool (false)), (.int .i64 (x)), (.int .u64 (0)), (.int .u64 (0)), (.int .u64 (0)), (.int .u64 (0))]), (.mine, .p (.int .i64 (0)))]))
       (cond (q)
        (some [(.mine, .g [(.int .i64 (c)), (.bool (s)), (.bool (false)), (.int .i64 (x)), (.int .u64 (w0)), (.int .u64 (w1)), (.int .u64 (w2)), (.int .u64 (w3))]), (.mine, .p (.int .i64 (1)))])
        (some [(.mine, .g [(.int .i64 (c)), (.bool (s)), (.bool (false)), (.int .i64 (x)), (.int .u64 (w0)), (.int .u64 (w1)), (.int .u64 (w2)), (.int .u64 (w3))]), (.mine, .p (.int .i64 (0)))])))
      none)
     none) := by kernel_rfl
theorem cmpI_ge (a b : Nat) : decide (cmpI a b ≥ 0) = !decide (a < b) := by
  have := cmpI_neg a b
  by_cases h : cmpI a b < 0
  · rw [decide_eq_true h] at this
    rw [← this, decide_eq_false (by omega)]
    rfl
  · rw [decide_eq_false h] at this
    rw [← this, decide_eq_true (by omega)]
    rfl
theorem still_he : ∀ ds κ r, (∀ d ∈ ds, d.wf) → stillC ds κ = some r → ∃ res, κ res = some r ∧ evFn stillE Try.f95 ds = some res := fun ds κ r hw h => by
  unfold stillC at h
  split at h
  case h_2 => cases h
  rename_i n c s q x w0 w1 w2 w3
  replace h := cond_none h
  obtain ⟨hc, h⟩ := h
  have h6 := of_decide_eq_true hc
  obtain ⟨f1, f2, f3, f4, f5, f6, f7, f8, f9, f10, f11, f12⟩ := fmt h6
  rw [still_ev, decide_eq_true (by omega), cond_true, decide_eq_true ⟨f1, by omega, by omega⟩, cond_true, val_words, cmpI_ge]
  unfold stillT at h
  cases hd : decide (val [w0, w1, w2, w3] < 2 ^ (payI n).toNat) <;> rw [hd] at h <;> cases q <;> exact ⟨_, h, rfl⟩
theorem still_fn : FnOK Try.prog 95 stillC := fnOK_mk T mixed Try.func95 (by kernel_rfl) (fns := [(70, dOfC), (107, nPowerC), (44, nCmpC)]) (lps := []) (live := []) (out := []) (fuel := 0) (give := (fun _ => false)) ⟨dOf_fn, nPower_fn, nCmp_fn, trivial⟩ trivial still_he
def rPowE : Env := mkE ty [(58, powC)] [] [] [] 0 (fun _ => false)
theorem rPow_ev (b n : Int) : evFn rPowE Try.f117 [.p (.int .i64 b), .p (.int .i64 n)] =
    (cond (decide ((0 : Int) ≤ n ∧ n ≤ (100000 : Int)))
     (some [(.mine, .w .u64 (words ((IntKind.u64.wrap b).toNat ^ n.toNat)))])
     none) := by kernel_rfl
def rPowC : FnC := fun ds κ => match ds with
  | [.p (.int .i64 b), .p (.int .i64 n)] => cond (decide (0 ≤ b ∧ b ≤ 1000 ∧ 0 ≤ n ∧ n ≤ 100000)) (κ [(.mine, .w .u64 (words (b.toNat ^ n.toNat)))]) none
  | _ => none
theorem rPow_he : ∀ ds κ r, (∀ d ∈ ds, d.wf) → rPowC ds κ = some r → ∃ res, κ res = some r ∧ evFn rPowE Try.f117 ds = some res := fun ds κ r hw h => by
  unfold rPowC at h
  split at h
  case h_2 => cases h
  rename_i b n
  replace h := cond_none h
  obtain ⟨hc, h⟩ := h
  obtain ⟨h1, h2, h3, h4⟩ := of_decide_eq_true hc
  rw [rPow_ev, decide_eq_true ⟨h3, h4⟩, cond_true, u64_wrap h1 (by omega)]
  exact ⟨_, h, rfl⟩
theorem rPow_fn : FnOK Try.prog 117 rPowC := fnOK_mk T mixed Try.func117 (by kernel_rfl) (fns := [(58, powC)]) (lps := []) (live := []) (out := []) (fuel := 0) (give := (fun _ => false)) ⟨pow_fn, trivial⟩ trivial rPow_he
def belowE : Env := mkE ty [(117, rPowC), (22, cmpC)] [] [] [] 0 (fun _ => false)
theorem below_ev (f : List Int) (b n : Int) : evFn belowE Try.f108 [.r .u64 4 f, .p (.int .i64 b), .p (.int .i64 n)] =
    (cond (decide ((0 : Int) ≤ b ∧ b ≤ (1000 : Int) ∧ (0 : Int) ≤ n ∧ n ≤ (100000 : Int)))
     (some [(.mine, .p (.bool (decide (cmpI (val f) (val (words (b.toNat ^ n.toNat))) < (0 : Int)))))])
     none) := by kernel_rfl
def belowC : FnC := fun ds κ => match ds with
  | [.r .u64 4 f, .p (.int .i64 b), .p (.int .i64 n)] => cond (decide (0 ≤ b ∧ b ≤ 1000 ∧ 0 ≤ n ∧ n ≤ 100000)) (κ [(.mine, .p (.bool (decide (val f < b.toNat ^ n.toNat))))]) none
  | _ => none
theorem below_he : ∀ ds κ r, (∀ d ∈ ds, d.wf) → belowC ds κ = some r → ∃ res, κ res = some r ∧ evFn belowE Try.f108 ds = some res := fun ds κ r hw h => by
  unfold belowC at h
  split at h
  case h_2 => cases h
  rename_i f b n
  replace h := cond_none h
  obtain ⟨hc, h⟩ := h
  rw [below_ev, hc, cond_true, val_words, cmpI_neg]
  exact ⟨_, h, rfl⟩
theorem below_fn : FnOK Try.prog 108 belowC := fnOK_mk T mixed Try.func108 (by kernel_rfl) (fns := [(117, rPowC), (22, cmpC)]) (lps := []) (live := []) (out := []) (fuel := 0) (give := (fun _ => false)) ⟨rPow_fn, cmp_fn, trivial⟩ trivial below_he
def rNaNE : Env := mkE ty [(54, rOfC), (108, belowC)] [] [] [] 0 (fun _ => false)
theorem rNaN_ev (n c : Int) (s q : Bool) (x w0 w1 w2 w3 : Int) : evFn rNaNE Try.f96 [.p (.int .i64 n), .g [.int .i64 c, .bool s, .bool q, .int .i64 x, .int .u64 w0, .int .u64 w1, .int .u64 w2, .int .u64 w3]] =
    (cond (q)
     (cond (decide ((1 : Int) ≤ n ∧ n ≤ (12 : Int)))
      (cond (decide ((0 : Int) ≤ baseI n ∧ baseI n ≤ (1000 : Int) ∧ (0 : Int) ≤ payI n ∧ payI n ≤ (100000 : Int)))
       (cond (!decide (val [w0, w1, w2, w3] < (baseI n).toNat ^ (payI n).toNat))
        (some [(.mine, .g [(.int .i64 (c)), (.bool (s)), (.bool (false)), (.int .i64 (x)), (.int .u64 (0)), (.int .u64 (0)), (.int .u64 (0)), (.int .u64 (0))]), (.mine, .p (.int .i64 (1)))])
        (some [(.mine, .g [(.int .i64 (c)), (.bool (s)), (.bool (false)), (.int .i64 (x)), (.int .u64 (w0)), (.int .u64 (w1)), (.int .u64 (w2)), (.int .u64 (w3))]), (.mine, .p (.int .i64 (1)))]))
       none)
      (cond (!decide (val [w0, w1, w2, w3] < 1))
       (some [(.mine, .g [(.int .i64 (c)), (.bool (s)), (.bool (false)), (.int .i64 (x)), (.int .u64 (0)), (.int .u64 (0)), (.int .u64 (0)), (.int .u64 (0))]), (.mine, .p (.int .i64 (1)))])
       (some [(.mine, .g [(.int .i64 (c)), (.bool (s)), (.bool (false)), (.int .i64 (x)), (.int .u64 (w0)), (.int .u64 (w1)), (.int .u64 (w2)), (.int .u64 (w3))]), (.mine, .p (.int .i64 (1)))])))
     (cond (decide ((1 : Int) ≤ n ∧ n ≤ (12 : Int)))
      (cond (decide ((0 : Int) ≤ baseI n ∧ baseI n ≤ (1000 : Int) ∧ (0 : Int) ≤ payI n ∧ payI n ≤ (100000 : Int)))
       (cond (!decide (val [w0, w1, w2, w3] < (baseI n).toNat ^ (payI n).toNat))
        (some [(.mine, .g [(.int .i64 (c)), (.bool (s)), (.bool (false)), (.int .i64 (x)), (.int .u64 (0)), (.int .u64 (0)), (.int .u64 (0)), (.int .u64 (0))]), (.mine, .p (.int .i64 (0)))])
        (some [(.mine, .g [(.int .i64 (c)), (.bool (s)), (.bool (false)), (.int .i64 (x)), (.int .u64 (w0)), (.int .u64 (w1)), (.int .u64 (w2)), (.int .u64 (w3))]), (.mine, .p (.int .i64 (0)))]))
       none)
      (cond (!decide (val [w0, w1, w2, w3] < 1))
       (some [(.mine, .g [(.int .i64 (c)), (.bool (s)), (.bool (false)), (.int .i64 (x)), (.int .u64 (0)), (.int .u64 (0)), (.int .u64 (0)), (.int .u64 (0))]), (.mine, .p (.int .i64 (0)))])
       (some [(.mine, .g [(.int .i64 (c)), (.bool (s)), (.bool (false)), (.int .i64 (x)), (.int .u64 (w0)), (.int .u64 (w1)), (.int .u64 (w2)), (.int .u64 (w3))]), (.mine, .p (.int .i64 (0)))])))) := by kernel_rfl
abbrev rNaNC := stillC
theorem rNaN_he : ∀ ds κ r, (∀ d ∈ ds, d.wf) → rNaNC ds κ = some r → ∃ res, κ res = some r ∧ evFn rNaNE Try.f96 ds = some res := fun ds κ r hw h => by
  unfold rNaNC stillC at h
  split at h
  case h_2 => cases h
  rename_i n c s q x w0 w1 w2 w3
  replace h := cond_none h
  obtain ⟨hc, h⟩ := h
  have h6 := of_decide_eq_true hc
  obtain ⟨f1, f2, f3, f4, f5, f6, f7, f8, f9, f10, f11, f12⟩ := fmt h6
  rw [rNaN_ev, decide_eq_true (by omega), cond_true, f1, decide_eq_true (by omega), cond_true, show (2 : Int).toNat = 2 from rfl]
  unfold stillT at h
  cases hd : decide (val [w0, w1, w2, w3] < 2 ^ (payI n).toNat) <;> rw [hd] at h <;> cases q <;> exact ⟨_, h, rfl⟩
theorem rNaN_fn : FnOK Try.prog 96 rNaNC := fnOK_mk T mixed Try.func96 (by kernel_rfl) (fns := [(54, rOfC), (108, belowC)]) (lps := []) (live := []) (out := []) (fuel := 0) (give := (fun _ => false)) ⟨rOf_fn, below_fn, trivial⟩ trivial rNaN_he

/-! ### binconv.Special, Convert -/
def datOK (m c : Int) (q : Bool) (x : Int) (F : Nat) : Prop := (c = 1 ∧ q = false) ∨ (c = 2 ∧ q = false ∧ F = 0 ∧ x = 0) ∨ (c = 3 ∧ x = 0)
instance (m c : Int) (q : Bool) (x : Int) (F : Nat) : Decidable (datOK m c q x F) := by unfold datOK; infer_instance
def spT (n c : Int) (s q : Bool) (x : Int) (F : Nat) (κ : List (Own × D) → R) : R :=
  cond (c == 1 && !decide (F = 0)) (κ [(.mine, .r .u64 4 (wordsN 4 0)), (.mine, .p (.int .i64 0)), (.mine, .p (.bool false))])
    (κ [(.mine, .r .u64 4 (wordsN 4 (cvN n 0 c s q x F).1)), (.mine, .p (.int .i64 (cvN n 0 c s q x F).2)), (.mine, .p (.bool true))])
def specialC : FnC := fun ds κ => match ds with
  | [.p (.int .i64 n), .g [.int .i64 c, .bool s, .bool q, .int .i64 x, .int .u64 w0, .int .u64 w1, .int .u64 w2, .int .u64 w3]] => cond (decide ((1 ≤ n ∧ n ≤ 6) ∧ datOK n c q x (val [w0, w1, w2, w3]))) (spT n c s q x (val [w0, w1, w2, w3]) κ) none
  | _ => none
def specialE : Env := mkE ty [(95, stillC), (70, dOfC), (37, bPackC)] [] [] [] 0 (fun _ => false)
theorem special_ev (n c : Int) (s q : Bool) (x w0 w1 w2 w3 : Int) : evFn specialE Try.f65 [.p (.int .i64 n), .g [.int .i64 c, .bool s, .bool q, .int .i64 x, .int .u64 w0, .int .u64 w1, .int .u64 w2, .int .u64 w3]] =
    (cond (c == (3 : Int))
     (cond (decide ((1 : Int) ≤ n ∧ n ≤ (6 : Int)))
      (cond (decide (val [w0, w1, w2, w3] < 2 ^ (payI n).toNat))
       (cond (decide ((1 : Int) ≤ n ∧ n ≤ (6 : Int)))
        (cond (isN n c false x (val [w0, w1, w2, w3]))
         (some [(.mine, .r .u64 4 (wordsN 4 (packN (mN n) (eN n) (eminI n) c s false x (val [w0, w1, w2, w3])))), (.mine, .p (.int .i64 (cond q 1 0))), (.mine, .p (.bool (true)))])
         (some [(.mine, .r .u64 4 (wordsN 4 0)), (.mine, .p (.int .i64 (cond q 1 0))), (.mine, .p (.bool (true)))]))
        (some [(.mine, .r .u64 4 (wordsN 4 0)), (.mine, .p (.int .i64 (cond q 1 0))), (.mine, .p (.bool (true)))]))
       (cond (decide ((1 : Int) ≤ n ∧ n ≤ (6 : Int)))
        (cond (isN n c false x 0)
         (some [(.mine, .r .u64 4 (wordsN 4 (packN (mN n) (eN n) (eminI n) c s false x 0))), (.mine, .p (.int .i64 (cond q 1 0))), (.mine, .p (.bool (true)))])
         (some [(.mine, .r .u64 4 (wordsN 4 0)), (.mine, .p (.int .i64 (cond q 1 0))), (.mine, .p (.bool (true)))]))
        (some [(.mine, .r .u64 4 (wordsN 4 0)), (.mine, .p (.int .i64 (cond q 1 0))), (.mine, .p (.bool (true)))])))
      none)
     (cond (c == (1 : Int))
      (cond (!decide ([w0, w1, w2, w3] = List.replicate 4 (0 : Int)))
       (some [(.mine, .r .u64 4 (List.replicate 4 (0 : Int))), (.mine, .p (.int .i64 (0))), (.mine, .p (.bool (false)))])
       (cond (c == (1 : Int))
        (cond (decide ((1 : Int) ≤ n ∧ n ≤ (12 : Int)))
         (cond (decide ((1 : Int) ≤ n ∧ n ≤ (6 : Int)))
          (cond (isN n c q (eminI n) (val [w0, w1, w2, w3]))
           (some [(.mine, .r .u64 4 (wordsN 4 (packN (mN n) (eN n) (eminI n) c s q (eminI n) (val [w0, w1, w2, w3])))), (.mine, .p (.int .i64 (0))), (.mine, .p (.bool (true)))])
           (some [(.mine, .r .u64 4 (wordsN 4 0)), (.mine, .p (.int .i64 (0))), (.mine, .p (.bool (true)))]))
          (some [(.mine, .r .u64 4 (wordsN 4 0)), (.mine, .p (.int .i64 (0))), (.mine, .p (.bool (true)))]))
         (cond (decide ((1 : Int) ≤ n ∧ n ≤ (6 : Int)))
          (cond (isN n c q (0 : Int) (val [w0, w1, w2, w3]))
           (some [(.mine, .r .u64 4 (wordsN 4 (packN (mN n) (eN n) (eminI n) c s q (0 : Int) (val [w0, w1, w2, w3])))), (.mine, .p (.int .i64 (0))), (.mine, .p (.bool (true)))])
           (some [(.mine, .r .u64 4 (wordsN 4 0)), (.mine, .p (.int .i64 (0))), (.mine, .p (.bool (true)))]))
          (some [(.mine, .r .u64 4 (wordsN 4 0)), (.mine, .p (.int .i64 (0))), (.mine, .p (.bool (true)))])))
        (cond (decide ((1 : Int) ≤ n ∧ n ≤ (6 : Int)))
         (cond (isN n c q x (val [w0, w1, w2, w3]))
          (some [(.mine, .r .u64 4 (wordsN 4 (packN (mN n) (eN n) (eminI n) c s q x (val [w0, w1, w2, w3])))), (.mine, .p (.int .i64 (0))), (.mine, .p (.bool (true)))])
          (some [(.mine, .r .u64 4 (wordsN 4 0)), (.mine, .p (.int .i64 (0))), (.mine, .p (.bool (true)))]))
         (some [(.mine, .r .u64 4 (wordsN 4 0)), (.mine, .p (.int .i64 (0))), (.mine, .p (.bool (true)))]))))
      (cond (c == (1 : Int))
       (cond (decide ((1 : Int) ≤ n ∧ n ≤ (12 : Int)))
        (cond (decide ((1 : Int) ≤ n ∧ n ≤ (6 : Int)))
         (cond (isN n c q (eminI n) (val [w0, w1, w2, w3]))
          (some [(.mine, .r .u64 4 (wordsN 4 (packN (mN n) (eN n) (eminI n) c s q (eminI n) (val [w0, w1, w2, w3])))), (.mine, .p (.int .i64 (0))), (.mine, .p (.bool (true)))])
          (some [(.mine, .r .u64 4 (wordsN 4 0)), (.mine, .p (.int .i64 (0))), (.mine, .p (.bool (true)))]))
         (some [(.mine, .r .u64 4 (wordsN 4 0)), (.mine, .p (.int .i64 (0))), (.mine, .p (.bool (true)))]))
        (cond (decide ((1 : Int) ≤ n ∧ n ≤ (6 : Int)))
         (cond (isN n c q (0 : Int) (val [w0, w1, w2, w3]))
          (some [(.mine, .r .u64 4 (wordsN 4 (packN (mN n) (eN n) (eminI n) c s q (0 : Int) (val [w0, w1, w2, w3])))), (.mine, .p (.int .i64 (0))), (.mine, .p (.bool (true)))])
          (some [(.mine, .r .u64 4 (wordsN 4 0)), (.mine, .p (.int .i64 (0))), (.mine, .p (.bool (true)))]))
         (some [(.mine, .r .u64 4 (wordsN 4 0)), (.mine, .p (.int .i64 (0))), (.mine, .p (.bool (true)))])))
       (cond (decide ((1 : Int) ≤ n ∧ n ≤ (6 : Int)))
        (cond (isN n c q x (val [w0, w1, w2, w3]))
         (some [(.mine, .r .u64 4 (wordsN 4 (packN (mN n) (eN n) (eminI n) c s q x (val [w0, w1, w2, w3])))), (.mine, .p (.int .i64 (0))), (.mine, .p (.bool (true)))])
         (some [(.mine, .r .u64 4 (wordsN 4 0)), (.mine, .p (.int .i64 (0))), (.mine, .p (.bool (true)))]))
        (some [(.mine, .r .u64 4 (wordsN 4 0)), (.mine, .p (.int .i64 (0))), (.mine, .p (.bool (true)))]))))) := by kernel_rfl
theorem four_wf {w0 w1 w2 w3 : Int} {v0 v1 v2 v3 : Value} (h : wfL [v0, v1, v2, v3, .int .u64 w0, .int .u64 w1, .int .u64 w2, .int .u64 w3]) : inR .u64 [w0, w1, w2, w3] := by
  intro y hy
  simp only [List.mem_cons, List.not_mem_nil, or_false] at hy
  rcases hy with rfl | rfl | rfl | rfl <;> exact (by simpa [wfB, IntKind.u64] using h (.int .u64 _) (by simp))
theorem zero_iff4 {f : List Int} (h : inR .u64 f) (hl : f.length = 4) : f = List.replicate 4 (0 : Int) ↔ val f = 0 := by
  constructor
  · rintro rfl
    exact val_zeros 4
  · intro e
    exact (wordsN_eq h hl e).trans rfl
theorem bitlen0 : bitlen 0 = 0 := bitlen_zero.2 rfl
theorem is_zero {n : Int} (h6 : 1 ≤ n ∧ n ≤ 6) : isN n 1 false (eminI n) 0 = true := by
  have f13 := emin_le h6
  have f14 := emax_le h6
  exact (isN_iff h6).2 (.inl ⟨rfl, rfl, by omega, by omega, .inr ⟨by rw [bitlen0]; omega, rfl⟩⟩)
theorem is_inf {n : Int} (h6 : 1 ≤ n ∧ n ≤ 6) : isN n 2 false 0 0 = true := (isN_iff h6).2 (.inr (.inl ⟨rfl, rfl, rfl, rfl⟩))
theorem is_nan {n : Int} (h6 : 1 ≤ n ∧ n ≤ 6) (F : Nat) : isN n 3 false 0 (payF n F) = true := (isN_iff h6).2 (.inr (.inr ⟨rfl, rfl, payF_le h6 F, .inr rfl⟩))
theorem special_he : ∀ ds κ r, (∀ d ∈ ds, d.wf) → specialC ds κ = some r → ∃ res, κ res = some r ∧ evFn specialE Try.f65 ds = some res := fun ds κ r hw h => by
  unfold specialC at h
  split at h
  case h_2 => cases h
  rename_i n c s q x w0 w1 w2 w3
  replace h := cond_none h
  obtain ⟨hc, h⟩ := h
  obtain ⟨h6, hd⟩ := of_decide_eq_true hc
  obtain ⟨f1, f2, f3, f4, f5, f6, f7, f8, f9, f10, f11, f12⟩ := fmt h6
  have hx : inR .u64 [w0, w1, w2, w3] := four_wf (hw (.g [.int .i64 c, .bool s, .bool q, .int .i64 x, .int .u64 w0, .int .u64 w1, .int .u64 w2, .int .u64 w3]) (by simp))
  have hz := zero_iff4 hx rfl
  rw [special_ev]
  unfold spT cvN at h
  generalize [w0, w1, w2, w3] = f at *
  rcases hd with ⟨rfl, rfl⟩ | ⟨rfl, rfl, hF, rfl⟩ | ⟨rfl, rfl⟩
  · rw [show ((1 : Int) == 3) = false from rfl, cond_false, show ((1 : Int) == 1) = true from rfl, cond_true, decide_eq_decide.2 hz, cond_true, decide_eq_true (show 1 ≤ n ∧ n ≤ 12 by omega), cond_true, decide_eq_true h6, cond_true]
    rw [show ((1 : Int) == 1) = true from rfl, Bool.true_and, show ((1 : Int) == 2) = false from rfl, cond_false, show ((1 : Int) == 3) = false from rfl, cond_false] at h
    by_cases h0 : val f = 0
    · rw [decide_eq_true h0, Bool.not_true, cond_false, h0] at h
      rw [decide_eq_true h0, Bool.not_true, cond_false, h0, is_zero h6, cond_true]
      have e : rnd n 0 s 0 1 x = (pkN n s (eminI n) 0, 0) := if_pos rfl
      rw [e] at h
      exact ⟨_, h, rfl⟩
    · rw [decide_eq_false h0, Bool.not_false, cond_true] at h
      rw [decide_eq_false h0, Bool.not_false, cond_true]
      exact ⟨_, h, rfl⟩
  · rw [show ((2 : Int) == 3) = false from rfl, cond_false, show ((2 : Int) == 1) = false from rfl, cond_false, cond_false, decide_eq_true h6, cond_true, hF, is_inf h6, cond_true]
    rw [show ((2 : Int) == 1) = false from rfl, Bool.false_and, cond_false, show ((2 : Int) == 2) = true from rfl, cond_true] at h
    exact ⟨_, h, rfl⟩
  · rw [show ((3 : Int) == 3) = true from rfl, cond_true, decide_eq_true h6, cond_true, cond_true]
    rw [show ((3 : Int) == 1) = false from rfl, Bool.false_and, cond_false, show ((3 : Int) == 2) = false from rfl, cond_false, show ((3 : Int) == 3) = true from rfl, cond_true] at h
    have hn := is_nan h6 (val f)
    unfold payF at h hn
    cases hd : decide (val f < 2 ^ (payI n).toNat) <;> rw [hd] at h hn
    · rw [cond_false] at h hn
      rw [cond_false, hn, cond_true]
      exact ⟨_, h, rfl⟩
    · rw [cond_true] at h hn
      rw [cond_true, hn, cond_true]
      exact ⟨_, h, rfl⟩
theorem special_fn : FnOK Try.prog 65 specialC := fnOK_mk T mixed Try.func65 (by kernel_rfl) (fns := [(95, stillC), (70, dOfC), (37, bPackC)]) (lps := []) (live := []) (out := []) (fuel := 0) (give := (fun _ => false)) ⟨still_fn, dOf_fn, bPack_fn, trivial⟩ trivial special_he
end
end Go.Proofs.Ytdpcokahhleopaa.Vm
