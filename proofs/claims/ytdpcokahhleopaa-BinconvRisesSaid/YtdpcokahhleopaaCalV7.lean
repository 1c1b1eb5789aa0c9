/-
  ref04.Holds, evaluated. No statement is proved here.
-/
import Derived.Test.YtdpcokahhleopaaCalV6
namespace Go.Proofs.Ytdpcokahhleopaa.Vm
open Go Go.Vm
noncomputable section
set_option linter.unusedVariables false
def holdsE : Env := mkE ty [(54, rOfC)] [] [] [] 0 (fun _ => false)
theorem holds_ev (m n : Int) : evFn holdsE Try.f35 [.p (.int .i64 m), .p (.int .i64 n)] =
    (cond (decide ((1 : Int) ≤ m ∧ m ≤ (12 : Int)))
     (cond (decide ((1 : Int) ≤ n ∧ n ≤ (12 : Int)))
      (cond (baseI m == baseI n)
       (cond (decide (precI m ≤ precI n))
        (cond (decide (eminI m ≥ eminI n))
         (some [(.mine, .p (.bool (decide (IntKind.i64.wrap (emaxI m + precI m) ≤ IntKind.i64.wrap (emaxI n + precI n)))))])
         (some [(.mine, .p (.bool (false)))]))
        (some [(.mine, .p (.bool (false)))]))
       (some [(.mine, .p (.bool (false)))]))
      (some [(.mine, .p (.bool (false)))]))
     (cond (decide ((1 : Int) ≤ n ∧ n ≤ (12 : Int)))
      (some [(.mine, .p (.bool (false)))])
      (some [(.mine, .p (.bool (false)))]))) := by kernel_rfl
def holdB (m n : Int) : Bool := decide ((1 ≤ n ∧ n ≤ 6) ∧ mN m ≤ mN n ∧ eminI n ≤ eminI m ∧ emaxI m + (mN m : Int) ≤ emaxI n + (mN n : Int))
def holdsC : FnC := fun ds κ => match ds with
  | [.p (.int .i64 m), .p (.int .i64 n)] => cond (decide (1 ≤ m ∧ m ≤ 6)) (κ [(.mine, .p (.bool (holdB m n)))]) none
  | _ => none
theorem holds_is {m n : Int} (hm : 1 ≤ m ∧ m ≤ 6) : evFn holdsE Try.f35 [.p (.int .i64 m), .p (.int .i64 n)] = some [(.mine, .p (.bool (holdB m n)))] := by
  have g := fmt hm
  rw [holds_ev, decide_eq_true (show 1 ≤ m ∧ m ≤ 12 by omega), cond_true, g.1]
  unfold holdB
  by_cases hn : 1 ≤ n ∧ n ≤ 6
  · have g' := fmt hn
    have a1 := emax_le hm
    have a2 := emax_le hn
    rw [decide_eq_true (show 1 ≤ n ∧ n ≤ 12 by omega), cond_true, g'.1, show ((2 : Int) == 2) = true from rfl, cond_true, i64_wrap (by omega) (by omega), i64_wrap (by omega) (by omega), g.2.1, g'.2.1]
    by_cases h1 : (mN m : Int) + 1 ≤ (mN n : Int) + 1
    · rw [decide_eq_true h1, cond_true]
      by_cases h2 : eminI m ≥ eminI n
      · rw [decide_eq_true h2, cond_true, decide_eq_decide.2 (show emaxI m + ((mN m : Int) + 1) ≤ emaxI n + ((mN n : Int) + 1) ↔ (1 ≤ n ∧ n ≤ 6) ∧ mN m ≤ mN n ∧ eminI n ≤ eminI m ∧ emaxI m + (mN m : Int) ≤ emaxI n + (mN n : Int) by omega)]
      · rw [decide_eq_false h2, cond_false, decide_eq_false (by omega)]
    · rw [decide_eq_false h1, cond_false, decide_eq_false (by omega)]
  · rw [decide_eq_false (show ¬ ((1 ≤ n ∧ n ≤ 6) ∧ mN m ≤ mN n ∧ eminI n ≤ eminI m ∧ emaxI m + (mN m : Int) ≤ emaxI n + (mN n : Int)) from fun q => hn q.1)]
    by_cases h12 : 1 ≤ n ∧ n ≤ 12
    · rw [decide_eq_true h12, cond_true, base10 h12 hn]
      rfl
    · rw [decide_eq_false h12, cond_false]
theorem holds_he : ∀ ds κ r, (∀ d ∈ ds, d.wf) → holdsC ds κ = some r → ∃ res, κ res = some r ∧ evFn holdsE Try.f35 ds = some res := fun ds κ r hw h => by
  unfold holdsC at h
  split at h
  case h_2 => cases h
  rename_i m n
  replace h := cond_none h
  obtain ⟨hc, h⟩ := h
  exact ⟨_, h, holds_is (of_decide_eq_true hc)⟩
theorem holds_fn : FnOK Try.prog 35 holdsC := fnOK_mk T mixed Try.func35 (by kernel_rfl) (fns := [(54, rOfC)]) (lps := []) (live := []) (out := []) (fuel := 0) (give := (fun _ => false)) ⟨rOf_fn, trivial⟩ trivial holds_he
end
end Go.Proofs.Ytdpcokahhleopaa.Vm
