/-
  Conversions between formats, plain. No statement is proved here.
-/
import Derived.Test.YtdpcokahhleopaaCalQF
import Derived.Test.YtdpcokahhleopaaCalBQ
namespace Go.Proofs.Ytdpcokahhleopaa.Vm
open Go Go.Vm
noncomputable section
set_option linter.unusedVariables false
def payF (n : Int) (F : Nat) : Nat := cond (decide (F < 2 ^ (payI n).toNat)) F 0
/-- What a datum becomes in a format: its pattern, and its flags. -/
def cvN (n d c : Int) (s q : Bool) (x : Int) (F : Nat) : Nat × Int :=
  cond (c == 2) (infN n s, 0) (cond (c == 3) (packN (mN n) (eN n) (eminI n) 3 s false 0 (payF n F), cond q 1 0) (rnd n d s F 1 x))
theorem emin20 {n : Int} (h : 1 ≤ n ∧ n ≤ 6) : -20000 ≤ eminI n ∧ emaxI n ≤ 20000 := by
  rcases (by omega : n = 1 ∨ n = 2 ∨ n = 3 ∨ n = 4 ∨ n = 5 ∨ n = 6) with rfl | rfl | rfl | rfl | rfl | rfl <;> decide
theorem payF_is {n : Int} (h6 : 1 ≤ n ∧ n ≤ 6) {F : Nat} (h : bitlen F ≤ mN n - 1) : payF n F = F := by
  obtain ⟨f1, f2, f3, f4, f5, f6, f7, f8, f9, f10, f11, f12⟩ := fmt h6
  unfold payF
  rw [decide_eq_true (by rw [← bitlen_le_iff]; omega), cond_true]
theorem payF_le {n : Int} (h6 : 1 ≤ n ∧ n ≤ 6) (F : Nat) : bitlen (payF n F) ≤ mN n - 1 := by
  obtain ⟨f1, f2, f3, f4, f5, f6, f7, f8, f9, f10, f11, f12⟩ := fmt h6
  unfold payF
  by_cases h : F < 2 ^ (payI n).toNat
  · rw [decide_eq_true h, cond_true]
    rw [← bitlen_le_iff] at h
    omega
  · rw [decide_eq_false h, cond_false, bitlen_zero.2 rfl]
    omega
theorem cv_self {n d : Int} (h6 : 1 ≤ n ∧ n ≤ 6) {B : Nat} (hB : B < 2 ^ (mN n + eN n + 1)) :
    cvN n d (uC (mN n) (eN n) B) (uS (mN n) (eN n) B) (uQ (mN n) (eN n) B) (uE (mN n) (eN n) (eminI n) B) (uF (mN n) (eN n) B) = (quietN n B, cond (uQ (mN n) (eN n) B) 1 0) := by
  have hq := quiet_is h6 B
  have h3 := uQ_of (mN n) (eN n) B
  unfold cvN quietN
  generalize uC (mN n) (eN n) B = c at *
  generalize uS (mN n) (eN n) B = s at *
  generalize uQ (mN n) (eN n) B = q at *
  generalize uE (mN n) (eN n) (eminI n) B = x at *
  generalize uF (mN n) (eN n) B = F at *
  rcases (isN_iff h6).1 hq with ⟨rfl, _, b⟩ | ⟨rfl, _, rfl, rfl⟩ | ⟨rfl, rfl, b, _⟩
  · rw [h3 (by decide)]
    exact rnd_keeps h6 s hq (by decide) (Nat.mul_one F).symm
  · rw [h3 (by decide)]
    rfl
  · rw [payF_is h6 b]
    rfl
end
end Go.Proofs.Ytdpcokahhleopaa.Vm
