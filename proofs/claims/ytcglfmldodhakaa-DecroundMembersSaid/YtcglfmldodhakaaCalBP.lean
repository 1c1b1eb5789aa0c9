/-
  The law BinaryPacks, evaluated. No statement is proved here.
-/
import Derived.Test.YtcglfmldodhakaaCalC3
import Derived.Test.YtcglfmldodhakaaCalB5
namespace Go.Proofs.Ytcglfmldodhakaa.Vm
open Go Go.Vm
noncomputable section
set_option linter.unusedVariables false
def topN (n : Int) : Nat := 2 ^ (precI n).toNat - 1
def largeT (n : Int) (s : Bool) (F : Nat) (κ : List (Own × D) → R) : R :=
  cond (isN n 1 false (emaxI n) F) (κ [(.mine, .r .u64 4 (wordsN 4 (packN (mN n) (eN n) (eminI n) 1 s false (emaxI n) F))), (.mine, .p (.int .i64 0))]) (κ [(.mine, .r .u64 4 (wordsN 4 0)), (.mine, .p (.int .i64 3))])
def largeC : FnC := fun ds κ => match ds with
  | [.p (.int .i64 n), .p (.bool s)] => cond (decide (1 ≤ n ∧ n ≤ 6)) (largeT n s (topN n) κ) (κ [(.mine, .r .u64 4 (wordsN 4 0)), (.mine, .p (.int .i64 1))])
  | _ => none
abbrev bLargestC := largeC
abbrev rLargestC := largeC
theorem largeT_some {n : Int} {s : Bool} {F : Nat} {κ : List (Own × D) → R} {r : List (Own × D)} (h : largeT n s F κ = some r) : ∃ res, κ res = some r ∧ largeT n s F some = some res := by
  unfold largeT at h ⊢
  cases hi : isN n 1 false (emaxI n) F <;> rw [hi] at h <;> exact ⟨_, h, rfl⟩
theorem topN_lt {n : Int} (h : 1 ≤ n ∧ n ≤ 6) : topN n < 2 ^ 256 := by
  obtain ⟨f1, f2, f3, f4, f5, f6, f7, f8, f9, f10, f11, f12⟩ := fmt h
  have h1 : 2 ^ (precI n).toNat ≤ 2 ^ 256 := Nat.pow_le_pow_right (by decide) (by omega)
  have h2 : 0 < 2 ^ (precI n).toNat := Nat.two_pow_pos _
  unfold topN
  omega
end
end Go.Proofs.Ytcglfmldodhakaa.Vm
