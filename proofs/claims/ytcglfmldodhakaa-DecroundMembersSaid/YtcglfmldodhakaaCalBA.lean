/-
  Interchange formats: what the laws of package law05 share. No statement is proved here.
-/
import Derived.Test.YtcglfmldodhakaaCalB4
namespace Go.Proofs.Ytcglfmldodhakaa.Vm
open Go Go.Vm
noncomputable section

def eqD (xs ys : List Value) : Bool := (eqCells xs ys).getD false
theorem eqD_refl (c x : Int) (s q : Bool) (f : List Int) : eqD (datumCells c s q x f) (datumCells c s q x f) = true := by
  simp [eqD, eqCells, datumCells]
theorem lo4 {a : Nat} (h : a < 2 ^ 256) : val (wordsN 4 a) = a := by rw [val4, Nat.mod_eq_of_lt h]
theorem words_val4 {b : List Int} (hb : inR .u64 b) (hl : b.length = 4) : wordsN 4 (val b) = b := by rw [← hl, wordsN_val hb]
theorem uF_lt {m e B : Nat} (hm : m + 1 ≤ 256) : uF m e B < 2 ^ 256 := by
  have p1 : uT m B < 2 ^ m := Nat.mod_lt _ (Nat.two_pow_pos _)
  refine lt256 (k := m + 1) ?_ hm
  rw [Nat.pow_succ]
  unfold uF
  cases uN m e B
  · rw [cond_false]
    have := Nat.mod_le (uT m B) (2 ^ (m - 1))
    omega
  · rw [cond_true]
    cases decide (0 < uX m e B)
    · rw [cond_false]; omega
    · rw [cond_true]; omega
end
end Go.Proofs.Ytcglfmldodhakaa.Vm
