/-
  The other sign, plain. No statement is proved here.
-/
import Derived.Test.YtdpcokahhleopaaCalV4
namespace Go.Proofs.Ytdpcokahhleopaa.Vm
open Go Go.Vm
noncomputable section
set_option linter.unusedVariables false
theorem turn_turn {d : Int} (h : 0 ≤ d ∧ d ≤ 4) : turnD (turnD d) = d := by
  rcases (by omega : d = 0 ∨ d = 1 ∨ d = 2 ∨ d = 3 ∨ d = 4) with rfl | rfl | rfl | rfl | rfl <;> rfl
theorem pack_signed (n c : Int) (s : Bool) (x : Int) (F : Nat) : packN (mN n) (eN n) (eminI n) c s false x F = signed n s (packN (mN n) (eN n) (eminI n) c false false x F) := rfl
/-- What a datum becomes has the same number for both signs, if the direction turns with the sign. -/
theorem cv_signed {n d c x : Int} {q : Bool} {F : Nat} (h6 : 1 ≤ n ∧ n ≤ 6) (hd : 0 ≤ d ∧ d ≤ 4) (hk : datOK n c q x F) :
    ∃ c' x' F', isN n c' false x' F' = true ∧ ∀ s, cvN n (cond s (turnD d) d) c s q x F = (packN (mN n) (eN n) (eminI n) c' s false x' F', (cvN n d c false q x F).2) := by
  rcases hk with ⟨rfl, rfl⟩ | ⟨rfl, rfl, rfl, rfl⟩ | ⟨rfl, rfl⟩
  · obtain ⟨c', x', F', h1, h2⟩ := rnd_datum (n := n) (d := d) (e := x) h6 false (A := F) (B := 1) (by decide)
    refine ⟨c', x', F', h1, fun s => ?_⟩
    rw [cvN_one, cvN_one]
    cases s
    · rw [cond_false, ← h2]
    · rw [cond_true, rnd_turn hd, h2]
      rfl
  · exact ⟨2, 0, 0, is_inf h6, fun s => rfl⟩
  · exact ⟨3, 0, payF n F, is_nan h6 F, fun s => rfl⟩
end
end Go.Proofs.Ytdpcokahhleopaa.Vm
