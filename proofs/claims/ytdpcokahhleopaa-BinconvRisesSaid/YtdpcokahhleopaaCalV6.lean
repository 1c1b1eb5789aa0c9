/-
  Into a format that holds the first one, plain. No statement is proved here.
-/
import Derived.Test.YtdpcokahhleopaaCalV4
namespace Go.Proofs.Ytdpcokahhleopaa.Vm
open Go Go.Vm
noncomputable section
set_option linter.unusedVariables false
theorem rnd_zero (n d : Int) (s : Bool) (B : Nat) (e : Int) : rnd n d s 0 B e = (pkN n s (eminI n) 0, 0) := if_pos rfl
theorem bitlen_mul_pow {F : Nat} (h : F ≠ 0) (k : Nat) : bitlen (F * 2 ^ k) = bitlen F + k := by
  have h1 := bitlen_shift (F * 2 ^ k) k
  rw [Nat.mul_div_cancel _ (Nat.two_pow_pos k)] at h1
  have : bitlen F ≠ 0 := fun e => h (bitlen_zero.1 e)
  omega
/-- What a datum of a format becomes in a format that holds it: the same number, and from there it goes on as from the first. -/
theorem cv_widen {m n c x : Int} {q : Bool} {F : Nat} (hm : 1 ≤ m ∧ m ≤ 6) (hn : 1 ≤ n ∧ n ≤ 6) (h1 : mN m ≤ mN n) (h2 : eminI n ≤ eminI m) (h3 : emaxI m + (mN m : Int) ≤ emaxI n + (mN n : Int)) (hi : isN m c q x F = true) (s : Bool) :
    ∃ x' F', isN n c false x' F' = true ∧ (∀ d, cvN n d c s q x F = (packN (mN n) (eN n) (eminI n) c s false x' F', cond q 1 0)) ∧ (∀ p d, 1 ≤ p ∧ p ≤ 6 → cvN p d c s false x' F' = cvN p d c s false x F) := by
  rcases (isN_iff hm).1 hi with ⟨rfl, rfl, a1, a2, a3⟩ | ⟨rfl, rfl, rfl, rfl⟩ | ⟨rfl, rfl, a1, a2⟩
  · by_cases hF : F = 0
    · subst hF
      exact ⟨eminI n, 0, is_zero hn, fun d => by rw [cvN_one, rnd_zero]; rfl, fun p d _ => by rw [cvN_one, cvN_one, rnd_zero, rnd_zero]⟩
    · have hb : bitlen F ≤ mN m + 1 := by omega
      have hb0 : bitlen F ≠ 0 := fun e => hF (bitlen_zero.1 e)
      obtain ⟨k, hk⟩ : ∃ k : Nat, (k : Int) = min ((mN n : Int) + 1 - (bitlen F : Int)) (x - eminI n) := ⟨(min ((mN n : Int) + 1 - (bitlen F : Int)) (x - eminI n)).toNat, by omega⟩
      have f14 := emax_le hn
      have f13 := emin_le hn
      have hl : bitlen (F * 2 ^ k) = bitlen F + k := bitlen_mul_pow hF k
      have mv : ∀ p d, rnd p d s (F * 2 ^ k) 1 (x - (k : Int)) = rnd p d s F 1 x := fun p d => by
        have := rnd_move (n := p) (d := d) (e := x - (k : Int)) (s := s) (A := F) (B := 1) (by omega) (by decide) (k : Int)
        rw [show upP 2 (k : Int) = 2 ^ k by unfold upP; rw [Int.toNat_natCast], show dnP 2 (k : Int) = 1 by unfold dnP; rw [show (-(k : Int)).toNat = 0 by omega, Nat.pow_zero], Nat.mul_one, show x - (k : Int) + (k : Int) = x by omega] at this
        exact this
      have hi' : isN n 1 false (x - (k : Int)) (F * 2 ^ k) = true := (isN_iff hn).2 (.inl ⟨rfl, rfl, by omega, by omega, by
        rw [hl]
        omega⟩)
      exact ⟨x - (k : Int), F * 2 ^ k, hi', fun d => by rw [cvN_one, ← mv n d]; exact rnd_keeps hn s hi' (by decide) (Nat.mul_one _).symm, fun p d _ => by rw [cvN_one, cvN_one, mv p d]⟩
  · exact ⟨0, 0, is_inf hn, fun d => rfl, fun p d _ => rfl⟩
  · have hp : payF n F = F := payF_is hn (by omega)
    refine ⟨0, F, hp ▸ is_nan hn F, fun d => ?_, fun p d _ => rfl⟩
    show (packN (mN n) (eN n) (eminI n) 3 s false 0 (payF n F), cond q 1 0) = _
    rw [hp]
end
end Go.Proofs.Ytdpcokahhleopaa.Vm
