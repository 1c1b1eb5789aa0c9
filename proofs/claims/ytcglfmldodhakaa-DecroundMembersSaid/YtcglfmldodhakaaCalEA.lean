/-
  Rounding to numbers of base ten: what rises, what stays. Plain lemmas: no statement is proved here.
-/
import Derived.Test.YtcglfmldodhakaaCalE8
namespace Go.Proofs.Ytcglfmldodhakaa.Vm
open Go Go.Vm
noncomputable section
set_option linter.unusedVariables false
theorem flog_mono10 {A A' B : Nat} (hA : 0 < A) (hB : 0 < B) (h : A ≤ A') : flog 10 A B ≤ flog 10 A' B := by
  rcases Int.lt_or_le (flog 10 A' B) (flog 10 A B) with g | g
  · have h1 := (below_iff (β := 10) (by decide) (show 0 < A' by omega) hB (flog 10 A B)).2 g
    have h2 : A * dnP 10 (flog 10 A B) < B * upP 10 (flog 10 A B) := Nat.lt_of_le_of_lt (Nat.mul_le_mul_right _ h) h1
    have := (below_iff (β := 10) (by decide) hA hB (flog 10 A B)).1 h2
    omega
  · exact g
/-- What a number is, in units of the format's least one. -/
def numU (n q : Int) (c : Nat) : Nat := c * 10 ^ (q - eminI n).toNat
def ovU (n : Int) : Nat := 10 ^ pN n * 10 ^ (emaxI n - eminI n).toNat
theorem numU_le {n q q' : Int} {c c' : Nat} (h1 : eminI n ≤ q) (h2 : q < q') (h3 : c ≤ 10 ^ pN n) (h4 : 10 ^ (pN n - 1) ≤ c') (hp : 1 ≤ pN n) : numU n q c ≤ numU n q' c' := by
  unfold numU
  have e1 : (q' - eminI n).toNat = (q - eminI n).toNat + 1 + (q' - q - 1).toNat := by omega
  have a1 : c * 10 ^ (q - eminI n).toNat ≤ 10 ^ pN n * 10 ^ (q - eminI n).toNat := Nat.mul_le_mul_right _ h3
  have a2 : 10 ^ pN n * 10 ^ (q - eminI n).toNat = 10 ^ (pN n - 1) * 10 ^ ((q - eminI n).toNat + 1) := by
    rw [← Nat.pow_add, ← Nat.pow_add]
    congr 1
    omega
  have a3 : 10 ^ (pN n - 1) * 10 ^ ((q - eminI n).toNat + 1) ≤ 10 ^ (pN n - 1) * 10 ^ (q' - eminI n).toNat := Nat.mul_le_mul_left _ (Nat.pow_le_pow_right (by decide) (by omega))
  have a4 : 10 ^ (pN n - 1) * 10 ^ (q' - eminI n).toNat ≤ c' * 10 ^ (q' - eminI n).toNat := Nat.mul_le_mul_right _ h4
  omega
/-- One rounding, told in units. -/
theorem drn_num {n d e w : Int} (h7 : 7 ≤ n ∧ n ≤ 12) (hd : 0 ≤ d ∧ d ≤ 4) {A B : Nat} (hA : 0 < A) (hB : 0 < B) {q : Int} {c : Nat} (hq : q = qOf n (flog 10 A B + e)) (hc : c = rndF d false (A * upP 10 (e - q)) (B * dnP 10 (e - q))) :
    eminI n ≤ q ∧ c ≤ 10 ^ pN n ∧ (eminI n < q → 10 ^ (pN n - 1) ≤ c) ∧ (ovU n ≤ numU n q c → drn n d false A B e w = dOver n d false) ∧
      (numU n q c < ovU n → (drn n d false A B e w).1 = 1 ∧ numU n (drn n d false A B e w).2.1 (drn n d false A B e w).2.2.1 = numU n q c) := by
  obtain ⟨f1, f2, f3, f4, f5, f6, f7, f8, f9⟩ := fmt10 h7
  have hqe : eminI n ≤ q := by rw [hq]; exact dq_ge _ _
  have hlt := drn_c (e := e) h7 hA hB hq
  obtain ⟨b1, b2, b3⟩ := rnd_bounds d false (A * upP 10 (e - q)) (B * dnP 10 (e - q))
  have hcp : c ≤ 10 ^ pN n := by omega
  have hcl : eminI n < q → 10 ^ (pN n - 1) ≤ c := fun h => by
    have hq2 : q = flog 10 A B + e - precI n + 1 := by rw [hq] at h ⊢; unfold qOf at h ⊢; omega
    have := scaled_ge (β := 10) (by decide) hA hB (z := e - q) (m := pN n - 1) (by omega)
    omega
  refine ⟨hqe, hcp, hcl, ?_, ?_⟩
  · intro h
    by_cases g1 : q > emaxI n
    · unfold drn
      rw [if_neg (by omega), ← hq, dCar_over g1]
    · by_cases g2 : q < emaxI n
      · exfalso
        have := numU_le (n := n) (q := q) (q' := emaxI n) (c := c) (c' := 10 ^ (pN n - 1)) hqe g2 hcp (Nat.le_refl _) (by omega)
        unfold ovU at h
        have e2 : numU n (emaxI n) (10 ^ (pN n - 1)) < 10 ^ pN n * 10 ^ (emaxI n - eminI n).toNat := Nat.mul_lt_mul_of_pos_right (Nat.pow_lt_pow_right (by decide) (by omega)) (Nat.pow_pos (by decide))
        omega
      · have g3 : q = emaxI n := by omega
        have g4 : c ≥ 10 ^ pN n := by
          unfold numU ovU at h
          rw [g3] at h
          exact Nat.le_of_mul_le_mul_right h (Nat.pow_pos (by decide))
        unfold drn
        rw [if_neg (by omega), ← hq, ← hc]
        unfold dCar dfin
        rw [decide_eq_true g4, cond_true, decide_eq_true (by omega), cond_true]
        rfl
  · intro h
    have g1 : ¬ q > emaxI n := fun g => by
      have := numU_le (n := n) (q := emaxI n) (q' := q) (c := 10 ^ pN n) (c' := c) (by omega) g (Nat.le_refl _) (hcl (by omega)) (by omega)
      unfold ovU at h
      unfold numU at this h
      omega
    have g2 : ¬ (q = emaxI n ∧ c ≥ 10 ^ pN n) := fun ⟨g, g'⟩ => by
      unfold ovU numU at h
      rw [g] at h
      have := Nat.mul_le_mul_right (10 ^ (emaxI n - eminI n).toNat) g'
      omega
    unfold drn
    rw [if_neg (by omega), ← hq, ← hc]
    unfold dCar
    by_cases g3 : c ≥ 10 ^ pN n
    · have g4 : c = 10 ^ pN n := by omega
      have g5 : exF (A * upP 10 (e - q)) (B * dnP 10 (e - q)) = false := by
        cases hx : exF (A * upP 10 (e - q)) (B * dnP 10 (e - q))
        · rfl
        · have := b3 hx
          omega
      rw [decide_eq_true g3, cond_true, g5]
      unfold dfin
      rw [decide_eq_false (by omega), cond_false, cond_false]
      refine ⟨rfl, ?_⟩
      show 10 ^ (pN n - 1) * 10 ^ (q + 1 - eminI n).toNat = c * 10 ^ (q - eminI n).toNat
      rw [g4, ← Nat.pow_add, ← Nat.pow_add]
      congr 1
      omega
    · rw [decide_eq_false g3, cond_false]
      unfold dfin
      rw [decide_eq_false g1, cond_false]
      cases exF (A * upP 10 (e - q)) (B * dnP 10 (e - q))
      · exact ⟨rfl, rfl⟩
      · refine ⟨rfl, ?_⟩
        rw [cond_true]
        obtain ⟨m1, m2, m3, m4⟩ := memF_is (min w (emaxI n) - q).toNat c q (min w (emaxI n))
        show (memF _ c q _).1 * 10 ^ ((memF _ c q _).2 - eminI n).toNat = c * 10 ^ (q - eminI n).toNat
        rw [show ((memF (min w (emaxI n) - q).toNat c q (min w (emaxI n))).2 - eminI n).toNat = ((memF (min w (emaxI n) - q).toNat c q (min w (emaxI n))).2 - q).toNat + (q - eminI n).toNat by omega, Nat.pow_add, ← Nat.mul_assoc, m4]
/-- A greater fraction is never rounded to a less number. -/
theorem drn_rises {n d e w : Int} (h7 : 7 ≤ n ∧ n ≤ 12) (hd : 0 ≤ d ∧ d ≤ 4) {A A' B : Nat} (hB : 0 < B) (h : A ≤ A') :
    ((drn n d false A B e w).1 = 2 → (drn n d false A' B e w).1 = 2) ∧ ((drn n d false A B e w).1 = 1 → (drn n d false A' B e w).1 = 1 → numU n (drn n d false A B e w).2.1 (drn n d false A B e w).2.2.1 ≤ numU n (drn n d false A' B e w).2.1 (drn n d false A' B e w).2.2.1) := by
  obtain ⟨f1, f2, f3, f4, f5, f6, f7, f8, f9⟩ := fmt10 h7
  by_cases h0 : A = 0
  · subst h0
    have e0 : drn n d false 0 B e w = (1, min (max w (eminI n)) (emaxI n), 0, 0) := if_pos rfl
    rw [e0]
    refine ⟨fun h => absurd h (by show (1 : Int) ≠ 2; decide), fun _ _ => ?_⟩
    unfold numU
    rw [Nat.zero_mul]
    exact Nat.zero_le _
  have hA : 0 < A := Nat.pos_of_ne_zero h0
  have hA' : 0 < A' := by omega
  have hl := flog_mono10 hA hB h
  obtain ⟨q, hq⟩ : ∃ q, q = qOf n (flog 10 A B + e) := ⟨_, rfl⟩
  obtain ⟨q', hq'⟩ : ∃ q, q = qOf n (flog 10 A' B + e) := ⟨_, rfl⟩
  obtain ⟨c, hc⟩ : ∃ c, c = rndF d false (A * upP 10 (e - q)) (B * dnP 10 (e - q)) := ⟨_, rfl⟩
  obtain ⟨c', hc'⟩ : ∃ c, c = rndF d false (A' * upP 10 (e - q')) (B * dnP 10 (e - q')) := ⟨_, rfl⟩
  obtain ⟨a1, a2, a3, a4, a5⟩ := drn_num (w := w) h7 hd hA hB hq hc
  obtain ⟨b1, b2, b3, b4, b5⟩ := drn_num (w := w) h7 hd hA' hB hq' hc'
  have hqq : q ≤ q' := by rw [hq, hq']; unfold qOf; omega
  have hN : numU n q c ≤ numU n q' c' := by
    rcases Int.lt_or_le q q' with g | g
    · exact numU_le a1 g a2 (b3 (by omega)) (by omega)
    · have e1 : q = q' := by omega
      subst e1
      unfold numU
      refine Nat.mul_le_mul_right _ ?_
      rw [hc, hc']
      exact rndF_mono (Nat.mul_pos hB (dnP_pos (by decide) _)) (Nat.mul_le_mul_right _ h)
  rcases Nat.lt_or_ge (numU n q c) (ovU n) with g | g
  · obtain ⟨c1, c2⟩ := a5 g
    refine ⟨fun hh => absurd (c1.symm.trans hh) (by decide), fun _ h1 => ?_⟩
    rcases Nat.lt_or_ge (numU n q' c') (ovU n) with g' | g'
    · rw [c2, (b5 g').2]
      exact hN
    · have e1 := b4 g'
      have hi := drn_is (d := d) (e := e) (w := w) (s := false) (A := A) (B := B) h7
      rcases hi with ⟨_, i1, i2, i3⟩ | ⟨i1, _⟩
      · rw [e1] at h1 ⊢
        unfold dOver at h1 ⊢
        cases hf : farB d false <;> rw [hf] at h1
        · show numU n _ _ ≤ numU n (emaxI n) (10 ^ pN n - 1)
          unfold numU
          exact Nat.mul_le_mul (by omega) (Nat.pow_le_pow_right (by decide) (by omega))
        · exact absurd h1 (by show (2 : Int) ≠ 1; decide)
      · exact absurd (c1.symm.trans i1) (by decide)
  · have e1 := a4 g
    have e2 := b4 (Nat.le_trans g hN)
    rw [e1, e2]
    exact ⟨fun h => h, fun _ _ => Nat.le_refl _⟩
/-- Two numbers of base ten, over the same power. -/
theorem num_cross {n x x' : Int} {F F' : Nat} (h7 : 7 ≤ n ∧ n ≤ 12) (hx : eminI n ≤ x) (hx' : eminI n ≤ x') (h : numU n x F ≤ numU n x' F') : F * upP 10 x * dnP 10 x' ≤ F' * upP 10 x' * dnP 10 x := by
  obtain ⟨f1, f2, f3, f4, f5, f6, f7, f8, f9⟩ := fmt10 h7
  obtain ⟨K, hK⟩ : ∃ K : Nat, (K : Int) = -eminI n := ⟨(-eminI n).toNat, by omega⟩
  have hk : 0 < 10 ^ K := Nat.pow_pos (by decide)
  have u1 := up_dn 10 (x := x) (K := K) (by omega)
  have u2 := up_dn 10 (x := x') (K := K) (by omega)
  unfold numU at h
  rw [show x - eminI n = x + (K : Int) by omega, show x' - eminI n = x' + (K : Int) by omega] at h
  rw [← mle hk]
  have e1 : F * upP 10 x * dnP 10 x' * 10 ^ K = F * 10 ^ (x + (K : Int)).toNat * (dnP 10 x * dnP 10 x') := by
    rw [Nat.mul_right_comm (F * upP 10 x), Nat.mul_assoc F, u1, ← Nat.mul_assoc, Nat.mul_assoc (F * 10 ^ (x + (K : Int)).toNat)]
  have e2 : F' * upP 10 x' * dnP 10 x * 10 ^ K = F' * 10 ^ (x' + (K : Int)).toNat * (dnP 10 x * dnP 10 x') := by
    rw [Nat.mul_right_comm (F' * upP 10 x'), Nat.mul_assoc F', u2, ← Nat.mul_assoc, Nat.mul_assoc (F' * 10 ^ (x' + (K : Int)).toNat), Nat.mul_comm (dnP 10 x')]
  rw [e1, e2]
  exact Nat.mul_le_mul_right _ h
end
end Go.Proofs.Ytcglfmldodhakaa.Vm
