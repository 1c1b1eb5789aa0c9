/-
  Rounding into a binary format: what it comes to. Plain lemmas: no statement is proved here.
-/
import Derived.Test.YtcglfmldodhakaaCalQA
import Derived.Test.YtcglfmldodhakaaCalBP
namespace Go.Proofs.Ytcglfmldodhakaa.Vm
open Go Go.Vm
noncomputable section
set_option linter.unusedVariables false
/-- The pattern of a finite number. -/
def pkN (n : Int) (s : Bool) (x : Int) (c : Nat) : Nat := packN (mN n) (eN n) (eminI n) 1 s false x c
def infN (n : Int) (s : Bool) : Nat := packN (mN n) (eN n) (eminI n) 2 s false 0 0
/-- Whether what overflows becomes infinite. -/
def farB (d : Int) (s : Bool) : Bool := cond (d == 2) false (cond (d == 3) (!s) (cond (d == 4) s true))
def overP (n d : Int) (s : Bool) : Nat := cond (farB d s) (infN n s) (pkN n s (emaxI n) (topN n))
/-- From the whole number on. -/
def finish (n d : Int) (s : Bool) (low q : Int) (c : Nat) (ex : Bool) : Nat × Int :=
  cond (decide (((bitlen c : Nat) : Int) > precI n))
    (cond (decide (q + 1 > emaxI n)) (overP n d s, 10) (pkN n s (q + 1) (c / 2), cond ex 0 (cond (decide (low < eminI n + precI n - 1)) 12 8)))
    (cond (decide (q > emaxI n)) (overP n d s, 10) (pkN n s q c, cond ex 0 (cond (decide (low < eminI n + precI n - 1)) 12 8)))
def qOf (n low : Int) : Int := max (eminI n) (low - precI n + 1)
/-- A fraction times a power of two, rounded: its pattern, and its flags. -/
def rnd (n d : Int) (s : Bool) (A B : Nat) (e : Int) : Nat × Int := if A = 0 then (pkN n s (eminI n) 0, 0) else
  finish n d s (flog 2 A B + e) (qOf n (flog 2 A B + e)) (rndF d s (A * upP 2 (e - qOf n (flog 2 A B + e))) (B * dnP 2 (e - qOf n (flog 2 A B + e)))) (exF (A * upP 2 (e - qOf n (flog 2 A B + e))) (B * dnP 2 (e - qOf n (flog 2 A B + e))))
theorem finish_over {n d low q : Int} {s ex : Bool} {c : Nat} (h : q > emaxI n) : finish n d s low q c ex = (overP n d s, 10) := by
  unfold finish
  rw [decide_eq_true (show q + 1 > emaxI n by omega), cond_true, decide_eq_true h, cond_true]
  cases decide (((bitlen c : Nat) : Int) > precI n) <;> rfl
theorem rnd_over {n d e : Int} {s : Bool} {A B : Nat} (hA : A ≠ 0) (h : flog 2 A B + e ≥ emaxI n + precI n) : rnd n d s A B e = (overP n d s, 10) := by
  unfold rnd
  rw [if_neg hA, finish_over]
  unfold qOf
  omega
/-- Much below the least number. -/
theorem tiny_x {A B : Nat} (hA : 0 < A) (hB : 0 < B) {e m : Int} (h : flog 2 A B + e < m - 1) : 2 * (A * upP 2 (e - m)) < B * dnP 2 (e - m) := by
  have hl := (isLog_shift (β := 2) (by decide) (e - m)).2 (flog2_is hA hB)
  obtain ⟨K, hK⟩ : ∃ K : Nat, K = (flog 2 A B + (e - m)).natAbs + 2 := ⟨_, rfl⟩
  have h1 := ((isLog_norm (K := K) (by decide) (by omega)).1 hl).2
  have hk : 0 < 2 ^ K := Nat.two_pow_pos K
  have h2 : B * dnP 2 (e - m) * 2 ^ ((flog 2 A B + (e - m) + (K : Int)).toNat + 1) * 2 ≤ B * dnP 2 (e - m) * 2 ^ K := by
    rw [Nat.mul_assoc, ← Nat.pow_succ]
    exact Nat.mul_le_mul_left _ (Nat.pow_le_pow_right (by decide) (by omega))
  rw [← mlt hk, Nat.mul_assoc]
  generalize B * dnP 2 (e - m) * 2 ^ ((flog 2 A B + (e - m) + (K : Int)).toNat + 1) = u at *
  omega
theorem bitlen_one : bitlen 1 = 1 := by decide
theorem rnd_small {n d e : Int} (h6 : 1 ≤ n ∧ n ≤ 6) {s : Bool} {A B : Nat} (hA : 0 < A) (hB : 0 < B) (h : flog 2 A B + e < eminI n - 1) : rnd n d s A B e = (pkN n s (eminI n) (cond (upB d s false (-1)) 1 0), 12) := by
  obtain ⟨f1, f2, f3, f4, f5, f6, f7, f8, f9, f10, f11, f12⟩ := fmt h6
  have f13 := emin_le h6
  have f14 := emax_le h6
  have hq : qOf n (flog 2 A B + e) = eminI n := by unfold qOf; omega
  have hx := tiny_x hA hB h
  obtain ⟨r1, r2⟩ := rnd_tiny d s (Nat.mul_pos hA (upP_pos (by decide) (e - eminI n))) hx
  unfold rnd
  rw [if_neg (by omega), hq, r1, r2]
  unfold finish
  have hb : bitlen (cond (upB d s false (-1)) 1 0) ≤ 1 := by
    cases upB d s false (-1)
    · exact Nat.zero_le _
    · exact Nat.le_of_eq bitlen_one
  rw [decide_eq_false (by omega), cond_false, decide_eq_false (by omega), cond_false, cond_false, decide_eq_true (by omega), cond_true]
/-- What a scaled fraction's whole number is bounded by. -/
theorem rnd_size {A B : Nat} (hA : 0 < A) (hB : 0 < B) {e q : Int} {m : Nat} (h : flog 2 A B + e - q ≤ (m : Int)) : A * upP 2 (e - q) / (B * dnP 2 (e - q)) < 2 ^ (m + 1) := by
  have hl := (isLog_shift (β := 2) (by decide) (e - q)).2 (flog2_is hA hB)
  have hy : 0 < B * dnP 2 (e - q) := Nat.mul_pos hB (dnP_pos (by decide) _)
  obtain ⟨K, hK⟩ : ∃ K : Nat, K = (flog 2 A B + (e - q)).natAbs := ⟨_, rfl⟩
  have h1 := ((isLog_norm (K := K) (by decide) (by omega)).1 hl).2
  have hk : 0 < 2 ^ K := Nat.two_pow_pos K
  rw [Nat.div_lt_iff_lt_mul hy, Nat.mul_comm (2 ^ (m + 1)), ← mlt hk, Nat.mul_assoc (B * dnP 2 (e - q)), ← Nat.pow_add]
  exact Nat.lt_of_lt_of_le h1 (Nat.mul_le_mul_left _ (Nat.pow_le_pow_right (by decide) (by omega)))
theorem rnd_full {A B : Nat} (hA : 0 < A) (hB : 0 < B) {e q : Int} {m : Nat} (h : flog 2 A B + e - q = (m : Int)) : 2 ^ m ≤ A * upP 2 (e - q) / (B * dnP 2 (e - q)) := by
  have hl := ((isLog_shift (β := 2) (by decide) (e - q)).2 (flog2_is hA hB)).1
  have hy : 0 < B * dnP 2 (e - q) := Nat.mul_pos hB (dnP_pos (by decide) _)
  rw [show flog 2 A B + (e - q) = (m : Int) by omega] at hl
  rw [Nat.le_div_iff_mul_le hy, Nat.mul_comm]
  have h0 : dnP 2 (m : Int) = 1 := by unfold dnP; rw [show (-(m : Int)).toNat = 0 by omega, Nat.pow_zero]
  have h1 : upP 2 (m : Int) = 2 ^ m := by unfold upP; rw [Int.toNat_natCast]
  rw [h0, h1, Nat.mul_one] at hl
  exact hl
/-- What is rounded is one of the format. -/
theorem finish_is {n : Int} (h6 : 1 ≤ n ∧ n ≤ 6) {low q : Int} {c : Nat} (hq : q = qOf n low) (hc : c ≤ 2 ^ (mN n + 1)) (hlow : eminI n < q → 2 ^ mN n ≤ c) :
    (bitlen c > mN n + 1 → q + 1 ≤ emaxI n → isN n 1 false (q + 1) (c / 2) = true) ∧ (bitlen c ≤ mN n + 1 → q ≤ emaxI n → isN n 1 false q c = true) := by
  have hqe : eminI n ≤ q := by rw [hq]; unfold qOf; omega
  constructor
  · intro hb hm
    have hc2 : c = 2 ^ (mN n + 1) := by
      rcases Nat.lt_or_ge c (2 ^ (mN n + 1)) with h | h
      · have := (bitlen_le_iff _ _).2 h; omega
      · omega
    rw [isN_iff h6]
    refine .inl ⟨rfl, rfl, by omega, hm, .inl ?_⟩
    rw [hc2, Nat.pow_succ, Nat.mul_div_cancel _ (by decide)]
    exact bitlen_eq (Nat.le_refl _) (Nat.pow_lt_pow_right (by decide) (by omega))
  · intro hb hm
    rw [isN_iff h6]
    refine .inl ⟨rfl, rfl, hqe, hm, ?_⟩
    by_cases h : bitlen c = mN n + 1
    · exact .inl h
    · refine .inr ⟨by omega, ?_⟩
      rcases Int.lt_or_le (eminI n) q with h1 | h1
      · have := bitlen_ge (hlow h1); omega
      · omega
/-- The whole number of a fraction that is rounded. -/
theorem rnd_c {n : Int} (h6 : 1 ≤ n ∧ n ≤ 6) {A B : Nat} (hA : 0 < A) (hB : 0 < B) (d : Int) (s : Bool) {e low q : Int} (hlow : low = flog 2 A B + e) (hq : q = qOf n low) :
    rndF d s (A * upP 2 (e - q)) (B * dnP 2 (e - q)) ≤ 2 ^ (mN n + 1) ∧ (eminI n < q → 2 ^ mN n ≤ rndF d s (A * upP 2 (e - q)) (B * dnP 2 (e - q))) := by
  obtain ⟨f1, f2, f3, f4, f5, f6, f7, f8, f9, f10, f11, f12⟩ := fmt h6
  obtain ⟨b1, b2, b3⟩ := rnd_bounds d s (A * upP 2 (e - q)) (B * dnP 2 (e - q))
  constructor
  · have := rnd_size hA hB (e := e) (q := q) (m := mN n) (by rw [← hlow, hq]; unfold qOf; omega)
    omega
  · intro h
    have h1 : q = low - precI n + 1 := by rw [hq] at h ⊢; unfold qOf at h ⊢; omega
    have := rnd_full hA hB (e := e) (q := q) (m := mN n) (by omega)
    omega

/-! ### Equal fractions, and powers of two moved -/
theorem rnd_ratioN {n d e : Int} {s : Bool} {A B A' B' : Nat} (hA : 0 < A) (hB : 0 < B) (hA' : 0 < A') (hB' : 0 < B') (h : A * B' = A' * B) : rnd n d s A B e = rnd n d s A' B' e := by
  have hf : flog 2 A B = flog 2 A' B' := flog_eq (by decide) ((isLog_ratio hB hB' h).2 (flog2_is hA' hB'))
  unfold rnd
  rw [if_neg (by omega), if_neg (by omega), hf]
  generalize e - qOf n (flog 2 A' B' + e) = z
  obtain ⟨r1, r2⟩ := rnd_ratio d s (x := A * upP 2 z) (y := B * dnP 2 z) (x' := A' * upP 2 z) (y' := B' * dnP 2 z) (Nat.mul_pos hB (dnP_pos (by decide) _)) (Nat.mul_pos hB' (dnP_pos (by decide) _)) (by
    rw [Nat.mul_mul_mul_comm, h, Nat.mul_mul_mul_comm])
  rw [r1, r2]
theorem scale_ratio (A B : Nat) (x y : Int) : A * upP 2 x * upP 2 y * (B * dnP 2 (x + y)) = A * upP 2 (x + y) * (B * dnP 2 x * dnP 2 y) := by
  have h := up_add 2 (by decide) x y
  rw [Nat.mul_assoc A, Nat.mul_assoc B, Nat.mul_mul_mul_comm, h, Nat.mul_mul_mul_comm A (upP 2 (x + y)), Nat.mul_comm (upP 2 (x + y))]
theorem rnd_move {n d e : Int} {s : Bool} {A B : Nat} (hA : 0 < A) (hB : 0 < B) (x : Int) : rnd n d s (A * upP 2 x) (B * dnP 2 x) e = rnd n d s A B (e + x) := by
  have hf := flog_shift (by decide) (flog2_is hA hB) x
  unfold rnd
  rw [if_neg (by have := Nat.mul_pos hA (upP_pos (β := 2) (by decide) x); omega), if_neg (by omega), hf, show flog 2 A B + x + e = flog 2 A B + (e + x) by omega]
  generalize qOf n (flog 2 A B + (e + x)) = q
  obtain ⟨r1, r2⟩ := rnd_ratio d s (x := A * upP 2 x * upP 2 (e - q)) (y := B * dnP 2 x * dnP 2 (e - q)) (x' := A * upP 2 (e + x - q)) (y' := B * dnP 2 (e + x - q)) (Nat.mul_pos (Nat.mul_pos hB (dnP_pos (by decide) _)) (dnP_pos (by decide) _)) (Nat.mul_pos hB (dnP_pos (by decide) _)) (by
    have := scale_ratio A B x (e - q)
    rwa [show x + (e - q) = e + x - q by omega] at this)
  rw [r1, r2]
/-- Exponents beyond all are as good as near ones. -/
theorem rnd_clamp {n d e M : Int} (h6 : 1 ≤ n ∧ n ≤ 6) {s : Bool} {A B : Nat} (hA : A ≠ 0) (hB : 0 < B) (h1 : bitlen A ≤ 60000) (h2 : bitlen B ≤ 60000) (hM : 130000 ≤ M) : rnd n d s A B (min (max e (-M)) M) = rnd n d s A B e := by
  obtain ⟨f1, f2, f3, f4, f5, f6, f7, f8, f9, f10, f11, f12⟩ := fmt h6
  have f13 := emin_le h6
  have hb := flog2_bounds (show 0 < A by omega) hB
  have e1 : 2 ^ (eN n - 1) ≤ 2 ^ 14 := Nat.pow_le_pow_right (by decide) (by omega)
  have e2 : (2 : Nat) ^ 14 = 16384 := by decide
  rcases Int.lt_or_le M e with h | h
  · rw [show min (max e (-M)) M = M by omega, rnd_over hA (by omega), rnd_over hA (by omega)]
  · rcases Int.lt_or_le e (-M) with h' | h'
    · rw [show min (max e (-M)) M = -M by omega, rnd_small h6 (by omega) hB (by omega), rnd_small h6 (by omega) hB (by omega)]
    · rw [show min (max e (-M)) M = e by omega]
end
end Go.Proofs.Ytcglfmldodhakaa.Vm
