/-
  Fractions, rounded to numbers of base ten, plain. No statement is proved here.
-/
import Derived.Test.YtcglfmldodhakaaCalQB
namespace Go.Vm
set_option linter.unusedVariables false
/-! ### Logarithms of base ten -/
theorem log_top {β a b : Nat} (hβ : 2 ≤ β) (ha : 0 < a) (hb : 0 < b) : ∀ k : Nat, a < b * β ^ k → b ≤ a → ∃ j, b * β ^ j ≤ a ∧ a < b * β ^ (j + 1)
  | 0, h, h' => by rw [Nat.pow_zero, Nat.mul_one] at h; omega
  | k + 1, h, h' => by
    rcases Nat.lt_or_ge a (b * β ^ k) with g | g
    · exact log_top hβ ha hb k g h'
    · exact ⟨k, g, h⟩
theorem flog_is {β a b : Nat} (hβ : 2 ≤ β) (ha : 0 < a) (hb : 0 < b) : IsLog β a b (flog β a b) := by
  have pw : ∀ k : Nat, k < β ^ k := fun k => Nat.lt_of_lt_of_le Nat.lt_two_pow_self (Nat.pow_le_pow_left hβ k)
  have h1 : b ≤ a * β ^ b := Nat.le_trans (Nat.le_of_lt (pw b)) (Nat.le_mul_of_pos_left _ ha)
  have h2 : a * β ^ b < b * β ^ (a * β ^ b) := Nat.lt_of_lt_of_le (pw _) (Nat.le_mul_of_pos_left _ hb)
  obtain ⟨j, g1, g2⟩ := log_top hβ (Nat.mul_pos ha (Nat.pow_pos (by omega))) hb _ h2 h1
  have hl : IsLog β a b ((j : Int) - (b : Int)) := (isLog_norm (K := b) (by omega) (by omega)).2 (by
    rw [show (j : Int) - (b : Int) + (b : Int) = (j : Int) by omega, Int.toNat_natCast]
    exact ⟨g1, g2⟩)
  rw [flog_eq hβ hl]
  exact hl
/-- Is a fraction below a power? -/
theorem below_iff {β a b : Nat} (hβ : 2 ≤ β) (ha : 0 < a) (hb : 0 < b) (e : Int) : a * dnP β e < b * upP β e ↔ flog β a b < e := by
  have h := flog_is hβ ha hb
  obtain ⟨K, hK⟩ : ∃ K : Nat, K = (flog β a b).natAbs + e.natAbs + 1 := ⟨_, rfl⟩
  have h1 := (isLog_norm (K := K) (by omega) (by omega)).1 h
  rw [lt_norm (K := K) (by omega) (by omega)]
  constructor
  · intro g
    have := pow_lt_of hβ (Nat.lt_of_le_of_lt h1.1 g)
    omega
  · intro g
    exact Nat.lt_of_lt_of_le h1.2 (Nat.mul_le_mul_left _ (Nat.pow_le_pow_right (by omega) (by omega)))
theorem flog_le {β a b : Nat} (hβ : 2 ≤ β) (ha : 0 < a) (hb : 0 < b) {k : Nat} (h : a < β ^ k) : flog β a b < (k : Int) := by
  rw [← below_iff hβ ha hb]
  unfold dnP upP
  rw [show (-(k : Int)).toNat = 0 by omega, Nat.pow_zero, Nat.mul_one, Int.toNat_natCast]
  exact Nat.lt_of_lt_of_le h (Nat.le_mul_of_pos_left _ hb)
theorem flog_ge {β a b : Nat} (hβ : 2 ≤ β) (ha : 0 < a) (hb : 0 < b) {k : Nat} (h : b ≤ β ^ k) : -(k : Int) ≤ flog β a b := by
  rcases Int.lt_or_le (flog β a b) (-(k : Int)) with g | g
  · rw [← below_iff hβ ha hb] at g
    unfold dnP upP at g
    rw [show (-(k : Int)).toNat = 0 by omega, Nat.pow_zero, Nat.mul_one, show (- -(k : Int)).toNat = k by omega] at g
    have := Nat.le_mul_of_pos_left (β ^ k) ha
    omega
  · exact g
/-- Of a number of so many bits: three bits are less than one digit. -/
theorem flog10_bits {a b : Nat} (ha : 0 < a) (hb : 0 < b) : -((bitlen b : Int) / 3 + 1) ≤ flog 10 a b ∧ flog 10 a b ≤ (bitlen a : Int) / 3 := by
  have h10 : ∀ m : Nat, (2 : Nat) ^ m ≤ 10 ^ (m / 3 + 1) := fun m => by
    have h1 : (2 : Nat) ^ (3 * (m / 3 + 1)) = 8 ^ (m / 3 + 1) := by rw [Nat.pow_mul]
    exact Nat.le_trans (Nat.pow_le_pow_right (by decide) (show m ≤ 3 * (m / 3 + 1) by omega)) (h1 ▸ Nat.pow_le_pow_left (by decide) _)
  have g1 := flog_ge (β := 10) (a := a) (b := b) (by decide) ha hb (k := bitlen b / 3 + 1) (Nat.le_trans (Nat.le_of_lt (bitlen_lt b)) (h10 _))
  have g2 := flog_le (β := 10) (a := a) (b := b) (by decide) ha hb (k := bitlen a / 3 + 1) (Nat.lt_of_lt_of_le (bitlen_lt a) (h10 _))
  omega
theorem flog_ratio {β a b a' b' : Nat} (hβ : 2 ≤ β) (ha' : 0 < a') (hb : 0 < b) (hb' : 0 < b') (h : a * b' = a' * b) : flog β a b = flog β a' b' := flog_eq hβ ((isLog_ratio hb hb' h).2 (flog_is hβ ha' hb'))
/-- Scaled twice. -/
theorem scale_two (β : Nat) (hβ : 0 < β) (A B : Nat) (x y : Int) : A * upP β x * upP β y * (B * dnP β (x + y)) = A * upP β (x + y) * (B * dnP β x * dnP β y) := by
  have h := up_add β hβ x y
  rw [Nat.mul_assoc A, Nat.mul_assoc B, Nat.mul_mul_mul_comm, h, Nat.mul_mul_mul_comm A (upP β (x + y)), Nat.mul_comm (upP β (x + y))]
/-- What a scaled fraction's whole number is bounded by. -/
theorem scaled_lt {β A B : Nat} (hβ : 2 ≤ β) (hA : 0 < A) (hB : 0 < B) {z : Int} {m : Nat} (h : flog β A B + z < (m : Int)) : A * upP β z / (B * dnP β z) < β ^ m := by
  have hl := (isLog_shift (β := β) (by omega) z).2 (flog_is hβ hA hB)
  have hy : 0 < B * dnP β z := Nat.mul_pos hB (dnP_pos (by omega) _)
  obtain ⟨K, hK⟩ : ∃ K : Nat, K = (flog β A B + z).natAbs := ⟨_, rfl⟩
  have h1 := ((isLog_norm (K := K) (by omega) (by omega)).1 hl).2
  have hk : 0 < β ^ K := Nat.pow_pos (by omega)
  rw [Nat.div_lt_iff_lt_mul hy, Nat.mul_comm (β ^ m), ← mlt hk, Nat.mul_assoc (B * dnP β z), ← Nat.pow_add]
  exact Nat.lt_of_lt_of_le h1 (Nat.mul_le_mul_left _ (Nat.pow_le_pow_right (by omega) (by omega)))
theorem scaled_ge {β A B : Nat} (hβ : 2 ≤ β) (hA : 0 < A) (hB : 0 < B) {z : Int} {m : Nat} (h : flog β A B + z = (m : Int)) : β ^ m ≤ A * upP β z / (B * dnP β z) := by
  have hl := ((isLog_shift (β := β) (by omega) z).2 (flog_is hβ hA hB)).1
  have hy : 0 < B * dnP β z := Nat.mul_pos hB (dnP_pos (by omega) _)
  rw [h] at hl
  rw [Nat.le_div_iff_mul_le hy, Nat.mul_comm]
  have h0 : dnP β (m : Int) = 1 := by unfold dnP; rw [show (-(m : Int)).toNat = 0 by omega, Nat.pow_zero]
  have h1 : upP β (m : Int) = β ^ m := by unfold upP; rw [Int.toNat_natCast]
  rw [h0, h1, Nat.mul_one] at hl
  exact hl
end Go.Vm

namespace Go.Proofs.Ytcglfmldodhakaa.Vm
open Go Go.Vm
noncomputable section
set_option linter.unusedVariables false
def pN (n : Int) : Nat := (precI n).toNat
theorem fmt10 {n : Int} (h : 7 ≤ n ∧ n ≤ 12) : baseI n = 10 ∧ precI n = (pN n : Int) ∧ payI n = (pN n : Int) - 1 ∧ 7 ≤ pN n ∧ pN n ≤ 34 ∧ -6176 ≤ eminI n ∧ eminI n ≤ -101 ∧ 90 ≤ emaxI n ∧ emaxI n ≤ 6111 := by
  unfold pN
  rcases (by omega : n = 7 ∨ n = 8 ∨ n = 9 ∨ n = 10 ∨ n = 11 ∨ n = 12) with rfl | rfl | rfl | rfl | rfl | rfl <;> decide
/-- The member of a number's cohort that is nearest to what is wanted from above. -/
def memF : Nat → Nat → Int → Int → Nat × Int
  | 0, c, q, _ => (c, q)
  | f + 1, c, q, l => cond (decide (q < l)) (cond (decide (c % 10 = 0)) (memF f (c / 10) (q + 1) l) (c, q)) (c, q)
def mem10 (c : Nat) (q l : Int) : Nat × Int := memF (l - q).toNat c q l
/-- The end of a rounding: class, exponent, coefficient and flags. -/
def dfin (n d : Int) (s : Bool) (low q : Int) (c : Nat) (ex : Bool) (w : Int) : Int × Int × Nat × Int :=
  cond (decide (q > emaxI n)) (cond (farB d s) (2, 0, 0, 10) (1, emaxI n, 10 ^ pN n - 1, 10))
    (cond ex (1, (mem10 c q (min w (emaxI n))).2, (mem10 c q (min w (emaxI n))).1, 0) (1, q, c, cond (decide (low < eminI n + precI n - 1)) 12 8))
def dCar (n d : Int) (s : Bool) (low q : Int) (c : Nat) (ex : Bool) (w : Int) : Int × Int × Nat × Int :=
  cond (decide (c ≥ 10 ^ pN n)) (dfin n d s low (q + 1) (10 ^ (pN n - 1)) ex w) (dfin n d s low q c ex w)
/-- A fraction times a power of ten, rounded. -/
def drn (n d : Int) (s : Bool) (A B : Nat) (e w : Int) : Int × Int × Nat × Int := if A = 0 then (1, min (max w (eminI n)) (emaxI n), 0, 0) else
  dCar n d s (flog 10 A B + e) (qOf n (flog 10 A B + e)) (rndF d s (A * upP 10 (e - qOf n (flog 10 A B + e))) (B * dnP 10 (e - qOf n (flog 10 A B + e)))) (exF (A * upP 10 (e - qOf n (flog 10 A B + e))) (B * dnP 10 (e - qOf n (flog 10 A B + e)))) w
def dOver (n d : Int) (s : Bool) : Int × Int × Nat × Int := cond (farB d s) (2, 0, 0, 10) (1, emaxI n, 10 ^ pN n - 1, 10)
theorem dCar_over {n d low q w : Int} {s ex : Bool} {c : Nat} (h : q > emaxI n) : dCar n d s low q c ex w = dOver n d s := by
  unfold dCar dfin
  rw [decide_eq_true (show q + 1 > emaxI n by omega), cond_true, decide_eq_true h, cond_true]
  cases decide (c ≥ 10 ^ pN n) <;> rfl
theorem drn_over {n d e w : Int} {s : Bool} {A B : Nat} (hA : A ≠ 0) (h : flog 10 A B + e ≥ emaxI n + precI n) : drn n d s A B e w = dOver n d s := by
  unfold drn
  rw [if_neg hA, dCar_over]
  unfold qOf
  omega
theorem ten_le {n : Nat} (h : 1 ≤ n) : 10 ≤ 10 ^ n := by
  obtain ⟨k, rfl⟩ : ∃ k, n = k + 1 := ⟨n - 1, by omega⟩
  rw [Nat.pow_succ]
  have := Nat.pow_pos (n := k) (show 0 < 10 by decide)
  omega
theorem drn_small {n d e w : Int} (h7 : 7 ≤ n ∧ n ≤ 12) {s : Bool} {A B : Nat} (hA : 0 < A) (hB : 0 < B) (h : flog 10 A B + e < eminI n - 1) : drn n d s A B e w = (1, eminI n, cond (upB d s false (-1)) 1 0, 12) := by
  obtain ⟨f1, f2, f3, f4, f5, f6, f7, f8, f9⟩ := fmt10 h7
  have hq : qOf n (flog 10 A B + e) = eminI n := by unfold qOf; omega
  have hl := (isLog_shift (β := 10) (by decide) (e - eminI n)).2 (flog_is (by decide) hA hB)
  have hx : 2 * (A * upP 10 (e - eminI n)) < B * dnP 10 (e - eminI n) := by
    obtain ⟨K, hK⟩ : ∃ K : Nat, K = (flog 10 A B + (e - eminI n)).natAbs + 2 := ⟨_, rfl⟩
    have h1 := ((isLog_norm (K := K) (by decide) (by omega)).1 hl).2
    have hk : 0 < 10 ^ K := Nat.pow_pos (by decide)
    have h2 : B * dnP 10 (e - eminI n) * 10 ^ ((flog 10 A B + (e - eminI n) + (K : Int)).toNat + 1) * 10 ≤ B * dnP 10 (e - eminI n) * 10 ^ K := by
      rw [Nat.mul_assoc, ← Nat.pow_succ]
      exact Nat.mul_le_mul_left _ (Nat.pow_le_pow_right (by decide) (by omega))
    rw [← mlt hk, Nat.mul_assoc]
    generalize B * dnP 10 (e - eminI n) * 10 ^ ((flog 10 A B + (e - eminI n) + (K : Int)).toNat + 1) = u at *
    omega
  obtain ⟨r1, r2⟩ := rnd_tiny d s (Nat.mul_pos hA (upP_pos (by decide) (e - eminI n))) hx
  unfold drn
  rw [if_neg (by omega), hq, r1, r2]
  have ht := ten_le (n := pN n) (by omega)
  have hb : cond (upB d s false (-1)) 1 0 ≤ 1 := by
    cases upB d s false (-1)
    · exact Nat.zero_le _
    · exact Nat.le_refl _
  generalize cond (upB d s false (-1)) 1 0 = u at *
  unfold dCar dfin
  rw [decide_eq_false (by omega), cond_false, decide_eq_false (by omega), cond_false, cond_false, decide_eq_true (by omega), cond_true]
/-- A fraction told otherwise. -/
theorem drn_ratio {n d e w : Int} {s : Bool} {A B A' B' : Nat} (hA : 0 < A) (hB : 0 < B) (hA' : 0 < A') (hB' : 0 < B') (h : A * B' = A' * B) : drn n d s A B e w = drn n d s A' B' e w := by
  have hf := flog_ratio (β := 10) (by decide) hA' hB hB' h
  unfold drn
  rw [if_neg (by omega), if_neg (by omega), hf]
  generalize e - qOf n (flog 10 A' B' + e) = z
  obtain ⟨r1, r2⟩ := rnd_ratio d s (x := A * upP 10 z) (y := B * dnP 10 z) (x' := A' * upP 10 z) (y' := B' * dnP 10 z) (Nat.mul_pos hB (dnP_pos (by decide) _)) (Nat.mul_pos hB' (dnP_pos (by decide) _)) (by
    rw [Nat.mul_mul_mul_comm, h, Nat.mul_mul_mul_comm])
  rw [r1, r2]
/-- As the other text does it: the fraction scaled, then scaled again. -/
theorem drn_two {n d e w : Int} {s : Bool} {A B : Nat} (hA : 0 < A) (hB : 0 < B) {low q : Int} (hl : low = flog 10 (A * upP 10 e) (B * dnP 10 e)) (hq : q = qOf n low) :
    low = flog 10 A B + e ∧ drn n d s A B e w = dCar n d s low q (rndF d s (A * upP 10 e * upP 10 (-q)) (B * dnP 10 e * dnP 10 (-q))) (exF (A * upP 10 e * upP 10 (-q)) (B * dnP 10 e * dnP 10 (-q))) w := by
  have hf : low = flog 10 A B + e := hl.trans (flog_shift (by decide) (flog_is (by decide) hA hB) e)
  refine ⟨hf, ?_⟩
  unfold drn
  rw [if_neg (by omega), ← hf, ← hq]
  obtain ⟨r1, r2⟩ := rnd_ratio d s (x := A * upP 10 e * upP 10 (-q)) (y := B * dnP 10 e * dnP 10 (-q)) (x' := A * upP 10 (e - q)) (y' := B * dnP 10 (e - q)) (Nat.mul_pos (Nat.mul_pos hB (dnP_pos (by decide) _)) (dnP_pos (by decide) _)) (Nat.mul_pos hB (dnP_pos (by decide) _)) (by
    have := scale_two 10 (by decide) A B e (-q)
    rwa [show e + -q = e - q by omega] at this)
  rw [r1, r2]
/-- Exponents beyond all are as good as near ones. -/
theorem drn_clamp {n d e w M : Int} (h7 : 7 ≤ n ∧ n ≤ 12) {s : Bool} {A B : Nat} (hA : 0 < A) (hB : 0 < B) (h1 : bitlen A ≤ 26000) (h2 : bitlen B ≤ 26000) (hM : 20000 ≤ M) : drn n d s A B (min (max e (-M)) M) w = drn n d s A B e w := by
  obtain ⟨f1, f2, f3, f4, f5, f6, f7, f8, f9⟩ := fmt10 h7
  have hb := flog10_bits hA hB
  rcases Int.lt_or_le M e with h | h
  · rw [show min (max e (-M)) M = M by omega, drn_over (by omega) (by omega), drn_over (by omega) (by omega)]
  · rcases Int.lt_or_le e (-M) with h' | h'
    · rw [show min (max e (-M)) M = -M by omega, drn_small h7 hA hB (by omega), drn_small h7 hA hB (by omega)]
    · rw [show min (max e (-M)) M = e by omega]
/-- One, much too great or much too small, as the program takes it. -/
theorem drn_one_big {n d w : Int} {s : Bool} : drn n d s 1 1 (emaxI n + precI n) w = dOver n d s := by
  have : flog 10 1 1 = 0 := flog_eq (by decide) ⟨by decide, by decide⟩
  exact drn_over (by decide) (by omega)
theorem drn_one_small {n d w : Int} (h7 : 7 ≤ n ∧ n ≤ 12) {s : Bool} : drn n d s 1 1 (eminI n - 2) w = (1, eminI n, cond (upB d s false (-1)) 1 0, 12) := by
  have : flog 10 1 1 = 0 := flog_eq (by decide) ⟨by decide, by decide⟩
  exact drn_small h7 (by decide) (by decide) (by omega)

/-! ### What is rounded is one of the format -/
theorem memF_is : ∀ (f c : Nat) (q l : Int), (memF f c q l).1 ≤ c ∧ q ≤ (memF f c q l).2 ∧ (memF f c q l).2 ≤ max q l ∧ (memF f c q l).1 * 10 ^ ((memF f c q l).2 - q).toNat = c
  | 0, c, q, l => by
    refine ⟨Nat.le_refl _, Int.le_refl _, by show q ≤ max q l; omega, ?_⟩
    show c * 10 ^ (q - q).toNat = c
    rw [Int.sub_self]
    simp
  | f + 1, c, q, l => by
    have same : (c ≤ c ∧ q ≤ q ∧ q ≤ max q l ∧ c * 10 ^ (q - q).toNat = c) := ⟨Nat.le_refl _, Int.le_refl _, by omega, by rw [Int.sub_self]; simp⟩
    unfold memF
    by_cases h1 : q < l
    · rw [decide_eq_true h1, cond_true]
      by_cases h2 : c % 10 = 0
      · rw [decide_eq_true h2, cond_true]
        obtain ⟨g1, g2, g3, g4⟩ := memF_is f (c / 10) (q + 1) l
        refine ⟨by omega, by omega, by omega, ?_⟩
        rw [show ((memF f (c / 10) (q + 1) l).2 - q).toNat = ((memF f (c / 10) (q + 1) l).2 - (q + 1)).toNat + 1 by omega, Nat.pow_succ, ← Nat.mul_assoc, g4]
        omega
      · rw [decide_eq_false h2, cond_false]
        exact same
    · rw [decide_eq_false h1, cond_false]
      exact same
theorem dq_ge (n low : Int) : eminI n ≤ qOf n low := by unfold qOf; omega
/-- Is a datum of base ten one of a format? -/
def isD (n C X : Int) (F : Nat) : Prop := (C = 1 ∧ eminI n ≤ X ∧ X ≤ emaxI n ∧ F < 10 ^ pN n) ∨ (C = 2 ∧ X = 0 ∧ F = 0)
theorem dfin_is {n d low q w : Int} (h7 : 7 ≤ n ∧ n ≤ 12) {s ex : Bool} {c : Nat} (hc : c < 10 ^ pN n) (hq : eminI n ≤ q) : isD n (dfin n d s low q c ex w).1 (dfin n d s low q c ex w).2.1 (dfin n d s low q c ex w).2.2.1 := by
  obtain ⟨f1, f2, f3, f4, f5, f6, f7, f8, f9⟩ := fmt10 h7
  have ht := ten_le (n := pN n) (by omega)
  unfold dfin
  by_cases h1 : q > emaxI n
  · rw [decide_eq_true h1, cond_true]
    cases farB d s
    · exact .inl ⟨rfl, by show eminI n ≤ emaxI n; omega, Int.le_refl _, by show 10 ^ pN n - 1 < _; omega⟩
    · exact .inr ⟨rfl, rfl, rfl⟩
  · rw [decide_eq_false h1, cond_false]
    cases ex
    · exact .inl ⟨rfl, hq, by show q ≤ _; omega, hc⟩
    · obtain ⟨g1, g2, g3, g4⟩ := memF_is (min w (emaxI n) - q).toNat c q (min w (emaxI n))
      refine .inl ⟨rfl, ?_, ?_, ?_⟩
      · show eminI n ≤ (memF _ _ _ _).2
        omega
      · show (memF _ _ _ _).2 ≤ _
        omega
      · show (memF _ _ _ _).1 < _
        omega
theorem drn_is {n d e w : Int} (h7 : 7 ≤ n ∧ n ≤ 12) {s : Bool} {A B : Nat} : isD n (drn n d s A B e w).1 (drn n d s A B e w).2.1 (drn n d s A B e w).2.2.1 := by
  obtain ⟨f1, f2, f3, f4, f5, f6, f7, f8, f9⟩ := fmt10 h7
  unfold drn
  split
  · exact .inl ⟨rfl, by show eminI n ≤ min _ _; omega, by show min _ _ ≤ emaxI n; omega, Nat.pow_pos (by decide)⟩
  · have hq := dq_ge n (flog 10 A B + e)
    unfold dCar
    by_cases hc : rndF d s (A * upP 10 (e - qOf n (flog 10 A B + e))) (B * dnP 10 (e - qOf n (flog 10 A B + e))) ≥ 10 ^ pN n
    · rw [decide_eq_true hc, cond_true]
      exact dfin_is h7 (Nat.pow_lt_pow_right (by decide) (by omega)) (by omega)
    · rw [decide_eq_false hc, cond_false]
      exact dfin_is h7 (by omega) hq
end
end Go.Proofs.Ytcglfmldodhakaa.Vm
