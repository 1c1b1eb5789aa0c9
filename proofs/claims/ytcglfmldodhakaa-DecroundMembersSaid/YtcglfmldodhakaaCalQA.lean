/-
  Fractions, rounded: plain lemmas of natural numbers. No statement is proved here.
-/
import Derived.Test.YtcglfmldodhakaaCal1
namespace Go.Vm
set_option linter.unusedVariables false

/-! ### Powers with whole exponents, as fractions -/
def upP (β : Nat) (x : Int) : Nat := β ^ x.toNat
def dnP (β : Nat) (x : Int) : Nat := β ^ (-x).toNat
theorem mle {k m n : Nat} (h : 0 < k) : m * k ≤ n * k ↔ m ≤ n := ⟨fun h1 => Nat.le_of_mul_le_mul_right h1 h, fun h1 => Nat.mul_le_mul_right k h1⟩
theorem mlt {k m n : Nat} (h : 0 < k) : m * k < n * k ↔ m < n := by rw [← Nat.not_le, ← Nat.not_le, mle h]
theorem upP_pos {β : Nat} (h : 0 < β) (x : Int) : 0 < upP β x := Nat.pow_pos h
theorem dnP_pos {β : Nat} (h : 0 < β) (x : Int) : 0 < dnP β x := Nat.pow_pos h
theorem upP_neg (β : Nat) (x : Int) : upP β (-x) = dnP β x := rfl
theorem dnP_neg (β : Nat) (x : Int) : dnP β (-x) = upP β x := by unfold dnP upP; rw [Int.neg_neg]
theorem up_dn (β : Nat) {x : Int} {K : Nat} (h : 0 ≤ x + (K : Int)) : upP β x * β ^ K = β ^ (x + (K : Int)).toNat * dnP β x := by
  unfold upP dnP
  rw [← Nat.pow_add, ← Nat.pow_add]
  congr 1
  omega
/-- Two fractions added up in their exponents. -/
theorem up_add (β : Nat) (hβ : 0 < β) (x y : Int) : upP β x * upP β y * dnP β (x + y) = dnP β x * dnP β y * upP β (x + y) := by
  unfold upP dnP
  rw [← Nat.pow_add, ← Nat.pow_add, ← Nat.pow_add, ← Nat.pow_add]
  congr 1
  omega
/-- The greatest exponent for which the power is not above a fraction. -/
def IsLog (β a b : Nat) (L : Int) : Prop := b * upP β L ≤ a * dnP β L ∧ a * dnP β (L + 1) < b * upP β (L + 1)
theorem le_norm {β a b : Nat} (hβ : 0 < β) {L : Int} {K : Nat} (h : 0 ≤ L + (K : Int)) : b * upP β L ≤ a * dnP β L ↔ b * β ^ (L + (K : Int)).toNat ≤ a * β ^ K := by
  have h1 := up_dn β h
  have hd := dnP_pos hβ L
  have hk : 0 < β ^ K := Nat.pow_pos hβ
  rw [← mle hk (m := b * upP β L), Nat.mul_assoc b, h1, ← Nat.mul_assoc, Nat.mul_right_comm a, mle hd]
theorem lt_norm {β a b : Nat} (hβ : 0 < β) {L : Int} {K : Nat} (h : 0 ≤ L + (K : Int)) : a * dnP β L < b * upP β L ↔ a * β ^ K < b * β ^ (L + (K : Int)).toNat := by
  rw [← Nat.not_le, ← Nat.not_le, le_norm hβ h]
theorem isLog_norm {β a b : Nat} (hβ : 0 < β) {L : Int} {K : Nat} (h : 0 ≤ L + (K : Int)) : IsLog β a b L ↔ b * β ^ (L + (K : Int)).toNat ≤ a * β ^ K ∧ a * β ^ K < b * β ^ ((L + (K : Int)).toNat + 1) := by
  unfold IsLog
  rw [le_norm hβ h, lt_norm hβ (show 0 ≤ L + 1 + (K : Int) by omega), show (L + 1 + (K : Int)).toNat = (L + (K : Int)).toNat + 1 by omega]
theorem pow_lt_of {β i j b : Nat} (hβ : 2 ≤ β) (h : b * β ^ i < b * β ^ j) : i < j := by
  rcases Nat.lt_or_ge i j with h1 | h1
  · exact h1
  · exact absurd h (Nat.not_lt.2 (Nat.mul_le_mul_left b (Nat.pow_le_pow_right (by omega) h1)))
theorem isLog_unique {β a b : Nat} (hβ : 2 ≤ β) {L M : Int} (h : IsLog β a b L) (h' : IsLog β a b M) : L = M := by
  have h1 := (isLog_norm (K := L.natAbs + M.natAbs) (by omega) (by omega)).1 h
  have h2 := (isLog_norm (K := L.natAbs + M.natAbs) (by omega) (by omega)).1 h'
  have h3 := pow_lt_of hβ (Nat.lt_of_le_of_lt h1.1 h2.2)
  have h4 := pow_lt_of hβ (Nat.lt_of_le_of_lt h2.1 h1.2)
  omega
open Classical in
noncomputable def flog (β a b : Nat) : Int := if h : ∃ L, IsLog β a b L then Classical.choose h else 0
theorem flog_eq {β a b : Nat} (hβ : 2 ≤ β) {L : Int} (h : IsLog β a b L) : flog β a b = L := by
  unfold flog
  have h' : ∃ L, IsLog β a b L := ⟨L, h⟩
  rw [dif_pos h']
  exact isLog_unique hβ (Classical.choose_spec h') h
/-- Times a power. -/
theorem isLog_shift {β a b : Nat} (hβ : 0 < β) {L : Int} (x : Int) : IsLog β (a * upP β x) (b * dnP β x) (L + x) ↔ IsLog β a b L := by
  have hK : 0 ≤ L + x + ((L.natAbs + x.natAbs : Nat) : Int) := by omega
  have hx : 0 ≤ x + ((L.natAbs + x.natAbs : Nat) : Int) := by omega
  obtain ⟨K', hK'⟩ : ∃ K' : Nat, x + ((L.natAbs + x.natAbs : Nat) : Int) = (K' : Int) := ⟨(x + ((L.natAbs + x.natAbs : Nat) : Int)).toNat, by omega⟩
  have hud := up_dn β hx
  rw [isLog_norm hβ hK, isLog_norm (K := K') hβ (by omega)]
  have hd := dnP_pos hβ x
  generalize L.natAbs + x.natAbs = K at *
  rw [hK', Int.toNat_natCast] at hud
  rw [show L + x + (K : Int) = L + (K' : Int) by omega, Nat.mul_assoc a, hud, ← Nat.mul_assoc, Nat.mul_right_comm b (dnP β x) (β ^ (L + (K' : Int)).toNat), Nat.mul_right_comm b (dnP β x) (β ^ ((L + (K' : Int)).toNat + 1)), mle hd, mlt hd]
/-- Of equal fractions. -/
theorem isLog_ratio {β a b a' b' : Nat} (hb : 0 < b) (hb' : 0 < b') (h : a * b' = a' * b) {L : Int} : IsLog β a b L ↔ IsLog β a' b' L := by
  have le : ∀ u v : Nat, b * u ≤ a * v ↔ b' * u ≤ a' * v := fun u v => by
    rw [← mle hb' (m := b * u), ← mle hb (m := b' * u), Nat.mul_right_comm a, h, Nat.mul_right_comm a', Nat.mul_right_comm b, Nat.mul_right_comm b', Nat.mul_comm b' b]
  unfold IsLog
  rw [le, ← Nat.not_le, ← Nat.not_le, le]

/-! ### Of two: how many bits there are -/
theorem log2_bounds {a b : Nat} (ha : 0 < a) (hb : 0 < b) {q : Int} (hq : q = (bitlen a : Int) - (bitlen b : Int)) : b * upP 2 (q - 1) ≤ a * dnP 2 (q - 1) ∧ a * dnP 2 (q + 1) < b * upP 2 (q + 1) := by
  have a1 := bitlen_top (n := a) (by omega)
  have a2 := bitlen_lt a
  have b1 := bitlen_top (n := b) (by omega)
  have b2 := bitlen_lt b
  have a0 : bitlen a ≠ 0 := fun e => by rw [bitlen_zero] at e; omega
  have b0 : bitlen b ≠ 0 := fun e => by rw [bitlen_zero] at e; omega
  generalize bitlen a = A at *
  generalize bitlen b = B at *
  constructor
  · rw [le_norm (K := B) (by decide) (by omega), show (q - 1 + (B : Int)).toNat = A - 1 by omega]
    have h1 := Nat.mul_le_mul (Nat.le_of_lt b2) a1
    rwa [Nat.mul_comm a]
  · rw [lt_norm (K := B - 1) (by decide) (by omega), show (q + 1 + ((B - 1 : Nat) : Int)).toNat = A by omega, Nat.mul_comm b]
    exact Nat.lt_of_lt_of_le (Nat.mul_lt_mul_of_pos_right a2 (Nat.two_pow_pos _)) (Nat.mul_le_mul_left _ b1)
/-- The logarithm of a fraction, as both programs find it. -/
theorem log2_is {a b : Nat} (ha : 0 < a) (hb : 0 < b) {q : Int} (hq : q = (bitlen a : Int) - (bitlen b : Int)) : IsLog 2 a b (if a * dnP 2 q < b * upP 2 q then q - 1 else q) := by
  obtain ⟨h1, h2⟩ := log2_bounds ha hb hq
  split
  · rename_i h
    exact ⟨h1, by rwa [show q - 1 + 1 = q by omega]⟩
  · rename_i h
    exact ⟨by omega, h2⟩
theorem flog2 {a b : Nat} (ha : 0 < a) (hb : 0 < b) {q : Int} (hq : q = (bitlen a : Int) - (bitlen b : Int)) : flog 2 a b = if a * dnP 2 q < b * upP 2 q then q - 1 else q := flog_eq (by decide) (log2_is ha hb hq)
theorem flog2_is {a b : Nat} (ha : 0 < a) (hb : 0 < b) : IsLog 2 a b (flog 2 a b) := by
  rw [flog2 ha hb rfl]
  exact log2_is ha hb rfl
theorem flog2_bounds {a b : Nat} (ha : 0 < a) (hb : 0 < b) : (bitlen a : Int) - (bitlen b : Int) - 1 ≤ flog 2 a b ∧ flog 2 a b ≤ (bitlen a : Int) - (bitlen b : Int) := by
  rw [flog2 ha hb rfl]
  split <;> omega
theorem flog_shift {β a b : Nat} (hβ : 2 ≤ β) {L : Int} (h : IsLog β a b L) (x : Int) : flog β (a * upP β x) (b * dnP β x) = L + x := flog_eq hβ ((isLog_shift (by omega) x).2 h)

/-! ### A fraction as a whole number -/
/-- Whether a direction takes the greater of two neighbours. -/
def upB (d : Int) (s odd : Bool) (half : Int) : Bool :=
  cond (d == 0) (cond (decide (half > 0)) true (cond (half == 0) odd false)) (cond (d == 1) (decide (half ≥ 0)) (cond (d == 3) (!s) (cond (d == 4) s false)))
/-- The whole number that a direction takes for x / y. -/
def rndF (d : Int) (s : Bool) (x y : Nat) : Nat := cond (x % y == 0) (x / y) (cond (upB d s (x / y % 2 == 1) (cmpI (2 * (x % y)) y)) (x / y + 1) (x / y))
def exF (x y : Nat) : Bool := x % y == 0
theorem cmpI_mul {a b k : Nat} (hk : 0 < k) : cmpI (a * k) (b * k) = cmpI a b := by
  unfold cmpI
  simp only [mlt hk]
theorem rnd_mul (d : Int) (s : Bool) {x y k : Nat} (hk : 0 < k) : rndF d s (x * k) (y * k) = rndF d s x y ∧ exF (x * k) (y * k) = exF x y := by
  have h1 : x * k % (y * k) = x % y * k := Nat.mul_mod_mul_right _ _ _
  have h2 : x * k / (y * k) = x / y := Nat.mul_div_mul_right _ _ hk
  have h3 : (x % y * k == 0) = (x % y == 0) := by
    rcases Nat.eq_zero_or_pos (x % y) with h | h
    · rw [h, Nat.zero_mul]
    · have := Nat.mul_pos h hk
      rw [beq_eq_false_iff_ne.2 (show x % y * k ≠ 0 by omega), beq_eq_false_iff_ne.2 (show x % y ≠ 0 by omega)]
  unfold rndF exF
  rw [h1, h2, h3, ← Nat.mul_assoc, cmpI_mul hk]
  exact ⟨rfl, rfl⟩
theorem rnd_ratio (d : Int) (s : Bool) {x y x' y' : Nat} (hy : 0 < y) (hy' : 0 < y') (h : x * y' = x' * y) : rndF d s x y = rndF d s x' y' ∧ exF x y = exF x' y' := by
  have h1 := rnd_mul d s (x := x) (y := y) hy'
  have h2 := rnd_mul d s (x := x') (y := y') hy
  rw [h, Nat.mul_comm y y'] at h1
  exact ⟨h1.1.symm.trans h2.1, h1.2.symm.trans h2.2⟩
theorem rnd_bounds (d : Int) (s : Bool) (x y : Nat) : x / y ≤ rndF d s x y ∧ rndF d s x y ≤ x / y + 1 ∧ (exF x y = true → rndF d s x y = x / y) := by
  unfold rndF exF
  cases (x % y == 0)
  · rw [cond_false]
    cases upB d s (x / y % 2 == 1) (cmpI (2 * (x % y)) y)
    · rw [cond_false]; exact ⟨by omega, by omega, fun h => by cases h⟩
    · rw [cond_true]; exact ⟨by omega, by omega, fun h => by cases h⟩
  · rw [cond_true]; exact ⟨by omega, by omega, fun _ => rfl⟩
/-- The rest against a half, told in two ways. -/
theorem cmp_half {r y : Nat} (h : r ≤ y) : cmpI r (y - r) = cmpI (2 * r) y := by
  unfold cmpI
  have h1 : r < y - r ↔ 2 * r < y := by omega
  have h2 : y - r < r ↔ y < 2 * r := by omega
  simp only [h1, h2]
/-- Below a half of one. -/
theorem rnd_tiny (d : Int) (s : Bool) {x y : Nat} (hx : 0 < x) (h : 2 * x < y) : rndF d s x y = cond (upB d s false (-1)) 1 0 ∧ exF x y = false := by
  have h1 : x / y = 0 := Nat.div_eq_of_lt (by omega)
  have h2 : x % y = x := Nat.mod_eq_of_lt (by omega)
  unfold rndF exF
  rw [h1, h2, beq_eq_false_iff_ne.2 (show x ≠ 0 by omega), cond_false]
  have h3 : cmpI (2 * x) y = -1 := by unfold cmpI; rw [if_pos h]
  rw [h3]
  exact ⟨rfl, rfl⟩
end Go.Vm
