/-
  Shifts and masks of whole numbers; how many bits. Plain lemmas: no statement is proved here.
-/
import Derived.Test.YtmjbikbakkbajaaCalA
import Derived.Lib.Mul64
namespace Go.Vm

theorem shr_nat (a k : Nat) : shrI .u64 (a : Int) (k : Int) = ((a / 2 ^ (min k 64) : Nat) : Int) := by
  unfold shrI
  rw [Int.toNat_natCast, show IntKind.u64.bits = 64 from rfl]
  rw [Int.fdiv_eq_ediv_of_nonneg _ (Int.le_of_lt (Int.pow_pos (by decide)))]
  simp
theorem shl_nat (a k : Nat) : shlI .u64 (a : Int) (k : Int) = ((a * 2 ^ (min k 64) % 18446744073709551616 : Nat) : Int) := by
  unfold shlI
  rw [Int.toNat_natCast, show IntKind.u64.bits = 64 from rfl, u64_wrap_mod]
  simp
theorem mask32 (a : Nat) (ha : a < 18446744073709551616) : Go.bits .and .u64 (a : Int) 4294967295 = ((a % 4294967296 : Nat) : Int) := by
  have h := u64_and_nat a 4294967295 ha (by omega)
  have e : a &&& 4294967295 = a % 4294967296 := Nat.and_two_pow_sub_one_eq_mod a 32
  rw [e] at h
  exact h
theorem wrapN {a : Nat} (ha : a < 18446744073709551616) : IntKind.u64.wrap (a : Int) = (a : Int) := u64_wrap (by omega) (by omega)
theorem wrapM (a : Nat) : IntKind.u64.wrap (a : Int) = ((a % 18446744073709551616 : Nat) : Int) := by rw [u64_wrap_mod]; omega

theorem bitlen_le_iff (n k : Nat) : bitlen n ≤ k ↔ n < 2 ^ k := (lt_two_pow_iff n k).symm
theorem bitlen_shift (n k : Nat) : bitlen (n / 2 ^ k) = bitlen n - k := by
  have h : ∀ j, bitlen (n / 2 ^ k) ≤ j ↔ bitlen n - k ≤ j := by
    intro j
    rw [bitlen_le_iff, Nat.div_lt_iff_lt_mul (Nat.two_pow_pos k), ← Nat.pow_add, ← bitlen_le_iff]
    omega
  exact Nat.le_antisymm ((h _).2 (Nat.le_refl _)) ((h _).1 (Nat.le_refl _))
theorem bitlen_ge {n k : Nat} (h : 2 ^ k ≤ n) : k < bitlen n := by
  rcases Nat.lt_or_ge k (bitlen n) with h1 | h1
  · exact h1
  · have := (bitlen_le_iff n k).1 h1; omega
theorem bitlen_zero {n : Nat} : bitlen n = 0 ↔ n = 0 := by
  unfold bitlen
  split <;> simp_all
theorem bitlen_top {n : Nat} (h : n ≠ 0) : 2 ^ (bitlen n - 1) ≤ n := by
  rcases Nat.lt_or_ge n (2 ^ (bitlen n - 1)) with h1 | h1
  · have := (bitlen_le_iff n _).2 h1
    have : bitlen n ≠ 0 := fun e => h (bitlen_zero.1 e)
    omega
  · exact h1
theorem bitlen_lt (n : Nat) : n < 2 ^ bitlen n := (bitlen_le_iff n _).1 (Nat.le_refl _)
theorem bitlen_le64 {n : Nat} (h : n < 18446744073709551616) : bitlen n ≤ 64 := (bitlen_le_iff n 64).2 h

/-- A product, a word and a carry added. -/
def mulLo (x y o c : Int) : Int := ((x * y % 18446744073709551616 + o + 0) % 18446744073709551616 + c + 0) % 18446744073709551616
def mulHi (x y o c : Int) : Int := IntKind.u64.wrap (IntKind.u64.wrap (x * y / 18446744073709551616 + (x * y % 18446744073709551616 + o + 0) / 18446744073709551616) + ((x * y % 18446744073709551616 + o + 0) % 18446744073709551616 + c + 0) / 18446744073709551616)
theorem word_mul_le {x y : Nat} (hx : x < 18446744073709551616) (hy : y < 18446744073709551616) : x * y ≤ 340282366920938463426481119284349108225 := Nat.mul_le_mul (show x ≤ 18446744073709551615 by omega) (show y ≤ 18446744073709551615 by omega)
theorem mul_parts {x y o c : Nat} (hx : x < 18446744073709551616) (hy : y < 18446744073709551616) (ho : o < 18446744073709551616) (hc : c < 18446744073709551616) :
    mulLo x y o c = (((x * y + o + c) % 18446744073709551616 : Nat) : Int) ∧ mulHi x y o c = (((x * y + o + c) / 18446744073709551616 : Nat) : Int) ∧ (x * y + o + c) / 18446744073709551616 < 18446744073709551616 := by
  have hp := word_mul_le hx hy
  unfold mulLo mulHi
  rw [← Int.natCast_mul]
  generalize x * y = p at *
  refine ⟨by omega, ?_, by omega⟩
  rw [u64_wrap (x := (p : Int) / 18446744073709551616 + _) (by omega) (by omega), u64_wrap (by omega) (by omega)]
  omega
end Go.Vm
