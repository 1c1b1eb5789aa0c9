/-
  Sums, differences and products of numbers of some width: what is left at the end. Plain lemmas: no statement is proved here.
-/
import Derived.Test.YtmjbikbakkbajaaCalJ
namespace Go.Proofs.Ytmjbikbakkbajaa.Vm
open Go Go.Vm

theorem add_end {K : Nat} {out : List Int} {A B c : Nat} (hR : inR .u64 out) (hl : out.length = K) (h : val out + 18446744073709551616 ^ K * c = A + B) : out = wordsN K (A + B) ∧ c = (A + B) / 18446744073709551616 ^ K := by
  have hlt := val_lt hR
  rw [hl] at hlt
  constructor
  · rw [← wordsN_mod]
    refine wordsN_eq hR hl ?_
    rw [← h, Nat.add_mul_mod_self_left, Nat.mod_eq_of_lt hlt]
  · rw [← h, Nat.add_mul_div_left _ _ (pow_pos64 K), Nat.div_eq_of_lt hlt, Nat.zero_add]
theorem sub_end {K : Nat} {out : List Int} {A B c : Nat} (hR : inR .u64 out) (hl : out.length = K) (hB : B < 18446744073709551616 ^ K) (hc : c ≤ 1) (h : val out + B = A + 18446744073709551616 ^ K * c) :
    out = wordsN K (A + (18446744073709551616 ^ K - B)) ∧ c = (if A < B then 1 else 0) := by
  have hlt := val_lt hR
  rw [hl] at hlt
  generalize hP : 18446744073709551616 ^ K = P at *
  have h01 : c = 0 ∨ c = 1 := by omega
  constructor
  · rw [← wordsN_mod, hP]
    refine wordsN_eq hR hl ?_
    rcases h01 with rfl | rfl
    · rw [Nat.mul_zero] at h
      have e : A + (P - B) = val out + P := by omega
      rw [e, Nat.add_mod_right, Nat.mod_eq_of_lt hlt]
    · rw [Nat.mul_one] at h
      have e : A + (P - B) = val out := by omega
      rw [e, Nat.mod_eq_of_lt hlt]
  · rcases h01 with rfl | rfl
    · rw [Nat.mul_zero] at h
      rw [if_neg (by omega)]
    · rw [Nat.mul_one] at h
      rw [if_pos (by omega)]
theorem getD_of_drop {out xs : List Int} {i : Nat} (h : out.drop i = xs.drop i) : out.getD i 0 = xs.getD i 0 := by
  have := congrArg (fun l => l.getD 0 0) h
  simpa [List.getD_eq_getElem?_getD, List.getElem?_drop] using this
theorem mul_carry {x y c : Nat} (hx : x < 18446744073709551616) (hy : y < 18446744073709551616) (hc : c < 18446744073709551616) :
    (((x : Int) * (y : Int) % 18446744073709551616 + (c : Int) + 0) % 18446744073709551616 = (((x * y + c) % 18446744073709551616 : Nat) : Int)) ∧
    IntKind.u64.wrap ((x : Int) * (y : Int) / 18446744073709551616 + ((x : Int) * (y : Int) % 18446744073709551616 + (c : Int) + 0) / 18446744073709551616) = (((x * y + c) / 18446744073709551616 : Nat) : Int) ∧ (x * y + c) / 18446744073709551616 < 18446744073709551616 := by
  have hp := word_mul_le hx hy
  rw [← Int.natCast_mul]
  generalize x * y = p at *
  refine ⟨by omega, ?_, by omega⟩
  rw [u64_wrap (by omega) (by omega)]
  omega
theorem top_word {xs : List Int} {j : Nat} (hx : inR .u64 xs) (hj : j < xs.length) (he : val xs = val (xs.take (j + 1))) (h0 : xs.getD j 0 ≠ 0) :
    val xs ≠ 0 ∧ bitlen (val xs) = 64 * j + bitlen (xs.getD j 0).toNat ∧ bitlen (xs.getD j 0).toNat ≤ 64 := by
  have ax := inR_at hx j
  have hw : wlen (val xs) = j + 1 := by
    rw [he]
    have := wlen_top (inR_take hx (j + 1)) (by
      have : (xs.take (j + 1)).length - 1 = j := by simp; omega
      rw [this]
      simpa [List.getElem?_take] using h0)
    rw [this]
    simp
    omega
  have hne : val xs ≠ 0 := fun e => by rw [e, wlen_zero] at hw; omega
  have hb := bitlen_words hne
  have hg : xs.getD j 0 = ((val xs / 18446744073709551616 ^ j : Nat) : Int) := by
    rw [getD_val hx, Nat.mod_eq_of_lt]
    rw [Nat.div_lt_iff_lt_mul (pow_pos64 j), Nat.mul_comm, ← Nat.pow_succ]
    have := lt_wlen (val xs)
    rwa [hw] at this
  refine ⟨hne, ?_, bitlen_le64 (by omega)⟩
  rw [hb, hw, hg]
  rfl
theorem bit_word {xs : List Int} (hx : inR .u64 xs) (n : Nat) : Go.bits .and .u64 (shrI .u64 (xs.getD (n / 64) 0) ((n % 64 : Nat) : Int)) 1 = ((val xs / 2 ^ n % 2 : Nat) : Int) := by
  rw [getD_val hx, shr_nat, Nat.min_eq_left (by omega)]
  have h1 : val xs / 18446744073709551616 ^ (n / 64) % 18446744073709551616 / 2 ^ (n % 64) < 18446744073709551616 := Nat.lt_of_le_of_lt (Nat.div_le_self _ _) (Nat.mod_lt _ (by decide))
  have h2 := u64_and_nat _ 1 h1 (by decide)
  have h3 : ((1 : Nat) : Int) = (1 : Int) := rfl
  rw [h3] at h2
  rw [h2, Nat.and_one_is_mod]
  congr 1
  have hsp := pow64_split (r := n % 64) (by omega)
  have e1 : val xs / 2 ^ n = val xs / 18446744073709551616 ^ (n / 64) / 2 ^ (n % 64) := by rw [Nat.div_div_eq_div_mul, ← two_pow_split]
  rw [e1]
  generalize val xs / 18446744073709551616 ^ (n / 64) = Q
  have hr : n % 64 < 64 := Nat.mod_lt _ (by decide)
  generalize n % 64 = r at *
  have h2 : Q = Q % 18446744073709551616 + 2 ^ r * (2 ^ (64 - r) * (Q / 18446744073709551616)) := by rw [← Nat.mul_assoc, ← hsp, Nat.mod_add_div]
  have h3 : Q / 2 ^ r = (Q % 18446744073709551616 + 2 ^ r * (2 ^ (64 - r) * (Q / 18446744073709551616))) / 2 ^ r := congrArg (· / 2 ^ r) h2
  have h4 : 2 ^ (64 - r) = 2 * 2 ^ (63 - r) := by rw [← Nat.pow_succ', show (63 - r).succ = 64 - r from by omega]
  rw [h3, Nat.add_mul_div_left _ _ (Nat.two_pow_pos r), h4, Nat.mul_assoc, Nat.add_mul_mod_self_left]
end Go.Proofs.Ytmjbikbakkbajaa.Vm
