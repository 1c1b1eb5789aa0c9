/-
  Coefficients as declets, plain: what packing and unpacking compute. No statement is proved here.
-/
import Derived.Test.YthilpmchdeolnaaCalDC
namespace Go.Proofs.Ythilpmchdeolnaa.Vm
open Go Go.Vm
noncomputable section
set_option linter.unusedVariables false
theorem encs_lt : ((List.range 1000).all fun i => Nat.blt (encP i) 1024) = true := by kernel_rfl
theorem decs_lt : ((List.range 1024).all fun i => Nat.blt (decP i) 1000) = true := by kernel_rfl
theorem enc_lt {i : Nat} (h : i < 1000) : encP i < 1024 := by simpa using List.all_eq_true.mp encs_lt i (List.mem_range.mpr h)
theorem dec_lt {i : Nat} (h : i < 1024) : decP i < 1000 := by simpa using List.all_eq_true.mp decs_lt i (List.mem_range.mpr h)
/-- The first k digits (base 1000) of C as declets. -/
def pkD : Nat → Nat → Nat
  | 0, _ => 0
  | k + 1, C => pkD k C + encP (C / 1000 ^ k % 1000) * 1024 ^ k
/-- The highest k of n declets of B as a number. -/
def upH (n B : Nat) : Nat → Nat
  | 0 => 0
  | k + 1 => upH n B k * 1000 + decP (B / 1024 ^ (n - 1 - k) % 1024)
def upD (n B : Nat) : Nat := upH n B n
theorem pkD_lt (C : Nat) : ∀ k, pkD k C < 1024 ^ k
  | 0 => by rw [Nat.pow_zero]; exact Nat.one_pos
  | k + 1 => by
    have h1 := pkD_lt C k
    have h2 : encP (C / 1000 ^ k % 1000) + 1 ≤ 1024 := enc_lt (Nat.mod_lt _ (by decide))
    have h3 := Nat.mul_le_mul_right (1024 ^ k) h2
    rw [Nat.add_mul, Nat.one_mul] at h3
    show pkD k C + encP (C / 1000 ^ k % 1000) * 1024 ^ k < _
    rw [Nat.pow_succ']
    omega
theorem upH_lt (n B : Nat) : ∀ k, upH n B k < 1000 ^ k
  | 0 => by rw [Nat.pow_zero]; exact Nat.one_pos
  | k + 1 => by
    have h1 := upH_lt n B k
    have h2 : decP (B / 1024 ^ (n - 1 - k) % 1024) < 1000 := dec_lt (Nat.mod_lt _ (by decide))
    show upH n B k * 1000 + decP _ < _
    rw [Nat.pow_succ]
    omega
theorem pkD_dig (C i : Nat) : ∀ k, i < k → pkD k C / 1024 ^ i % 1024 = encP (C / 1000 ^ i % 1000)
  | 0, h => by omega
  | k + 1, h => by
    show (pkD k C + encP (C / 1000 ^ k % 1000) * 1024 ^ k) / 1024 ^ i % 1024 = _
    have hp : 0 < 1024 ^ i := Nat.pow_pos (by decide)
    by_cases hi : i = k
    · subst hi
      rw [Nat.add_mul_div_right _ _ hp, Nat.div_eq_of_lt (pkD_lt C i), Nat.zero_add, Nat.mod_eq_of_lt (enc_lt (Nat.mod_lt _ (by decide)))]
    · obtain ⟨j, rfl⟩ : ∃ j, k = i + 1 + j := ⟨k - (i + 1), by omega⟩
      have e : encP (C / 1000 ^ (i + 1 + j) % 1000) * 1024 ^ (i + 1 + j) = (encP (C / 1000 ^ (i + 1 + j) % 1000) * 1024 ^ j) * 1024 * 1024 ^ i := by
        generalize encP (C / 1000 ^ (i + 1 + j) % 1000) = E
        rw [Nat.pow_add, Nat.pow_succ, Nat.mul_comm (1024 ^ i * 1024) (1024 ^ j), Nat.mul_comm (1024 ^ i) 1024]
        simp only [Nat.mul_assoc]
      rw [e, Nat.add_mul_div_right _ _ hp, Nat.add_mul_mod_self_right]
      exact pkD_dig C i _ (by omega)
theorem up_pk {n C : Nat} (hC : C < 1000 ^ n) : ∀ k, k ≤ n → upH n (pkD n C) k = C / 1000 ^ (n - k)
  | 0, _ => by
    rw [Nat.sub_zero, Nat.div_eq_of_lt hC]
    rfl
  | k + 1, h => by
    show upH n (pkD n C) k * 1000 + decP (pkD n C / 1024 ^ (n - 1 - k) % 1024) = _
    rw [up_pk hC k (by omega), pkD_dig C _ n (by omega), back (Nat.mod_lt _ (by decide)), show n - k = n - 1 - k + 1 by omega, show n - (k + 1) = n - 1 - k by omega, Nat.pow_succ, ← Nat.div_div_eq_div_mul]
    exact Nat.div_add_mod' _ _
theorem upD_pkD {n C : Nat} (hC : C < 1000 ^ n) : upD n (pkD n C) = C := by
  unfold upD
  rw [up_pk hC n (Nat.le_refl _), Nat.sub_self, Nat.pow_zero, Nat.div_one]
theorem pkD_more {n C : Nat} (hC : C < 1000 ^ n) : pkD (n + 1) C = pkD n C := by
  show pkD n C + encP (C / 1000 ^ n % 1000) * 1024 ^ n = _
  rw [Nat.div_eq_of_lt hC, Nat.zero_mod, show encP 0 = 0 from rfl, Nat.zero_mul, Nat.add_zero]
theorem k1024 {n : Nat} (h : n ≤ 11) : 1024 ^ n ≤ 2 ^ 110 := by
  have : (1024 : Nat) ^ n = 2 ^ (10 * n) := by rw [Nat.pow_mul]
  rw [this]
  exact Nat.pow_le_pow_right (by decide) (by omega)
theorem k1000 {n : Nat} (h : n ≤ 11) : 1000 ^ n ≤ 2 ^ 110 := Nat.le_trans (Nat.pow_le_pow_left (by decide) n) (k1024 h)
theorem p1024 (n : Nat) : (2 : Nat) ^ (10 * n) = 1024 ^ n := by rw [Nat.pow_mul]
end
end Go.Proofs.Ythilpmchdeolnaa.Vm
