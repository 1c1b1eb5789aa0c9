/-
  Interchange formats: patterns out of data. No statement is proved here.
-/
import Derived.Test.YtcglfmldodhakaaCalB3
namespace Go.Proofs.Ytcglfmldodhakaa.Vm
open Go Go.Vm
noncomputable section
set_option linter.unusedVariables false

/-! ### Pack -/
def isN (n c : Int) (q : Bool) (x : Int) (F : Nat) : Bool := isT (precI n) (eminI n) (emaxI n) (payI n) c q x F
theorem isN_iff {n : Int} (h : 1 ≤ n ∧ n ≤ 6) {c x : Int} {q : Bool} {F : Nat} : isN n c q x F = true ↔
    (c = 1 ∧ q = false ∧ eminI n ≤ x ∧ x ≤ emaxI n ∧ (bitlen F = mN n + 1 ∨ (bitlen F < mN n + 1 ∧ x = eminI n))) ∨ (c = 2 ∧ q = false ∧ F = 0 ∧ x = 0) ∨ (c = 3 ∧ x = 0 ∧ bitlen F ≤ mN n - 1 ∧ (0 < bitlen F ∨ q = false)) := by
  obtain ⟨f1, f2, f3, f4, f5, f6, f7, f8, f9, f10, f11, f12⟩ := fmt h
  have b0 : bitlen F = 0 ↔ F = 0 := by
    constructor
    · intro hb
      have := (bitlen_le_iff F 0).1 (by omega)
      omega
    · intro hb
      rw [hb]; rfl
  unfold isN isT
  rw [f2, f5]
  by_cases c1 : c = 1
  · subst c1
    rw [beq_self_eq_true, cond_true]
    by_cases hA : bitlen F = mN n + 1
    · rw [show ((((bitlen F : Nat) : Int) == (mN n : Int) + 1) = true) from beq_iff_eq.2 (by omega), cond_true]
      simp only [Bool.cond_false_right, Bool.and_eq_true, decide_eq_true_eq, Bool.not_eq_true']
      constructor
      · rintro ⟨h1, h2, h3, _⟩
        exact .inl ⟨trivial, h1, h2, h3, .inl hA⟩
      · rintro (⟨_, h1, h2, h3, _⟩ | h | h)
        · exact ⟨h1, h2, h3, trivial⟩
        · omega
        · omega
    · rw [show ((((bitlen F : Nat) : Int) == (mN n : Int) + 1) = false) from beq_eq_false_iff_ne.2 (by omega), cond_false]
      simp only [Bool.cond_false_right, Bool.and_eq_true, decide_eq_true_eq, Bool.not_eq_true', beq_iff_eq]
      constructor
      · rintro ⟨h1, h2, h3, h4, h5⟩
        exact .inl ⟨trivial, h1, h2, h3, .inr ⟨by omega, h5⟩⟩
      · rintro (⟨_, h1, h2, h3, h4⟩ | h | h)
        · exact ⟨h1, h2, h3, by omega, by omega⟩
        · omega
        · omega
  · rw [beq_eq_false_iff_ne.2 c1, cond_false]
    by_cases c2 : c = 2
    · subst c2
      rw [beq_self_eq_true, cond_true]
      simp only [Bool.cond_false_right, Bool.and_eq_true, Bool.not_eq_true', beq_iff_eq]
      constructor
      · rintro ⟨h1, h2, h3⟩
        exact .inr (.inl ⟨trivial, h1, b0.1 (by omega), h3⟩)
      · rintro (h | ⟨_, h1, h2, h3⟩ | h)
        · omega
        · exact ⟨h1, by have := b0.2 h2; omega, h3⟩
        · omega
    · rw [beq_eq_false_iff_ne.2 c2, cond_false]
      by_cases c3 : c = 3
      · subst c3
        rw [beq_self_eq_true, cond_true]
        by_cases hb : 0 < bitlen F
        · rw [show decide (((bitlen F : Nat) : Int) > 0) = true from decide_eq_true (by omega), cond_true]
          simp only [Bool.cond_false_right, Bool.and_eq_true, decide_eq_true_eq, beq_iff_eq]
          constructor
          · rintro ⟨h1, h2, _⟩
            exact .inr (.inr ⟨trivial, h1, by omega, .inl hb⟩)
          · rintro (h | h | ⟨_, h1, h2, _⟩)
            · omega
            · omega
            · exact ⟨h1, by omega, trivial⟩
        · rw [show decide (((bitlen F : Nat) : Int) > 0) = false from decide_eq_false (by omega), cond_false]
          simp only [Bool.cond_false_right, Bool.and_eq_true, decide_eq_true_eq, beq_iff_eq, Bool.not_eq_true']
          constructor
          · rintro ⟨h1, h2, h3⟩
            exact .inr (.inr ⟨trivial, h1, by omega, .inr h3⟩)
          · rintro (h | h | ⟨_, h1, h2, h3⟩)
            · omega
            · omega
            · exact ⟨h1, by omega, h3.resolve_left hb⟩
      · rw [beq_eq_false_iff_ne.2 c3, cond_false]
        constructor
        · intro h; cases h
        · rintro (h | h | h) <;> omega
def biasN (m e : Nat) (emin c x : Int) (F : Nat) : Nat := cond (c == 1) (cond (bitlen F == m + 1) (x - emin + 1).toNat 0) (2 ^ e - 1)
def tailN (m : Nat) (c : Int) (q : Bool) (F : Nat) : Nat := cond (c == 3) (cond q (F % 2 ^ m) (F % 2 ^ m + 2 ^ (m - 1))) (F % 2 ^ m)
def signN (m e : Nat) (s : Bool) : Nat := cond s (2 ^ (m + e)) 0
/-- The pattern of a datum. -/
def packN (m e : Nat) (emin c : Int) (s q : Bool) (x : Int) (F : Nat) : Nat := tailN m c q F + biasN m e emin c x F * 2 ^ m + signN m e s
def bPackC : FnC := fun ds κ => match ds with
  | [.p (.int .i64 n), .g [.int .i64 c, .bool s, .bool q, .int .i64 x, .int .u64 w0, .int .u64 w1, .int .u64 w2, .int .u64 w3]] =>
    cond (decide (1 ≤ n ∧ n ≤ 6)) (cond (isN n c q x (val [w0, w1, w2, w3])) (κ [(.mine, .r .u64 4 (wordsN 4 (packN (mN n) (eN n) (eminI n) c s q x (val [w0, w1, w2, w3])))), (.mine, .p (.int .i64 0))]) (κ [(.mine, .r .u64 4 (wordsN 4 0)), (.mine, .p (.int .i64 3))])) (κ [(.mine, .r .u64 4 (wordsN 4 0)), (.mine, .p (.int .i64 1))])
  | _ => none
theorem or_add {T m k : Nat} (h : T < 2 ^ m) : T ||| k * 2 ^ m = T + k * 2 ^ m := by
  rw [Nat.or_comm, Nat.mul_comm, ← Nat.two_pow_add_eq_or_of_lt h, Nat.add_comm]
theorem add_lt_pow {T m e k : Nat} (h : T < 2 ^ m) (hk : k < 2 ^ e) : T + k * 2 ^ m < 2 ^ (m + e) := by
  have : (k + 1) * 2 ^ m ≤ 2 ^ e * 2 ^ m := Nat.mul_le_mul_right _ hk
  rw [Nat.add_comm m e, Nat.pow_add]
  rw [Nat.add_mul, Nat.one_mul] at this
  omega
theorem emax_le {n : Int} (h : 1 ≤ n ∧ n ≤ 6) : 0 ≤ emaxI n ∧ emaxI n ≤ 100000 := by
  rcases (by omega : n = 1 ∨ n = 2 ∨ n = 3 ∨ n = 4 ∨ n = 5 ∨ n = 6) with rfl | rfl | rfl | rfl | rfl | rfl <;> decide
theorem two_half {k : Nat} (h : 1 ≤ k) : 2 ^ k = 2 * 2 ^ (k - 1) := by
  obtain ⟨j, rfl⟩ : ∃ j, k = j + 1 := ⟨k - 1, by omega⟩
  rw [Nat.add_sub_cancel, Nat.pow_succ, Nat.mul_comm]
theorem bias_lt {n : Int} (h : 1 ≤ n ∧ n ≤ 6) {c x : Int} {q : Bool} {F : Nat} (hi : isN n c q x F = true) : biasN (mN n) (eN n) (eminI n) c x F < 2 ^ eN n := by
  obtain ⟨f1, f2, f3, f4, f5, f6, f7, f8, f9, f10, f11, f12⟩ := fmt h
  have h2 := two_half (k := eN n) (by omega)
  have h3 : 0 < 2 ^ (eN n - 1) := Nat.two_pow_pos _
  unfold biasN
  rcases (isN_iff h).1 hi with ⟨rfl, _, g1, g2, g3⟩ | ⟨rfl, _⟩ | ⟨rfl, _⟩
  · rw [beq_self_eq_true, cond_true]
    generalize 2 ^ (eN n - 1) = P at *
    cases (bitlen F == mN n + 1)
    · rw [cond_false]; omega
    · rw [cond_true]; omega
  · rw [show ((2 : Int) == 1) = false from rfl, cond_false]; omega
  · rw [show ((3 : Int) == 1) = false from rfl, cond_false]; omega
theorem tail_lt {n : Int} (h : 1 ≤ n ∧ n ≤ 6) {c x : Int} {q : Bool} {F : Nat} (hi : isN n c q x F = true) : tailN (mN n) c q F < 2 ^ mN n ∧ (c = 3 → F < 2 ^ (mN n - 1)) := by
  obtain ⟨f1, f2, f3, f4, f5, f6, f7, f8, f9, f10, f11, f12⟩ := fmt h
  have h2 := two_half (k := mN n) (by omega)
  have h3 : 0 < 2 ^ (mN n - 1) := Nat.two_pow_pos _
  have h4 : F % 2 ^ mN n < 2 ^ mN n := Nat.mod_lt _ (Nat.two_pow_pos _)
  unfold tailN
  rcases (isN_iff h).1 hi with ⟨rfl, _⟩ | ⟨rfl, _⟩ | ⟨rfl, _, g1, _⟩
  · exact ⟨h4, fun h => by omega⟩
  · exact ⟨h4, fun h => by omega⟩
  · have g2 := (bitlen_le_iff F (mN n - 1)).1 g1
    refine ⟨?_, fun _ => g2⟩
    rw [beq_self_eq_true, cond_true]
    cases q
    · rw [cond_false, Nat.mod_eq_of_lt (by omega)]; omega
    · exact h4
end
end Go.Proofs.Ytcglfmldodhakaa.Vm
