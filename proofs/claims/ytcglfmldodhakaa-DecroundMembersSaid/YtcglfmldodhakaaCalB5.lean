/-
  Interchange formats: packing and unpacking are inverse. Plain laws. No statement is proved here.
-/
import Derived.Test.YtcglfmldodhakaaCalB4
namespace Go.Proofs.Ytcglfmldodhakaa.Vm
open Go Go.Vm

theorem field_lo {t k s m e : Nat} (ht : t < 2 ^ m) : (t + k * 2 ^ m + s * 2 ^ (m + e)) % 2 ^ m = t := by
  rw [Nat.pow_add, show t + k * 2 ^ m + s * (2 ^ m * 2 ^ e) = t + 2 ^ m * (k + s * 2 ^ e) by rw [Nat.mul_add, Nat.mul_comm k, Nat.mul_left_comm s, Nat.add_assoc], Nat.add_mul_mod_self_left, Nat.mod_eq_of_lt ht]
theorem field_div {t k s m e : Nat} (ht : t < 2 ^ m) : (t + k * 2 ^ m + s * 2 ^ (m + e)) / 2 ^ m = k + s * 2 ^ e := by
  rw [Nat.pow_add, show t + k * 2 ^ m + s * (2 ^ m * 2 ^ e) = t + 2 ^ m * (k + s * 2 ^ e) by rw [Nat.mul_add, Nat.mul_comm k, Nat.mul_left_comm s, Nat.add_assoc], Nat.add_mul_div_left _ _ (Nat.two_pow_pos _), Nat.div_eq_of_lt ht, Nat.zero_add]
theorem field_mid {t k s m e : Nat} (ht : t < 2 ^ m) (hk : k < 2 ^ e) : (t + k * 2 ^ m + s * 2 ^ (m + e)) / 2 ^ m % 2 ^ e = k := by
  rw [field_div ht, Nat.mul_comm s, Nat.add_mul_mod_self_left, Nat.mod_eq_of_lt hk]
theorem field_hi {t k s m e : Nat} (ht : t < 2 ^ m) (hk : k < 2 ^ e) : (t + k * 2 ^ m + s * 2 ^ (m + e)) / 2 ^ (m + e) = s := by
  have h := field_div (s := s) (e := e) (k := k) ht
  rw [Nat.pow_add, ← Nat.div_div_eq_div_mul, ← Nat.pow_add, h, Nat.mul_comm s, Nat.add_mul_div_left _ _ (Nat.two_pow_pos _), Nat.div_eq_of_lt hk, Nat.zero_add]
theorem field_all {B m e : Nat} (h : B < 2 ^ (m + e + 1)) : B = B % 2 ^ m + (B / 2 ^ m % 2 ^ e) * 2 ^ m + (B / 2 ^ (m + e) % 2) * 2 ^ (m + e) := by
  have h1 : B / 2 ^ (m + e) < 2 := by
    rw [Nat.div_lt_iff_lt_mul (Nat.two_pow_pos _)]
    rw [Nat.pow_succ] at h
    omega
  rw [Nat.mod_eq_of_lt h1]
  have h2 := Nat.div_add_mod B (2 ^ m)
  have h3 := Nat.div_add_mod (B / 2 ^ m) (2 ^ e)
  rw [Nat.pow_add, ← Nat.div_div_eq_div_mul]
  generalize B / 2 ^ m / 2 ^ e = z at *
  generalize B / 2 ^ m % 2 ^ e = y at *
  generalize B % 2 ^ m = x at *
  generalize B / 2 ^ m = w at *
  subst h2
  subst h3
  rw [Nat.mul_add, Nat.mul_comm y, Nat.mul_left_comm z, Nat.mul_comm z]
  omega
theorem top_bit {B m : Nat} (hm : 1 ≤ m) : B % 2 ^ m / 2 ^ (m - 1) = B / 2 ^ (m - 1) % 2 := by
  have h := two_half hm
  rw [h, Nat.mul_comm 2, Nat.mod_mul_right_div_self]
theorem low_bits {B m : Nat} (hm : 1 ≤ m) : B % 2 ^ m = B % 2 ^ m % 2 ^ (m - 1) + 2 ^ (m - 1) * (B / 2 ^ (m - 1) % 2) := by
  rw [← top_bit hm]
  exact (Nat.mod_add_div _ _).symm
theorem bitlen_eq {a k : Nat} (h1 : 2 ^ k ≤ a) (h2 : a < 2 ^ (k + 1)) : bitlen a = k + 1 := by
  have := bitlen_ge h1
  have := (bitlen_le_iff a (k + 1)).2 h2
  omega
theorem bitlen_eq_iff {a k : Nat} : bitlen a = k + 1 ↔ 2 ^ k ≤ a ∧ a < 2 ^ (k + 1) := by
  constructor
  · intro h
    refine ⟨?_, (bitlen_le_iff a (k + 1)).1 (by omega)⟩
    rcases Nat.lt_or_ge a (2 ^ k) with h1 | h1
    · have := (bitlen_le_iff a k).2 h1
      omega
    · exact h1
  · rintro ⟨h1, h2⟩
    exact bitlen_eq h1 h2

/-- What a pattern holds is a datum of its format. -/
theorem is_unpack {n : Int} (h : 1 ≤ n ∧ n ≤ 6) (B : Nat) : isN n (uC (mN n) (eN n) B) (uQ (mN n) (eN n) B) (uE (mN n) (eN n) (eminI n) B) (uF (mN n) (eN n) B) = true := by
  obtain ⟨f1, f2, f3, f4, f5, f6, f7, f8, f9, f10, f11, f12⟩ := fmt h
  rw [isN_iff h, f6, f7]
  generalize mN n = m at *
  generalize eN n = e at *
  have p1 : uT m B < 2 ^ m := Nat.mod_lt _ (Nat.two_pow_pos _)
  have p2 : uX m e B < 2 ^ e := Nat.mod_lt _ (Nat.two_pow_pos _)
  have p3 := two_half (k := e) (by omega)
  have p4 := two_half (k := m) (by omega)
  have p5 : 0 < 2 ^ (m - 1) := Nat.two_pow_pos _
  have p6 : 2 ^ 4 ≤ 2 ^ (e - 1) := Nat.pow_le_pow_right (by decide) (by omega)
  unfold uC uQ uE uF
  by_cases hN : uX m e B < 2 ^ e - 1
  · have hN' : uN m e B = true := decide_eq_true hN
    rw [hN', cond_true, cond_true, cond_true, cond_true]
    by_cases h0 : 0 < uX m e B
    · rw [decide_eq_true h0, cond_true]
      refine .inl ⟨rfl, rfl, ?_, ?_, .inl ?_⟩
      · omega
      · generalize 2 ^ (e - 1) = P at *
        omega
      · refine bitlen_eq (by omega) ?_
        rw [Nat.pow_succ]; omega
    · rw [decide_eq_false h0, cond_false]
      refine .inl ⟨rfl, rfl, ?_, ?_, .inr ⟨?_, ?_⟩⟩
      · omega
      · generalize 2 ^ (e - 1) = P at *
        omega
      · have := (bitlen_le_iff (uT m B) m).2 p1
        omega
      · omega
  · have hN' : uN m e B = false := decide_eq_false hN
    rw [hN', cond_false, cond_false, cond_false, cond_false]
    by_cases h0 : uT m B = 0
    · rw [beq_iff_eq.2 h0, cond_true, cond_true, h0, Nat.zero_mod]
      exact .inr (.inl ⟨rfl, rfl, rfl, rfl⟩)
    · rw [beq_eq_false_iff_ne.2 h0, cond_false, cond_false]
      have l1 : uT m B % 2 ^ (m - 1) < 2 ^ (m - 1) := Nat.mod_lt _ p5
      refine .inr (.inr ⟨rfl, rfl, (bitlen_le_iff _ _).2 l1, ?_⟩)
      have l2 := low_bits (B := B) (m := m) (by omega)
      rcases Nat.mod_two_eq_zero_or_one (B / 2 ^ (m - 1)) with hq | hq
      · left
        rw [hq, Nat.mul_zero, Nat.add_zero] at l2
        have l3 : bitlen (uT m B % 2 ^ (m - 1)) ≠ 0 := fun hz => h0 (by
          have hz := bitlen_zero.1 hz
          unfold uT at hz ⊢
          rw [l2, hz])
        omega
      · right
        rw [hq]; rfl
/-- A pattern packs out of what it holds. -/
theorem pack_unpack {n : Int} (h : 1 ≤ n ∧ n ≤ 6) {B : Nat} (hB : B < 2 ^ (mN n + eN n + 1)) :
    packN (mN n) (eN n) (eminI n) (uC (mN n) (eN n) B) (uS (mN n) (eN n) B) (uQ (mN n) (eN n) B) (uE (mN n) (eN n) (eminI n) B) (uF (mN n) (eN n) B) = B := by
  obtain ⟨f1, f2, f3, f4, f5, f6, f7, f8, f9, f10, f11, f12⟩ := fmt h
  generalize eminI n = emin at *
  generalize mN n = m at *
  generalize eN n = e at *
  have p1 : uT m B < 2 ^ m := Nat.mod_lt _ (Nat.two_pow_pos _)
  have p2 : uX m e B < 2 ^ e := Nat.mod_lt _ (Nat.two_pow_pos _)
  have p4 := two_half (k := m) (by omega)
  have p5 : 0 < 2 ^ (m - 1) := Nat.two_pow_pos _
  have hs : signN m e (uS m e B) = (B / 2 ^ (m + e) % 2) * 2 ^ (m + e) := by
    unfold signN uS
    rcases Nat.mod_two_eq_zero_or_one (B / 2 ^ (m + e)) with hq | hq
    · rw [hq, Nat.zero_mul]; rfl
    · rw [hq, Nat.one_mul]; rfl
  conv => rhs; rw [field_all hB]
  unfold packN
  rw [hs]
  congr 1
  suffices hh : tailN m (uC m e B) (uQ m e B) (uF m e B) = uT m B ∧ biasN m e emin (uC m e B) (uE m e emin B) (uF m e B) = uX m e B by rw [hh.1, hh.2]; rfl
  unfold tailN biasN uC uQ uE uF
  by_cases hN : uX m e B < 2 ^ e - 1
  · have hN' : uN m e B = true := decide_eq_true hN
    rw [hN']
    simp only [cond_true]
    rw [show ((1 : Int) == 3) = false from rfl, show ((1 : Int) == 1) = true from rfl, cond_false, cond_true]
    by_cases h0 : 0 < uX m e B
    · rw [decide_eq_true h0, cond_true, bitlen_eq (a := uT m B + 2 ^ m) (k := m) (by omega) (by rw [Nat.pow_succ]; omega), beq_self_eq_true, cond_true, Nat.add_mod_right, Nat.mod_eq_of_lt p1]
      exact ⟨rfl, by omega⟩
    · have := (bitlen_le_iff (uT m B) m).2 p1
      rw [decide_eq_false h0, cond_false, show (bitlen (uT m B) == m + 1) = false from beq_eq_false_iff_ne.2 (by omega), cond_false, Nat.mod_eq_of_lt p1]
      exact ⟨rfl, by omega⟩
  · have hN' : uN m e B = false := decide_eq_false hN
    rw [hN']
    simp only [cond_false]
    by_cases h0 : uT m B = 0
    · rw [beq_iff_eq.2 h0, cond_true, cond_true, show ((2 : Int) == 3) = false from rfl, show ((2 : Int) == 1) = false from rfl, cond_false, cond_false, h0, Nat.zero_mod, Nat.zero_mod]
      exact ⟨rfl, by omega⟩
    · rw [beq_eq_false_iff_ne.2 h0, cond_false, cond_false, show ((3 : Int) == 3) = true from rfl, show ((3 : Int) == 1) = false from rfl, cond_false, cond_true]
      refine ⟨?_, by omega⟩
      have l1 : uT m B % 2 ^ (m - 1) < 2 ^ (m - 1) := Nat.mod_lt _ p5
      have l2 : uT m B = uT m B % 2 ^ (m - 1) + 2 ^ (m - 1) * (B / 2 ^ (m - 1) % 2) := low_bits (by omega)
      rw [Nat.mod_eq_of_lt (a := uT m B % 2 ^ (m - 1)) (by omega)]
      rcases Nat.mod_two_eq_zero_or_one (B / 2 ^ (m - 1)) with hq | hq
      · rw [hq, Nat.mul_zero, Nat.add_zero] at l2
        rw [hq]
        exact l2.symm
      · rw [hq, Nat.mul_one] at l2
        rw [hq]
        exact l2.symm
/-- The pattern of a datum is within the format's width, and holds the datum. -/
theorem unpack_pack {n : Int} (h : 1 ≤ n ∧ n ≤ 6) {c x : Int} {q : Bool} {F : Nat} (s : Bool) (hi : isN n c q x F = true) {P : Nat} (hP : P = packN (mN n) (eN n) (eminI n) c s q x F) :
    P < 2 ^ (mN n + eN n + 1) ∧ uC (mN n) (eN n) P = c ∧ uS (mN n) (eN n) P = s ∧ uQ (mN n) (eN n) P = q ∧ uE (mN n) (eN n) (eminI n) P = x ∧ uF (mN n) (eN n) P = F := by
  obtain ⟨f1, f2, f3, f4, f5, f6, f7, f8, f9, f10, f11, f12⟩ := fmt h
  have hb := bias_lt h hi
  obtain ⟨ht, hF⟩ := tail_lt h hi
  have hi := (isN_iff h).1 hi
  rw [f7] at hi
  generalize eminI n = emin at *
  generalize mN n = m at *
  generalize eN n = e at *
  have p3 := two_half (k := e) (by omega)
  have p4 := two_half (k := m) (by omega)
  have p5 : 0 < 2 ^ (m - 1) := Nat.two_pow_pos _
  have p6 : 0 < 2 ^ (e - 1) := Nat.two_pow_pos _
  have hs : signN m e s = (cond s 1 0) * 2 ^ (m + e) := by
    unfold signN
    cases s
    · rw [cond_false, cond_false, Nat.zero_mul]
    · rw [cond_true, cond_true, Nat.one_mul]
  have hP : P = tailN m c q F + biasN m e emin c x F * 2 ^ m + (cond s 1 0) * 2 ^ (m + e) := by rw [hP, packN, hs]
  have a1 : P % 2 ^ m = tailN m c q F := by rw [hP, field_lo ht]
  have a2 : P / 2 ^ m % 2 ^ e = biasN m e emin c x F := by rw [hP, field_mid ht hb]
  have a3 : P / 2 ^ (m + e) = cond s 1 0 := by rw [hP, field_hi ht hb]
  have a4 : P / 2 ^ (m - 1) % 2 = tailN m c q F / 2 ^ (m - 1) := by rw [← top_bit (by omega), a1]
  have eT : uT m P = tailN m c q F := a1
  have eX : uX m e P = biasN m e emin c x F := a2
  refine ⟨?_, ?_⟩
  · have h1 := add_lt_pow ht hb
    have h2 : cond s 1 0 * 2 ^ (m + e) ≤ 2 ^ (m + e) := by cases s <;> simp
    rw [Nat.pow_succ]
    omega
  have eS : uS m e P = s := by
    unfold uS
    rw [a3]
    cases s <;> rfl
  have eN : uN m e P = decide (biasN m e emin c x F < 2 ^ e - 1) := by unfold uN; rw [eX]
  unfold uC uQ uE uF
  rw [eS, eN, eT, eX, a4]
  rcases hi with ⟨rfl, rfl, g1, g2, g3⟩ | ⟨rfl, rfl, rfl, rfl⟩ | ⟨rfl, rfl, g1, g2⟩
  · have t1 : tailN m 1 false F = F % 2 ^ m := rfl
    have t2 : biasN m e emin 1 x F = cond (bitlen F == m + 1) (x - emin + 1).toNat 0 := rfl
    rw [t2] at hb ⊢
    rw [t1]
    rcases g3 with g3 | ⟨g3, g4⟩
    · obtain ⟨k1, k2⟩ := bitlen_eq_iff.1 g3
      rw [Nat.pow_succ] at k2
      rw [g3, beq_self_eq_true, cond_true]
      have k3 : (x - emin + 1).toNat < 2 ^ e - 1 := by
        generalize 2 ^ (e - 1) = P at *
        omega
      rw [decide_eq_true k3, cond_true, cond_true, cond_true, cond_true, decide_eq_true (show 0 < (x - emin + 1).toNat by omega), cond_true]
      have k4 : F % 2 ^ m + 2 ^ m = F := by
        rw [Nat.mod_eq_sub_mod k1, Nat.mod_eq_of_lt (by omega)]; omega
      exact ⟨rfl, rfl, rfl, by omega, k4⟩
    · have k1 := (bitlen_le_iff F m).1 (by omega)
      rw [show (bitlen F == m + 1) = false from beq_eq_false_iff_ne.2 (by omega), cond_false, decide_eq_true (show 0 < 2 ^ e - 1 by omega), cond_true, cond_true, cond_true, cond_true, Nat.mod_eq_of_lt k1]
      exact ⟨rfl, rfl, rfl, by omega, rfl⟩
  · have t1 : tailN m 2 false 0 = 0 % 2 ^ m := rfl
    have t2 : biasN m e emin 2 0 0 = 2 ^ e - 1 := rfl
    rw [t1, t2, decide_eq_false (Nat.lt_irrefl _), Nat.zero_mod]
    exact ⟨rfl, rfl, rfl, rfl, Nat.zero_mod _⟩
  · have k1 := (bitlen_le_iff F (m - 1)).1 g1
    have t2 : biasN m e emin 3 0 F = 2 ^ e - 1 := rfl
    have t1 : tailN m 3 q F = cond q (F % 2 ^ m) (F % 2 ^ m + 2 ^ (m - 1)) := rfl
    have k2 : F % 2 ^ m = F := Nat.mod_eq_of_lt (by omega)
    rw [t1, t2, k2, decide_eq_false (Nat.lt_irrefl _)]
    simp only [cond_false]
    cases q
    · rw [cond_false, show ((F + 2 ^ (m - 1)) == 0) = false from beq_eq_false_iff_ne.2 (by omega), cond_false, cond_false, Nat.add_div_right _ p5, Nat.div_eq_of_lt k1, Nat.add_mod_right, Nat.mod_eq_of_lt k1]
      refine ⟨?_, ?_, ?_, ?_, ?_⟩ <;> first | rfl | trivial
    · have k3 : F ≠ 0 := fun hz => by
        rcases g2 with g2 | g2
        · have := bitlen_zero.2 hz
          omega
        · cases g2
      rw [cond_true, beq_eq_false_iff_ne.2 k3, cond_false, cond_false, Nat.div_eq_of_lt k1, Nat.mod_eq_of_lt k1]
      refine ⟨?_, ?_, ?_, ?_, ?_⟩ <;> first | rfl | trivial
end Go.Proofs.Ytcglfmldodhakaa.Vm
