/-
  Rounding: what stays, what turns, what rises. Plain lemmas: no statement is proved here.
-/
import Derived.Test.YtcglfmldodhakaaCalQB
namespace Go.Proofs.Ytcglfmldodhakaa.Vm
open Go Go.Vm
noncomputable section
set_option linter.unusedVariables false
/-! ### A number of the format stays -/
theorem flog_whole {F : Nat} (hF : 0 < F) : flog 2 F 1 = (bitlen F : Int) - 1 := by
  refine flog_eq (by decide) ?_
  have b0 : bitlen F ≠ 0 := fun e => by rw [bitlen_zero] at e; omega
  obtain ⟨k, hk⟩ : ∃ k, bitlen F = k + 1 := ⟨bitlen F - 1, by omega⟩
  have h1 := bitlen_top (n := F) (by omega)
  have h2 := bitlen_lt F
  rw [hk] at h1 h2 ⊢
  unfold IsLog upP dnP
  rw [show (((k + 1 : Nat) : Int) - 1).toNat = k by omega, show (-(((k + 1 : Nat) : Int) - 1)).toNat = 0 by omega, show (((k + 1 : Nat) : Int) - 1 + 1).toNat = k + 1 by omega, show (-(((k + 1 : Nat) : Int) - 1 + 1)).toNat = 0 by omega, Nat.pow_zero, Nat.mul_one, Nat.one_mul, Nat.one_mul]
  exact ⟨h1, h2⟩
theorem rnd_keeps {n d : Int} (h6 : 1 ≤ n ∧ n ≤ 6) (s : Bool) {x : Int} {F : Nat} (hi : isN n 1 false x F = true) {A B : Nat} (hB : 0 < B) (hA : A = F * B) : rnd n d s A B x = (pkN n s x F, 0) := by
  obtain ⟨f1, f2, f3, f4, f5, f6, f7, f8, f9, f10, f11, f12⟩ := fmt h6
  have hi' := (isN_iff h6).1 hi
  have hx : eminI n ≤ x ∧ x ≤ emaxI n ∧ (bitlen F = mN n + 1 ∨ (bitlen F < mN n + 1 ∧ x = eminI n)) := by
    rcases hi' with ⟨_, _, h1, h2, h3⟩ | ⟨h, _⟩ | ⟨h, _⟩
    · exact ⟨h1, h2, h3⟩
    · cases h
    · cases h
  by_cases h0 : F = 0
  · subst h0
    have hb0 : bitlen 0 = 0 := rfl
    rw [Nat.zero_mul] at hA
    subst hA
    unfold rnd
    rw [if_pos rfl, show x = eminI n by omega]
  · have hF : 0 < F := by omega
    rw [rnd_ratioN (A' := F) (B' := 1) (by rw [hA]; exact Nat.mul_pos hF hB) hB hF (by decide) (by rw [hA, Nat.mul_one])]
    have hl := flog_whole hF
    have hq : qOf n (flog 2 F 1 + x) = x := by unfold qOf; omega
    unfold rnd
    rw [if_neg h0, hq, Int.sub_self]
    have hu : upP 2 0 = 1 := rfl
    have hd : dnP 2 0 = 1 := rfl
    rw [hu, hd, Nat.mul_one]
    have hr : rndF d s F (1 * 1) = F ∧ exF F (1 * 1) = true := by
      unfold rndF exF
      rw [Nat.mul_one, Nat.mod_one, Nat.div_one]
      exact ⟨rfl, rfl⟩
    rw [hr.1, hr.2]
    unfold finish
    rw [decide_eq_false (by omega), cond_false, decide_eq_false (by omega), cond_false]
    rfl

/-! ### Without the sign -/
def turnD (d : Int) : Int := cond (d == 3) (7 - d) (cond (d == 4) (7 - d) d)
theorem upB_turn {d : Int} (h : 0 ≤ d ∧ d ≤ 4) (o : Bool) (hf : Int) : upB (turnD d) true o hf = upB d false o hf := by
  rcases (by omega : d = 0 ∨ d = 1 ∨ d = 2 ∨ d = 3 ∨ d = 4) with rfl | rfl | rfl | rfl | rfl <;> rfl
theorem farB_turn {d : Int} (h : 0 ≤ d ∧ d ≤ 4) : farB (turnD d) true = farB d false := by
  rcases (by omega : d = 0 ∨ d = 1 ∨ d = 2 ∨ d = 3 ∨ d = 4) with rfl | rfl | rfl | rfl | rfl <;> rfl
theorem turnD_ok {d : Int} (h : 0 ≤ d ∧ d ≤ 4) : 0 ≤ turnD d ∧ turnD d ≤ 4 := by
  rcases (by omega : d = 0 ∨ d = 1 ∨ d = 2 ∨ d = 3 ∨ d = 4) with rfl | rfl | rfl | rfl | rfl <;> decide
/-- A pattern with its sign. -/
def signed (n : Int) (s : Bool) (p : Nat) : Nat := p + signN (mN n) (eN n) s
theorem pk_signed (n : Int) (s : Bool) (x : Int) (c : Nat) : pkN n s x c = signed n s (pkN n false x c) := rfl
theorem inf_signed (n : Int) (s : Bool) : infN n s = signed n s (infN n false) := rfl
theorem rnd_turn {n d e : Int} (hd : 0 ≤ d ∧ d ≤ 4) (A B : Nat) : rnd n (turnD d) true A B e = (signed n true (rnd n d false A B e).1, (rnd n d false A B e).2) := by
  have hr : ∀ x y, rndF (turnD d) true x y = rndF d false x y := fun x y => by unfold rndF; rw [upB_turn hd]
  have ho : overP n (turnD d) true = signed n true (overP n d false) := by
    unfold overP
    rw [farB_turn hd]
    cases farB d false
    · rfl
    · rfl
  unfold rnd
  split
  · rfl
  · rw [hr]
    unfold finish
    rw [ho]
    cases decide (((bitlen (rndF d false (A * upP 2 (e - qOf n (flog 2 A B + e))) (B * dnP 2 (e - qOf n (flog 2 A B + e)))) : Nat) : Int) > precI n)
    · rw [cond_false, cond_false]
      cases decide (qOf n (flog 2 A B + e) > emaxI n) <;> rfl
    · rw [cond_true, cond_true]
      cases decide (qOf n (flog 2 A B + e) + 1 > emaxI n) <;> rfl
/-- What comes of a rounding is a datum of the format. -/
theorem rnd_datum {n d e : Int} (h6 : 1 ≤ n ∧ n ≤ 6) (s : Bool) {A B : Nat} (hB : 0 < B) : ∃ c x F, isN n c false x F = true ∧ (rnd n d s A B e).1 = packN (mN n) (eN n) (eminI n) c s false x F := by
  by_cases h0 : A = 0
  · refine ⟨1, eminI n, 0, ?_, ?_⟩
    · rw [isN_iff h6]
      have f13 := emin_le h6
      have f14 := emax_le h6
      have : bitlen 0 = 0 := rfl
      exact .inl ⟨rfl, rfl, by omega, by omega, .inr ⟨by omega, rfl⟩⟩
    · unfold rnd
      rw [if_pos h0]
      rfl
  · have hA : 0 < A := by omega
    obtain ⟨c1, c2⟩ := rnd_c h6 hA hB d s (e := e) (low := flog 2 A B + e) (q := qOf n (flog 2 A B + e)) rfl rfl
    obtain ⟨i1, i2⟩ := finish_is h6 rfl c1 c2
    obtain ⟨f1, f2, f3, f4, f5, f6, f7, f8, f9, f10, f11, f12⟩ := fmt h6
    have ht : isN n 1 false (emaxI n) (topN n) = true := by
      have f13 := emin_le h6
      have f14 := emax_le h6
      rw [isN_iff h6]
      refine .inl ⟨rfl, rfl, by omega, by omega, .inl ?_⟩
      unfold topN
      have hp := Nat.two_pow_pos (mN n)
      rw [f2, show ((mN n : Int) + 1).toNat = mN n + 1 by omega]
      refine bitlen_eq ?_ ?_ <;> rw [Nat.pow_succ] <;> omega
    have hv : isN n 2 false 0 0 = true := by
      rw [isN_iff h6]
      exact .inr (.inl ⟨rfl, rfl, rfl, rfl⟩)
    have over : ∃ c x F, isN n c false x F = true ∧ overP n d s = packN (mN n) (eN n) (eminI n) c s false x F := by
      unfold overP
      cases farB d s
      · exact ⟨1, _, _, ht, rfl⟩
      · exact ⟨2, _, _, hv, rfl⟩
    unfold rnd
    rw [if_neg h0]
    generalize rndF d s (A * upP 2 (e - qOf n (flog 2 A B + e))) (B * dnP 2 (e - qOf n (flog 2 A B + e))) = c at *
    unfold finish
    by_cases hb : ((bitlen c : Nat) : Int) > precI n
    · rw [decide_eq_true hb, cond_true]
      by_cases hq : qOf n (flog 2 A B + e) + 1 > emaxI n
      · rw [decide_eq_true hq, cond_true]
        exact over
      · rw [decide_eq_false hq, cond_false]
        exact ⟨1, _, _, i1 (by omega) (by omega), rfl⟩
    · rw [decide_eq_false hb, cond_false]
      by_cases hq : qOf n (flog 2 A B + e) > emaxI n
      · rw [decide_eq_true hq, cond_true]
        exact over
      · rw [decide_eq_false hq, cond_false]
        exact ⟨1, _, _, i2 (by omega) (by omega), rfl⟩

/-! ### What is greater -/
theorem rndF_mono {d : Int} {s : Bool} {x x' y : Nat} (hy : 0 < y) (h : x ≤ x') : rndF d s x y ≤ rndF d s x' y := by
  have hq : x / y ≤ x' / y := Nat.div_le_div_right h
  obtain ⟨a1, a2, a3⟩ := rnd_bounds d s x y
  obtain ⟨b1, b2, b3⟩ := rnd_bounds d s x' y
  rcases Nat.lt_or_ge (x / y) (x' / y) with h1 | h1
  · omega
  · have he : x / y = x' / y := by omega
    have hr : x % y ≤ x' % y := by
      have e1 := Nat.div_add_mod x y
      have e2 := Nat.div_add_mod x' y
      rw [he] at e1
      omega
    unfold rndF
    rw [← he]
    by_cases h2 : x % y = 0
    · rw [beq_iff_eq.2 h2, cond_true]
      cases (x' % y == 0)
      · rw [cond_false]
        cases upB d s (x / y % 2 == 1) (cmpI (2 * (x' % y)) y)
        · exact Nat.le_refl _
        · exact Nat.le_succ _
      · exact Nat.le_refl _
    · rw [beq_eq_false_iff_ne.2 h2, cond_false, beq_eq_false_iff_ne.2 (show x' % y ≠ 0 by omega), cond_false]
      have hup : upB d s (x / y % 2 == 1) (cmpI (2 * (x % y)) y) = true → upB d s (x / y % 2 == 1) (cmpI (2 * (x' % y)) y) = true := by
        have hc : cmpI (2 * (x % y)) y ≤ cmpI (2 * (x' % y)) y := by
          unfold cmpI
          split <;> split <;> (try split) <;> (try split) <;> omega
        generalize cmpI (2 * (x % y)) y = u at *
        generalize cmpI (2 * (x' % y)) y = v at *
        unfold upB
        cases (d == 0)
        · rw [cond_false, cond_false]
          cases (d == 1)
          · rw [cond_false, cond_false]; exact id
          · rw [cond_true, cond_true]
            intro hu
            have := of_decide_eq_true hu
            exact decide_eq_true (by omega)
        · rw [cond_true, cond_true]
          intro hu
          by_cases hv : v > 0
          · rw [decide_eq_true hv, cond_true]
          · rw [decide_eq_false (show ¬ u > 0 by omega), cond_false] at hu
            rw [decide_eq_false hv, cond_false]
            by_cases hu0 : u = 0
            · rw [beq_iff_eq.2 hu0, cond_true] at hu
              rw [beq_iff_eq.2 (show v = 0 by omega), cond_true]
              exact hu
            · rw [beq_eq_false_iff_ne.2 hu0, cond_false] at hu
              cases hu
      cases hu : upB d s (x / y % 2 == 1) (cmpI (2 * (x % y)) y)
      · rw [cond_false]
        cases upB d s (x / y % 2 == 1) (cmpI (2 * (x' % y)) y)
        · exact Nat.le_refl _
        · exact Nat.le_succ _
      · rw [hup hu]
        exact Nat.le_refl _
theorem flog_mono {A A' B : Nat} (hA : 0 < A) (hB : 0 < B) (h : A ≤ A') : flog 2 A B ≤ flog 2 A' B := by
  have h1 := flog2_is hA hB
  have h2 := flog2_is (show 0 < A' by omega) hB
  have g1 := ((isLog_norm (K := (flog 2 A B).natAbs + (flog 2 A' B).natAbs) (by decide) (by omega)).1 h1).1
  have g2 := ((isLog_norm (K := (flog 2 A B).natAbs + (flog 2 A' B).natAbs) (by decide) (by omega)).1 h2).2
  have g3 := pow_lt_of (β := 2) (by decide) (Nat.lt_of_le_of_lt (Nat.le_trans g1 (Nat.mul_le_mul_right _ h)) g2)
  omega
/-- A pattern without its sign, as a number. -/
theorem pk_val {n : Int} (h6 : 1 ≤ n ∧ n ≤ 6) {x : Int} {c : Nat} (hi : isN n 1 false x c = true) : pkN n false x c = (x - eminI n).toNat * 2 ^ mN n + c := by
  have hx : eminI n ≤ x ∧ (bitlen c = mN n + 1 ∨ (bitlen c < mN n + 1 ∧ x = eminI n)) := by
    rcases (isN_iff h6).1 hi with ⟨_, _, h1, h2, h3⟩ | ⟨h, _⟩ | ⟨h, _⟩
    · exact ⟨h1, h3⟩
    · cases h
    · cases h
  unfold pkN packN tailN biasN signN
  rw [show ((1 : Int) == 3) = false from rfl, show ((1 : Int) == 1) = true from rfl, cond_false, cond_true, cond_false, Nat.add_zero]
  rcases hx.2 with h | ⟨h, h2⟩
  · obtain ⟨g1, g2⟩ := bitlen_eq_iff.1 h
    rw [beq_iff_eq.2 h, cond_true, show (x - eminI n + 1).toNat = (x - eminI n).toNat + 1 by omega, Nat.add_mul, Nat.one_mul]
    have : c % 2 ^ mN n = c - 2 ^ mN n := by
      rw [Nat.pow_succ] at g2
      rw [Nat.mod_eq_sub_mod g1, Nat.mod_eq_of_lt (by omega)]
    omega
  · have h3 := (bitlen_le_iff c (mN n)).1 (by omega)
    rw [beq_eq_false_iff_ne.2 (show bitlen c ≠ mN n + 1 by omega), cond_false, Nat.zero_mul, Nat.add_zero, Nat.mod_eq_of_lt h3, h2, Int.sub_self]
    simp
theorem span {n : Int} (h6 : 1 ≤ n ∧ n ≤ 6) : emaxI n - eminI n + 3 = ((2 ^ eN n : Nat) : Int) := by
  obtain ⟨f1, f2, f3, f4, f5, f6, f7, f8, f9, f10, f11, f12⟩ := fmt h6
  have := two_half (k := eN n) (by omega)
  omega
theorem inf_val {n : Int} (h6 : 1 ≤ n ∧ n ≤ 6) : infN n false = (emaxI n - eminI n).toNat * 2 ^ mN n + 2 ^ (mN n + 1) := by
  have h := span h6
  have f13 := emin_le h6
  have f14 := emax_le h6
  unfold infN packN tailN biasN signN
  rw [show ((2 : Int) == 3) = false from rfl, show ((2 : Int) == 1) = false from rfl, cond_false, cond_false, cond_false, Nat.zero_mod, Nat.zero_add, Nat.add_zero, Nat.pow_succ, Nat.mul_comm (2 ^ mN n) 2, ← Nat.add_mul]
  congr 1
  omega
theorem up_far {d : Int} (hd : 0 ≤ d ∧ d ≤ 4) {o : Bool} {h : Int} (hu : upB d false o h = true) : farB d false = true := by
  rcases (by omega : d = 0 ∨ d = 1 ∨ d = 2 ∨ d = 3 ∨ d = 4) with rfl | rfl | rfl | rfl | rfl
  · rfl
  · rfl
  · cases hu
  · rfl
  · cases hu
theorem rnd_upped {d : Int} (hd : 0 ≤ d ∧ d ≤ 4) {x y : Nat} (h : x / y < rndF d false x y) : farB d false = true := by
  unfold rndF at h
  cases h0 : (x % y == 0) <;> rw [h0] at h
  · rw [cond_false] at h
    cases hu : upB d false (x / y % 2 == 1) (cmpI (2 * (x % y)) y) <;> rw [hu] at h
    · rw [cond_false] at h; omega
    · exact up_far hd hu
  · rw [cond_true] at h; omega
theorem top_is' {n : Int} (h6 : 1 ≤ n ∧ n ≤ 6) : isN n 1 false (emaxI n) (topN n) = true := by
  obtain ⟨f1, f2, f3, f4, f5, f6, f7, f8, f9, f10, f11, f12⟩ := fmt h6
  have f13 := emin_le h6
  have f14 := emax_le h6
  rw [isN_iff h6]
  refine .inl ⟨rfl, rfl, by omega, by omega, .inl ?_⟩
  unfold topN
  have hp := Nat.two_pow_pos (mN n)
  rw [f2, show ((mN n : Int) + 1).toNat = mN n + 1 by omega]
  refine bitlen_eq ?_ ?_ <;> rw [Nat.pow_succ] <;> omega
theorem top_val {n : Int} (h6 : 1 ≤ n ∧ n ≤ 6) : pkN n false (emaxI n) (topN n) + 1 = infN n false := by
  obtain ⟨f1, f2, f3, f4, f5, f6, f7, f8, f9, f10, f11, f12⟩ := fmt h6
  rw [pk_val h6 (top_is' h6), inf_val h6]
  unfold topN
  have hp := Nat.two_pow_pos (mN n + 1)
  rw [f2, show ((mN n : Int) + 1).toNat = mN n + 1 by omega]
  omega
/-- The pattern of what doesn't overflow at once. -/
theorem rnd_val {n d e : Int} (h6 : 1 ≤ n ∧ n ≤ 6) (hd : 0 ≤ d ∧ d ≤ 4) {A B : Nat} (hA : 0 < A) (hB : 0 < B) {q : Int} {c : Nat} (hq : q = qOf n (flog 2 A B + e)) (hc : c = rndF d false (A * upP 2 (e - q)) (B * dnP 2 (e - q))) (hm : q ≤ emaxI n) :
    (rnd n d false A B e).1 = (q - eminI n).toNat * 2 ^ mN n + c := by
  obtain ⟨f1, f2, f3, f4, f5, f6, f7, f8, f9, f10, f11, f12⟩ := fmt h6
  obtain ⟨c1, c2⟩ := rnd_c h6 hA hB d false (e := e) (low := flog 2 A B + e) (q := q) rfl hq
  have hsz := rnd_size hA hB (e := e) (q := q) (m := mN n) (by rw [hq]; unfold qOf; omega)
  have hup := fun h => rnd_upped hd (x := A * upP 2 (e - q)) (y := B * dnP 2 (e - q)) h
  rw [← hc] at c1 c2
  obtain ⟨i1, i2⟩ := finish_is h6 hq c1 c2
  have hqe : eminI n ≤ q := by rw [hq]; unfold qOf; omega
  have hp : 2 ^ (mN n + 1) = 2 * 2 ^ mN n := Nat.pow_succ'
  unfold rnd
  rw [if_neg (by omega), ← hq, ← hc]
  unfold finish
  by_cases hb : ((bitlen c : Nat) : Int) > precI n
  · have hc2 : c = 2 ^ (mN n + 1) := by
      rcases Nat.lt_or_ge c (2 ^ (mN n + 1)) with h | h
      · have := (bitlen_le_iff _ _).2 h; omega
      · omega
    rw [decide_eq_true hb, cond_true]
    by_cases hq1 : q + 1 > emaxI n
    · rw [decide_eq_true hq1, cond_true]
      show overP n d false = _
      unfold overP
      rw [hup (by rw [← hc]; omega), cond_true, inf_val h6, hc2, show q = emaxI n by omega]
    · rw [decide_eq_false hq1, cond_false]
      show pkN n false (q + 1) (c / 2) = _
      rw [pk_val h6 (i1 (by omega) (by omega)), hc2, hp, Nat.mul_div_cancel_left _ (by decide), show (q + 1 - eminI n).toNat = (q - eminI n).toNat + 1 by omega, Nat.add_mul]
      omega
  · rw [decide_eq_false hb, cond_false, decide_eq_false (by omega), cond_false]
    exact pk_val h6 (i2 (by omega) hm)
/-- A greater fraction has no less a pattern. -/
theorem rnd_rises {n d e : Int} (h6 : 1 ≤ n ∧ n ≤ 6) (hd : 0 ≤ d ∧ d ≤ 4) {A A' B : Nat} (hB : 0 < B) (h : A ≤ A') : (rnd n d false A B e).1 ≤ (rnd n d false A' B e).1 := by
  by_cases h0 : A = 0
  · have hz : (rnd n d false A B e).1 = 0 := by
      unfold rnd
      rw [if_pos h0]
      have hz : isN n 1 false (eminI n) 0 = true := by
        rw [isN_iff h6]
        have f13 := emin_le h6
        have f14 := emax_le h6
        have : bitlen 0 = 0 := rfl
        exact .inl ⟨rfl, rfl, by omega, by omega, .inr ⟨by omega, rfl⟩⟩
      show pkN n false (eminI n) 0 = 0
      rw [pk_val h6 hz, Int.sub_self]
      simp
    omega
  · have hA : 0 < A := by omega
    have hA' : 0 < A' := by omega
    have hfl := flog_mono hA hB h
    obtain ⟨q, hq⟩ : ∃ q, q = qOf n (flog 2 A B + e) := ⟨_, rfl⟩
    obtain ⟨q', hq'⟩ : ∃ q', q' = qOf n (flog 2 A' B + e) := ⟨_, rfl⟩
    have hqq : q ≤ q' ∧ eminI n ≤ q := by rw [hq, hq']; unfold qOf; omega
    have over : ∀ {A : Nat} {q : Int}, 0 < A → q = qOf n (flog 2 A B + e) → q > emaxI n → (rnd n d false A B e).1 = overP n d false := fun {A q} hA hq hm => by
      unfold rnd
      rw [if_neg (by omega), ← hq, finish_over hm]
    have hp : 2 ^ (mN n + 1) = 2 * 2 ^ mN n := Nat.pow_succ'
    have hpp := Nat.two_pow_pos (mN n)
    by_cases hm : q > emaxI n
    · rw [over hA hq hm, over hA' hq' (by omega)]
      exact Nat.le_refl _
    · obtain ⟨c1, c2⟩ := rnd_c h6 hA hB d false (e := e) (low := flog 2 A B + e) (q := q) rfl hq
      have hsz := rnd_size hA hB (e := e) (q := q) (m := mN n) (by obtain ⟨f1, f2, _⟩ := fmt h6; rw [hq]; unfold qOf; omega)
      have hup := fun h => rnd_upped hd (x := A * upP 2 (e - q)) (y := B * dnP 2 (e - q)) h
      rw [rnd_val h6 hd hA hB hq rfl (by omega)]
      by_cases hm' : q' > emaxI n
      · rw [over hA' hq' hm']
        have hle : (q - eminI n).toNat * 2 ^ mN n ≤ (emaxI n - eminI n).toNat * 2 ^ mN n := Nat.mul_le_mul_right _ (by omega)
        have hi := inf_val h6
        have ht := top_val h6
        generalize rndF d false (A * upP 2 (e - q)) (B * dnP 2 (e - q)) = c at *
        unfold overP
        cases hf : farB d false
        · rw [cond_false]
          have : c < 2 ^ (mN n + 1) := by
            rcases Nat.lt_or_ge c (2 ^ (mN n + 1)) with h1 | h1
            · exact h1
            · rw [hup (by omega)] at hf
              cases hf
          omega
        · rw [cond_true]
          omega
      · obtain ⟨c1', c2'⟩ := rnd_c h6 hA' hB d false (e := e) (low := flog 2 A' B + e) (q := q') rfl hq'
        rw [rnd_val h6 hd hA' hB hq' rfl (by omega)]
        rcases Int.lt_or_le q q' with h1 | h1
        · have h2 := c2' (by omega)
          have hle : ((q - eminI n).toNat + 1) * 2 ^ mN n ≤ (q' - eminI n).toNat * 2 ^ mN n := Nat.mul_le_mul_right _ (by omega)
          rw [Nat.add_mul] at hle
          omega
        · have he : q' = q := by omega
          rw [he]
          exact Nat.add_le_add_left (rndF_mono (Nat.mul_pos hB (dnP_pos (by decide) _)) (Nat.mul_le_mul_right _ h)) _
end
end Go.Proofs.Ytcglfmldodhakaa.Vm
