/-
  Rounding to numbers of base ten: what turns, what lies side by side, what rises, what stays. Plain lemmas: no statement is proved here.
-/
import Derived.Test.YtcglfmldodhakaaCalE1
import Derived.Test.YtcglfmldodhakaaCalQF
namespace Go.Proofs.Ytcglfmldodhakaa.Vm
open Go Go.Vm
noncomputable section
set_option linter.unusedVariables false
theorem turn10 {d : Int} (h : 0 ≤ d ∧ d ≤ 4) : turnD (turnD d) = d := by
  rcases (by omega : d = 0 ∨ d = 1 ∨ d = 2 ∨ d = 3 ∨ d = 4) with rfl | rfl | rfl | rfl | rfl <;> rfl
theorem rndF_turn {d : Int} (hd : 0 ≤ d ∧ d ≤ 4) (x y : Nat) : rndF (turnD d) true x y = rndF d false x y := by
  unfold rndF
  rw [upB_turn hd]
theorem drn_turn {n d e w : Int} (hd : 0 ≤ d ∧ d ≤ 4) (A B : Nat) : drn n (turnD d) true A B e w = drn n d false A B e w := by
  unfold drn dCar dfin
  simp only [rndF_turn hd, farB_turn hd]
/-- The next number up, of one that isn't one of the format. -/
def nextD (n q : Int) (c : Nat) (fl : Int) : Int × Int × Nat × Int := cond (decide (c + 1 ≥ 10 ^ pN n)) (cond (decide (q + 1 > emaxI n)) (2, 0, 0, 10) (1, q + 1, 10 ^ (pN n - 1), fl)) (1, q, c + 1, fl)
theorem exF_F {d : Int} {s : Bool} {x y : Nat} (h : exF x y = true) : rndF d s x y = x / y := (rnd_bounds d s x y).2.2 h
theorem exF_N {d : Int} {s : Bool} {x y : Nat} (h : exF x y = false) : rndF d s x y = x / y + cond (upB d s (x / y % 2 == 1) (cmpI (2 * (x % y)) y)) 1 0 := by
  unfold exF at h
  unfold rndF
  rw [h, cond_false]
  cases upB d s (x / y % 2 == 1) (cmpI (2 * (x % y)) y) <;> rfl
theorem drn_c {n e : Int} (h7 : 7 ≤ n ∧ n ≤ 12) {A B : Nat} (hA : 0 < A) (hB : 0 < B) {q : Int} (hq : q = qOf n (flog 10 A B + e)) : A * upP 10 (e - q) / (B * dnP 10 (e - q)) < 10 ^ pN n := by
  obtain ⟨f1, f2, f3, f4, f5, f6, f7, f8, f9⟩ := fmt10 h7
  exact scaled_lt (by decide) hA hB (by rw [hq]; unfold qOf; omega)
theorem drn_sides {n e w : Int} (h7 : 7 ≤ n ∧ n ≤ 12) (A : Nat) {B : Nat} (hB : 0 < B) :
    (∃ P : Int × Int × Nat × Int, P.2.2.2 = 0 ∧ ∀ d, 0 ≤ d ∧ d ≤ 4 → drn n d false A B e w = P) ∨
    (∃ (D U : Int × Int × Nat × Int) (u : Int → Bool), (D.1 ≠ U.1 ∨ D.2.1 ≠ U.2.1 ∨ D.2.2.1 ≠ U.2.2.1) ∧ (D.2.2.2 = 8 ∨ D.2.2.2 = 10 ∨ D.2.2.2 = 12) ∧ (U.2.2.2 = 8 ∨ U.2.2.2 = 10 ∨ U.2.2.2 = 12) ∧
      u 2 = false ∧ u 4 = false ∧ u 3 = true ∧ ∀ d, 0 ≤ d ∧ d ≤ 4 → drn n d false A B e w = cond (u d) U D) := by
  obtain ⟨f1, f2, f3, f4, f5, f6, f7, f8, f9⟩ := fmt10 h7
  by_cases h0 : A = 0
  · subst h0
    exact .inl ⟨(1, min (max w (eminI n)) (emaxI n), 0, 0), rfl, fun d _ => if_pos rfl⟩
  have hA : 0 < A := Nat.pos_of_ne_zero h0
  obtain ⟨low, hlow⟩ : ∃ low, low = flog 10 A B + e := ⟨_, rfl⟩
  obtain ⟨q, hq⟩ : ∃ q, q = qOf n low := ⟨_, rfl⟩
  by_cases hm : q ≤ emaxI n
  case neg =>
    refine .inr ⟨(1, emaxI n, 10 ^ pN n - 1, 10), (2, 0, 0, 10), fun d => farB d false, .inl (show (1 : Int) ≠ 2 by decide), .inr (.inl rfl), .inr (.inl rfl), rfl, rfl, rfl, fun d hd => ?_⟩
    unfold drn
    rw [if_neg h0, ← hlow, ← hq, dCar_over (by omega)]
    rfl
  obtain ⟨x, hx⟩ : ∃ x, x = A * upP 10 (e - q) := ⟨_, rfl⟩
  obtain ⟨y, hy⟩ : ∃ y, y = B * dnP 10 (e - q) := ⟨_, rfl⟩
  have hc := drn_c (e := e) h7 hA hB (q := q) (by rw [hq, hlow])
  rw [← hx, ← hy] at hc
  cases hex : exF x y
  · refine .inr ⟨(1, q, x / y, cond (decide (low < eminI n + precI n - 1)) 12 8), nextD n q (x / y) (cond (decide (low < eminI n + precI n - 1)) 12 8), fun d => upB d false (x / y % 2 == 1) (cmpI (2 * (x % y)) y), ?_, ?_, ?_, rfl, rfl, rfl, fun d hd => ?_⟩
    · unfold nextD
      cases decide (x / y + 1 ≥ 10 ^ pN n)
      · exact .inr (.inr (show x / y ≠ x / y + 1 by omega))
      · cases decide (q + 1 > emaxI n)
        · exact .inr (.inl (show q ≠ q + 1 by omega))
        · exact .inl (show (1 : Int) ≠ 2 by decide)
    · cases decide (low < eminI n + precI n - 1)
      · exact .inl rfl
      · exact .inr (.inr rfl)
    · unfold nextD
      cases decide (x / y + 1 ≥ 10 ^ pN n) <;> cases decide (q + 1 > emaxI n) <;> cases decide (low < eminI n + precI n - 1) <;> simp
    · have hup := fun h => up_far hd (o := x / y % 2 == 1) (h := cmpI (2 * (x % y)) y) h
      unfold drn
      rw [if_neg h0, ← hlow, ← hq, ← hx, ← hy, hex, exF_N hex]
      dsimp only
      cases hu : upB d false (x / y % 2 == 1) (cmpI (2 * (x % y)) y)
      · unfold dCar dfin
        rw [cond_false, cond_false, Nat.add_zero, decide_eq_false (by omega), cond_false, decide_eq_false (by omega), cond_false, cond_false]
        rfl
      · unfold dCar dfin nextD
        rw [cond_true, cond_true, hup hu, cond_true, cond_false, cond_false]
        cases decide (x / y + 1 ≥ 10 ^ pN n)
        · rw [cond_false, cond_false, decide_eq_false (by omega), cond_false]
        · rw [cond_true, cond_true]
  · refine .inl ⟨(1, (mem10 (x / y) q (min w (emaxI n))).2, (mem10 (x / y) q (min w (emaxI n))).1, 0), rfl, fun d hd => ?_⟩
    unfold drn
    rw [if_neg h0, ← hlow, ← hq, ← hx, ← hy, hex, exF_F hex]
    unfold dCar dfin
    rw [decide_eq_false (by omega), cond_false, decide_eq_false (by omega), cond_false, cond_true]
theorem drn_sidesS {n e w : Int} (h7 : 7 ≤ n ∧ n ≤ 12) (s : Bool) (A : Nat) {B : Nat} (hB : 0 < B) :
    (∃ P : Int × Int × Nat × Int, P.2.2.2 = 0 ∧ ∀ d, 0 ≤ d ∧ d ≤ 4 → drn n d s A B e w = P) ∨
    (∃ (D U : Int × Int × Nat × Int) (u : Int → Bool), (D.1 ≠ U.1 ∨ D.2.1 ≠ U.2.1 ∨ D.2.2.1 ≠ U.2.2.1) ∧ (D.2.2.2 = 8 ∨ D.2.2.2 = 10 ∨ D.2.2.2 = 12) ∧ (U.2.2.2 = 8 ∨ U.2.2.2 = 10 ∨ U.2.2.2 = 12) ∧
      u 2 = false ∧ u (cond s 3 4) = false ∧ u (cond s 4 3) = true ∧ ∀ d, 0 ≤ d ∧ d ≤ 4 → drn n d s A B e w = cond (u d) U D) := by
  cases s
  · exact drn_sides h7 A hB
  · have turn : ∀ d, 0 ≤ d ∧ d ≤ 4 → drn n d true A B e w = drn n (turnD d) false A B e w := fun d hd => by
      have := drn_turn (n := n) (e := e) (w := w) (turnD_ok hd) A B
      rwa [turn10 hd] at this
    rcases drn_sides (e := e) (w := w) h7 A hB with ⟨P, h1, hP⟩ | ⟨D, U, u, h1, h2, h3, u2, u4, u3, hu⟩
    · exact .inl ⟨P, h1, fun d hd => by rw [turn d hd, hP _ (turnD_ok hd)]⟩
    · exact .inr ⟨D, U, fun d => u (turnD d), h1, h2, h3, u2, u4, u3, fun d hd => by rw [turn d hd, hu _ (turnD_ok hd)]⟩
end
end Go.Proofs.Ytcglfmldodhakaa.Vm
