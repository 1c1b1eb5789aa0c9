-- PRINTED BY print.sh 35421559b90ae4d0a3588c463048766b98c2df88dd9212a6774a882060cdf62d: not written by this session
import Derived.Test.YtmjbikbakkbajaaPDecletBackx0
namespace Go.Proofs.Ytmjbikbakkbajaa.PDecletBack
open Go.RowKit Go.Proofs.YtmjbikbakkbajaaW.PrintWords Go.Proofs.YtmjbikbakkbajaaW.PrintLast Go.Proofs.YtmjbikbakkbajaaW.PrintMore
attribute [local go_sem] max2_int min2_int max_two min_two max_three min_three max_four min_four   -- for this text's walks alone
set_option linter.unusedVariables false
set_option linter.unusedSimpArgs false

/-! ### declet_Encode: function 16 -/
def declet_Encode.j0 : Nat → Int → Bool → Option (Int × Int)
  | 0, _, _ => none
  | k + 1, x0, x16 => if x16 = true then (some (0, 3)) else (if (Go.bits .or .i64 (Go.bits .or .i64 (wrap64 (((wrap64 (Int.tdiv x0 100)) / 8) * 4)) (wrap64 (((Int.tmod (wrap64 (Int.tdiv x0 10)) 10) / 8) * 2))) ((Int.tmod x0 10) / 8)) = 0 then (some (Go.bits .or .i64 (Go.bits .or .i64 (Go.bits .or .i64 (Go.bits .or .i64 (Go.bits .or .i64 (wrap64 ((Go.bits .and .i64 (wrap64 (Int.tdiv x0 100)) 1) * 128)) (wrap64 ((Go.bits .and .i64 (Int.tmod (wrap64 (Int.tdiv x0 10)) 10) 1) * 16))) (Go.bits .and .i64 (Int.tmod x0 10) 1)) (wrap64 ((Go.bits .and .i64 ((wrap64 (Int.tdiv x0 100)) / 2) 3) * 256))) (wrap64 ((Go.bits .and .i64 ((Int.tmod (wrap64 (Int.tdiv x0 10)) 10) / 2) 3) * 32))) (wrap64 ((Go.bits .and .i64 ((Int.tmod x0 10) / 2) 3) * 2)), 0)) else (if (Go.bits .or .i64 (Go.bits .or .i64 (wrap64 (((wrap64 (Int.tdiv x0 100)) / 8) * 4)) (wrap64 (((Int.tmod (wrap64 (Int.tdiv x0 10)) 10) / 8) * 2))) ((Int.tmod x0 10) / 8)) = 1 then (some (Go.bits .or .i64 (Go.bits .or .i64 (Go.bits .or .i64 (Go.bits .or .i64 (Go.bits .or .i64 (wrap64 ((Go.bits .and .i64 (wrap64 (Int.tdiv x0 100)) 1) * 128)) (wrap64 ((Go.bits .and .i64 (Int.tmod (wrap64 (Int.tdiv x0 10)) 10) 1) * 16))) (Go.bits .and .i64 (Int.tmod x0 10) 1)) (wrap64 ((Go.bits .and .i64 ((wrap64 (Int.tdiv x0 100)) / 2) 3) * 256))) (wrap64 ((Go.bits .and .i64 ((Int.tmod (wrap64 (Int.tdiv x0 10)) 10) / 2) 3) * 32))) 8, 0)) else (if (Go.bits .or .i64 (Go.bits .or .i64 (wrap64 (((wrap64 (Int.tdiv x0 100)) / 8) * 4)) (wrap64 (((Int.tmod (wrap64 (Int.tdiv x0 10)) 10) / 8) * 2))) ((Int.tmod x0 10) / 8)) = 2 then (some (Go.bits .or .i64 (Go.bits .or .i64 (Go.bits .or .i64 (Go.bits .or .i64 (Go.bits .or .i64 (wrap64 ((Go.bits .and .i64 (wrap64 (Int.tdiv x0 100)) 1) * 128)) (wrap64 ((Go.bits .and .i64 (Int.tmod (wrap64 (Int.tdiv x0 10)) 10) 1) * 16))) (Go.bits .and .i64 (Int.tmod x0 10) 1)) (wrap64 ((Go.bits .and .i64 ((wrap64 (Int.tdiv x0 100)) / 2) 3) * 256))) (wrap64 ((Go.bits .and .i64 ((Int.tmod x0 10) / 2) 3) * 32))) 10, 0)) else (if (Go.bits .or .i64 (Go.bits .or .i64 (wrap64 (((wrap64 (Int.tdiv x0 100)) / 8) * 4)) (wrap64 (((Int.tmod (wrap64 (Int.tdiv x0 10)) 10) / 8) * 2))) ((Int.tmod x0 10) / 8)) = 4 then (some (Go.bits .or .i64 (Go.bits .or .i64 (Go.bits .or .i64 (Go.bits .or .i64 (Go.bits .or .i64 (wrap64 ((Go.bits .and .i64 (wrap64 (Int.tdiv x0 100)) 1) * 128)) (wrap64 ((Go.bits .and .i64 (Int.tmod (wrap64 (Int.tdiv x0 10)) 10) 1) * 16))) (Go.bits .and .i64 (Int.tmod x0 10) 1)) (wrap64 ((Go.bits .and .i64 ((Int.tmod x0 10) / 2) 3) * 256))) (wrap64 ((Go.bits .and .i64 ((Int.tmod (wrap64 (Int.tdiv x0 10)) 10) / 2) 3) * 32))) 12, 0)) else (if (Go.bits .or .i64 (Go.bits .or .i64 (wrap64 (((wrap64 (Int.tdiv x0 100)) / 8) * 4)) (wrap64 (((Int.tmod (wrap64 (Int.tdiv x0 10)) 10) / 8) * 2))) ((Int.tmod x0 10) / 8)) = 3 then (some (Go.bits .or .i64 (Go.bits .or .i64 (Go.bits .or .i64 (Go.bits .or .i64 (Go.bits .or .i64 (wrap64 ((Go.bits .and .i64 (wrap64 (Int.tdiv x0 100)) 1) * 128)) (wrap64 ((Go.bits .and .i64 (Int.tmod (wrap64 (Int.tdiv x0 10)) 10) 1) * 16))) (Go.bits .and .i64 (Int.tmod x0 10) 1)) (wrap64 ((Go.bits .and .i64 ((wrap64 (Int.tdiv x0 100)) / 2) 3) * 256))) 64) 14, 0)) else (if (Go.bits .or .i64 (Go.bits .or .i64 (wrap64 (((wrap64 (Int.tdiv x0 100)) / 8) * 4)) (wrap64 (((Int.tmod (wrap64 (Int.tdiv x0 10)) 10) / 8) * 2))) ((Int.tmod x0 10) / 8)) = 5 then (some (Go.bits .or .i64 (Go.bits .or .i64 (Go.bits .or .i64 (Go.bits .or .i64 (Go.bits .or .i64 (wrap64 ((Go.bits .and .i64 (wrap64 (Int.tdiv x0 100)) 1) * 128)) (wrap64 ((Go.bits .and .i64 (Int.tmod (wrap64 (Int.tdiv x0 10)) 10) 1) * 16))) (Go.bits .and .i64 (Int.tmod x0 10) 1)) (wrap64 ((Go.bits .and .i64 ((Int.tmod (wrap64 (Int.tdiv x0 10)) 10) / 2) 3) * 256))) 32) 14, 0)) else (if (Go.bits .or .i64 (Go.bits .or .i64 (wrap64 (((wrap64 (Int.tdiv x0 100)) / 8) * 4)) (wrap64 (((Int.tmod (wrap64 (Int.tdiv x0 10)) 10) / 8) * 2))) ((Int.tmod x0 10) / 8)) = 6 then (some (Go.bits .or .i64 (Go.bits .or .i64 (Go.bits .or .i64 (Go.bits .or .i64 (wrap64 ((Go.bits .and .i64 (wrap64 (Int.tdiv x0 100)) 1) * 128)) (wrap64 ((Go.bits .and .i64 (Int.tmod (wrap64 (Int.tdiv x0 10)) 10) 1) * 16))) (Go.bits .and .i64 (Int.tmod x0 10) 1)) (wrap64 ((Go.bits .and .i64 ((Int.tmod x0 10) / 2) 3) * 256))) 14, 0)) else (some (Go.bits .or .i64 (Go.bits .or .i64 (Go.bits .or .i64 (Go.bits .or .i64 (wrap64 ((Go.bits .and .i64 (wrap64 (Int.tdiv x0 100)) 1) * 128)) (wrap64 ((Go.bits .and .i64 (Int.tmod (wrap64 (Int.tdiv x0 10)) 10) 1) * 16))) (Go.bits .and .i64 (Int.tmod x0 10) 1)) 96) 14, 0)))))))))
def declet_Encode.f (k : Nat) (a0 : Int) : Option (Int × Int) := if a0 < 0 then (declet_Encode.j0 k a0 true) else (declet_Encode.j0 k a0 (decide (a0 > 999)))
theorem declet_Encode.mono_l : ∀ k, (∀ y0 y1, LeO (declet_Encode.j0 k y0 y1) (declet_Encode.j0 (k + 1) y0 y1))
  | 0 => fun _ _ r h => by simp [declet_Encode.j0] at h
  | k + 1 => by
    have ih0 := declet_Encode.mono_l k
    · intro y0 y1
      unfold declet_Encode.j0
      repeat' first
      | (with_reducible exact ih0 _ _)
      | (with_reducible exact LeO.refl _)
      | (with_reducible exact LeO.none _)
      | (with_reducible refine LeO.ite ?_ ?_)
      | (with_reducible refine LeO.bind ?_ (fun _ => ?_))
      | exact ih0 _ _
      | exact LeO.none _
      | refine LeO.ite ?_ ?_
      | refine LeO.bind ?_ (fun _ => ?_)
theorem declet_Encode.mono : ∀ a0 k, LeO (declet_Encode.f k a0) (declet_Encode.f (k + 1) a0) := by
  intro a0 k
  have ih0 := declet_Encode.mono_l k
  unfold declet_Encode.f
  repeat' first
      | (with_reducible exact ih0 _ _)
      | (with_reducible exact LeO.refl _)
      | (with_reducible exact LeO.none _)
      | (with_reducible refine LeO.ite ?_ ?_)
      | (with_reducible refine LeO.bind ?_ (fun _ => ?_))
      | exact ih0 _ _
      | exact LeO.none _
      | refine LeO.ite ?_ ?_
      | refine LeO.bind ?_ (fun _ => ?_)
set_option maxHeartbeats 8000000 in
set_option maxRecDepth 100000 in
theorem declet_Encode.calls (k : Nat) (a0 : Int) (r1 : Int) (r2 : Int) (w : World) (h : declet_Encode.f k a0 = some (r1, r2)) :
    Calls Try.prog 16 #[.int .i64 a0] w fun e w' => e = .returned (.tuple #[.int .i64 r1, .int .i64 r2]) ∧ Drawn0 w w' := by
  have H : (if a0 < 0 then (declet_Encode.j0 k a0 true) else (declet_Encode.j0 k a0 (decide (a0 > 999)))) = some (r1, r2) := h
  clear h
  have HC2 := Aside0.mk H
  clear H
  go_enter Try.func16, Try.ntmps16
  go_upto_region 1 with (fail)
  go_cut [16] (fun v16 wc => ∃ (kq : Nat) (x16_1 : Bool), v16 = .bool x16_1 ∧ Aside0 (declet_Encode.j0 kq a0 x16_1 = some (r1, r2)) ∧ Aside0 (kq ≤ k) ∧ Drawn0 w wc)
  case first =>
    have H := HC2.out
    clear HC2
    by_cases c3 : a0 < 0
    · rw [if_pos c3] at H
      have c3b0 : decide (a0 < 0) = true := decide_eq_true c3
      clear c3
      (first | rw [c3b0] | (simp only [i64_w, i32_w]; rw [c3b0]) | skip)
      have H' := Aside0.mk H
      clear H
      go_wp2
      go_meet
      case rel => exact ⟨_, (true), (by first | rfl | (simp; done) | (simp [*]; done)), H', ⟨by first | omega | exact Nat.le_refl _⟩, by repeat (first | exact Drawn0.refl _ | apply Drawn0.step)⟩
    · rw [if_neg c3] at H
      have c3b0 : decide (a0 < 0) = false := decide_eq_false c3
      clear c3
      (first | rw [c3b0] | (simp only [i64_w, i32_w]; rw [c3b0]) | skip)
      have H' := Aside0.mk H
      clear H
      go_wp2
      go_meet
      case rel => exact ⟨_, (decide (a0 > 999)), (by first | rfl | (simp; done) | (simp [*]; done)), H', ⟨by first | omega | exact Nat.le_refl _⟩, by repeat (first | exact Drawn0.refl _ | apply Drawn0.step)⟩
  case rest =>
    clear HC2
    try clear c1
    try clear p2
    try clear c3
    try clear c3b0
    obtain ⟨kq, x16_1, rfl, HA, HJ1, ⟨mc1, rfl⟩⟩ := hcut
    cases kq with
    | zero => exact absurd HA.out (by simp [declet_Encode.j0])
    | succ kj1 =>
      have H := HA.out
      clear HA
      simp only [declet_Encode.j0] at H
      by_cases c4 : x16_1 = true
      · subst c4
        have H1 : (some (0, 3)) = some (r1, r2) := by rw [if_pos rfl] at H; exact H
        clear H
        have H := H1
        clear H1
        simp only [Option.some.injEq, Prod.mk.injEq] at H
        obtain ⟨rfl, rfl⟩ := H
        go_wp2
        go_ret2
        exact ⟨by first | rfl | (simp; done) | (simp [*]; done), by repeat (first | exact Drawn0.refl _ | apply Drawn0.step)⟩
      · replace c4 := Bool.eq_false_iff.mpr c4
        subst c4
        have H1 : (if (Go.bits .or .i64 (Go.bits .or .i64 (wrap64 (((wrap64 (Int.tdiv a0 100)) / 8) * 4)) (wrap64 (((Int.tmod (wrap64 (Int.tdiv a0 10)) 10) / 8) * 2))) ((Int.tmod a0 10) / 8)) = 0 then (some (Go.bits .or .i64 (Go.bits .or .i64 (Go.bits .or .i64 (Go.bits .or .i64 (Go.bits .or .i64 (wrap64 ((Go.bits .and .i64 (wrap64 (Int.tdiv a0 100)) 1) * 128)) (wrap64 ((Go.bits .and .i64 (Int.tmod (wrap64 (Int.tdiv a0 10)) 10) 1) * 16))) (Go.bits .and .i64 (Int.tmod a0 10) 1)) (wrap64 ((Go.bits .and .i64 ((wrap64 (Int.tdiv a0 100)) / 2) 3) * 256))) (wrap64 ((Go.bits .and .i64 ((Int.tmod (wrap64 (Int.tdiv a0 10)) 10) / 2) 3) * 32))) (wrap64 ((Go.bits .and .i64 ((Int.tmod a0 10) / 2) 3) * 2)), 0)) else (if (Go.bits .or .i64 (Go.bits .or .i64 (wrap64 (((wrap64 (Int.tdiv a0 100)) / 8) * 4)) (wrap64 (((Int.tmod (wrap64 (Int.tdiv a0 10)) 10) / 8) * 2))) ((Int.tmod a0 10) / 8)) = 1 then (some (Go.bits .or .i64 (Go.bits .or .i64 (Go.bits .or .i64 (Go.bits .or .i64 (Go.bits .or .i64 (wrap64 ((Go.bits .and .i64 (wrap64 (Int.tdiv a0 100)) 1) * 128)) (wrap64 ((Go.bits .and .i64 (Int.tmod (wrap64 (Int.tdiv a0 10)) 10) 1) * 16))) (Go.bits .and .i64 (Int.tmod a0 10) 1)) (wrap64 ((Go.bits .and .i64 ((wrap64 (Int.tdiv a0 100)) / 2) 3) * 256))) (wrap64 ((Go.bits .and .i64 ((Int.tmod (wrap64 (Int.tdiv a0 10)) 10) / 2) 3) * 32))) 8, 0)) else (if (Go.bits .or .i64 (Go.bits .or .i64 (wrap64 (((wrap64 (Int.tdiv a0 100)) / 8) * 4)) (wrap64 (((Int.tmod (wrap64 (Int.tdiv a0 10)) 10) / 8) * 2))) ((Int.tmod a0 10) / 8)) = 2 then (some (Go.bits .or .i64 (Go.bits .or .i64 (Go.bits .or .i64 (Go.bits .or .i64 (Go.bits .or .i64 (wrap64 ((Go.bits .and .i64 (wrap64 (Int.tdiv a0 100)) 1) * 128)) (wrap64 ((Go.bits .and .i64 (Int.tmod (wrap64 (Int.tdiv a0 10)) 10) 1) * 16))) (Go.bits .and .i64 (Int.tmod a0 10) 1)) (wrap64 ((Go.bits .and .i64 ((wrap64 (Int.tdiv a0 100)) / 2) 3) * 256))) (wrap64 ((Go.bits .and .i64 ((Int.tmod a0 10) / 2) 3) * 32))) 10, 0)) else (if (Go.bits .or .i64 (Go.bits .or .i64 (wrap64 (((wrap64 (Int.tdiv a0 100)) / 8) * 4)) (wrap64 (((Int.tmod (wrap64 (Int.tdiv a0 10)) 10) / 8) * 2))) ((Int.tmod a0 10) / 8)) = 4 then (some (Go.bits .or .i64 (Go.bits .or .i64 (Go.bits .or .i64 (Go.bits .or .i64 (Go.bits .or .i64 (wrap64 ((Go.bits .and .i64 (wrap64 (Int.tdiv a0 100)) 1) * 128)) (wrap64 ((Go.bits .and .i64 (Int.tmod (wrap64 (Int.tdiv a0 10)) 10) 1) * 16))) (Go.bits .and .i64 (Int.tmod a0 10) 1)) (wrap64 ((Go.bits .and .i64 ((Int.tmod a0 10) / 2) 3) * 256))) (wrap64 ((Go.bits .and .i64 ((Int.tmod (wrap64 (Int.tdiv a0 10)) 10) / 2) 3) * 32))) 12, 0)) else (if (Go.bits .or .i64 (Go.bits .or .i64 (wrap64 (((wrap64 (Int.tdiv a0 100)) / 8) * 4)) (wrap64 (((Int.tmod (wrap64 (Int.tdiv a0 10)) 10) / 8) * 2))) ((Int.tmod a0 10) / 8)) = 3 then (some (Go.bits .or .i64 (Go.bits .or .i64 (Go.bits .or .i64 (Go.bits .or .i64 (Go.bits .or .i64 (wrap64 ((Go.bits .and .i64 (wrap64 (Int.tdiv a0 100)) 1) * 128)) (wrap64 ((Go.bits .and .i64 (Int.tmod (wrap64 (Int.tdiv a0 10)) 10) 1) * 16))) (Go.bits .and .i64 (Int.tmod a0 10) 1)) (wrap64 ((Go.bits .and .i64 ((wrap64 (Int.tdiv a0 100)) / 2) 3) * 256))) 64) 14, 0)) else (if (Go.bits .or .i64 (Go.bits .or .i64 (wrap64 (((wrap64 (Int.tdiv a0 100)) / 8) * 4)) (wrap64 (((Int.tmod (wrap64 (Int.tdiv a0 10)) 10) / 8) * 2))) ((Int.tmod a0 10) / 8)) = 5 then (some (Go.bits .or .i64 (Go.bits .or .i64 (Go.bits .or .i64 (Go.bits .or .i64 (Go.bits .or .i64 (wrap64 ((Go.bits .and .i64 (wrap64 (Int.tdiv a0 100)) 1) * 128)) (wrap64 ((Go.bits .and .i64 (Int.tmod (wrap64 (Int.tdiv a0 10)) 10) 1) * 16))) (Go.bits .and .i64 (Int.tmod a0 10) 1)) (wrap64 ((Go.bits .and .i64 ((Int.tmod (wrap64 (Int.tdiv a0 10)) 10) / 2) 3) * 256))) 32) 14, 0)) else (if (Go.bits .or .i64 (Go.bits .or .i64 (wrap64 (((wrap64 (Int.tdiv a0 100)) / 8) * 4)) (wrap64 (((Int.tmod (wrap64 (Int.tdiv a0 10)) 10) / 8) * 2))) ((Int.tmod a0 10) / 8)) = 6 then (some (Go.bits .or .i64 (Go.bits .or .i64 (Go.bits .or .i64 (Go.bits .or .i64 (wrap64 ((Go.bits .and .i64 (wrap64 (Int.tdiv a0 100)) 1) * 128)) (wrap64 ((Go.bits .and .i64 (Int.tmod (wrap64 (Int.tdiv a0 10)) 10) 1) * 16))) (Go.bits .and .i64 (Int.tmod a0 10) 1)) (wrap64 ((Go.bits .and .i64 ((Int.tmod a0 10) / 2) 3) * 256))) 14, 0)) else (some (Go.bits .or .i64 (Go.bits .or .i64 (Go.bits .or .i64 (Go.bits .or .i64 (wrap64 ((Go.bits .and .i64 (wrap64 (Int.tdiv a0 100)) 1) * 128)) (wrap64 ((Go.bits .and .i64 (Int.tmod (wrap64 (Int.tdiv a0 10)) 10) 1) * 16))) (Go.bits .and .i64 (Int.tmod a0 10) 1)) 96) 14, 0))))))))) = some (r1, r2) := by rw [if_neg (show ¬ (false = true) by decide)] at H; exact H
        clear H
        have H := H1
        clear H1
        by_cases c5 : (Go.bits .or .i64 (Go.bits .or .i64 (wrap64 (((wrap64 (Int.tdiv a0 100)) / 8) * 4)) (wrap64 (((Int.tmod (wrap64 (Int.tdiv a0 10)) 10) / 8) * 2))) ((Int.tmod a0 10) / 8)) = 0
        · rw [if_pos c5] at H
          have c5b0 : ((Go.bits .or .i64 (Go.bits .or .i64 (wrap64 (((wrap64 (Int.tdiv a0 100)) / 8) * 4)) (wrap64 (((Int.tmod (wrap64 (Int.tdiv a0 10)) 10) / 8) * 2))) ((Int.tmod a0 10) / 8)) == 0) = true := beq_iff_eq.mpr c5
          have c5b1 : ((Go.bits .or .i64 (Go.bits .or .i64 (wrap64 (((wrap64 (Int.tdiv a0 100)) / 8) * 4)) (wrap64 (((Int.tmod (wrap64 (Int.tdiv a0 10)) 10) / 8) * 2))) ((Int.tmod a0 10) / 8)) != 0) = false := bne_eq_false_iff_eq.mpr c5
          clear c5
          simp only [Option.some.injEq, Prod.mk.injEq] at H
          obtain ⟨rfl, rfl⟩ := H
          go_wp2
          go_ret2
          exact ⟨by first | rfl | (simp; done) | (simp [*]; done), by repeat (first | exact Drawn0.refl _ | apply Drawn0.step)⟩
        · rw [if_neg c5] at H
          have c5b0 : ((Go.bits .or .i64 (Go.bits .or .i64 (wrap64 (((wrap64 (Int.tdiv a0 100)) / 8) * 4)) (wrap64 (((Int.tmod (wrap64 (Int.tdiv a0 10)) 10) / 8) * 2))) ((Int.tmod a0 10) / 8)) == 0) = false := beq_eq_false_iff_ne.mpr c5
          have c5b1 : ((Go.bits .or .i64 (Go.bits .or .i64 (wrap64 (((wrap64 (Int.tdiv a0 100)) / 8) * 4)) (wrap64 (((Int.tmod (wrap64 (Int.tdiv a0 10)) 10) / 8) * 2))) ((Int.tmod a0 10) / 8)) != 0) = true := bne_iff_ne.mpr c5
          by_cases c6 : (Go.bits .or .i64 (Go.bits .or .i64 (wrap64 (((wrap64 (Int.tdiv a0 100)) / 8) * 4)) (wrap64 (((Int.tmod (wrap64 (Int.tdiv a0 10)) 10) / 8) * 2))) ((Int.tmod a0 10) / 8)) = 1
          · rw [if_pos c6] at H
            have c6b0 : ((Go.bits .or .i64 (Go.bits .or .i64 (wrap64 (((wrap64 (Int.tdiv a0 100)) / 8) * 4)) (wrap64 (((Int.tmod (wrap64 (Int.tdiv a0 10)) 10) / 8) * 2))) ((Int.tmod a0 10) / 8)) == 1) = true := beq_iff_eq.mpr c6
            have c6b1 : ((Go.bits .or .i64 (Go.bits .or .i64 (wrap64 (((wrap64 (Int.tdiv a0 100)) / 8) * 4)) (wrap64 (((Int.tmod (wrap64 (Int.tdiv a0 10)) 10) / 8) * 2))) ((Int.tmod a0 10) / 8)) != 1) = false := bne_eq_false_iff_eq.mpr c6
            clear c6
            simp only [Option.some.injEq, Prod.mk.injEq] at H
            obtain ⟨rfl, rfl⟩ := H
            go_wp2
            go_ret2
            exact ⟨by first | rfl | (simp; done) | (simp [*]; done), by repeat (first | exact Drawn0.refl _ | apply Drawn0.step)⟩
          · rw [if_neg c6] at H
            have c6b0 : ((Go.bits .or .i64 (Go.bits .or .i64 (wrap64 (((wrap64 (Int.tdiv a0 100)) / 8) * 4)) (wrap64 (((Int.tmod (wrap64 (Int.tdiv a0 10)) 10) / 8) * 2))) ((Int.tmod a0 10) / 8)) == 1) = false := beq_eq_false_iff_ne.mpr c6
            have c6b1 : ((Go.bits .or .i64 (Go.bits .or .i64 (wrap64 (((wrap64 (Int.tdiv a0 100)) / 8) * 4)) (wrap64 (((Int.tmod (wrap64 (Int.tdiv a0 10)) 10) / 8) * 2))) ((Int.tmod a0 10) / 8)) != 1) = true := bne_iff_ne.mpr c6
            by_cases c7 : (Go.bits .or .i64 (Go.bits .or .i64 (wrap64 (((wrap64 (Int.tdiv a0 100)) / 8) * 4)) (wrap64 (((Int.tmod (wrap64 (Int.tdiv a0 10)) 10) / 8) * 2))) ((Int.tmod a0 10) / 8)) = 2
            · rw [if_pos c7] at H
              have c7b0 : ((Go.bits .or .i64 (Go.bits .or .i64 (wrap64 (((wrap64 (Int.tdiv a0 100)) / 8) * 4)) (wrap64 (((Int.tmod (wrap64 (Int.tdiv a0 10)) 10) / 8) * 2))) ((Int.tmod a0 10) / 8)) == 2) = true := beq_iff_eq.mpr c7
              have c7b1 : ((Go.bits .or .i64 (Go.bits .or .i64 (wrap64 (((wrap64 (Int.tdiv a0 100)) / 8) * 4)) (wrap64 (((Int.tmod (wrap64 (Int.tdiv a0 10)) 10) / 8) * 2))) ((Int.tmod a0 10) / 8)) != 2) = false := bne_eq_false_iff_eq.mpr c7
              clear c7
              simp only [Option.some.injEq, Prod.mk.injEq] at H
              obtain ⟨rfl, rfl⟩ := H
              go_wp2
              go_ret2
              exact ⟨by first | rfl | (simp; done) | (simp [*]; done), by repeat (first | exact Drawn0.refl _ | apply Drawn0.step)⟩
            · rw [if_neg c7] at H
              have c7b0 : ((Go.bits .or .i64 (Go.bits .or .i64 (wrap64 (((wrap64 (Int.tdiv a0 100)) / 8) * 4)) (wrap64 (((Int.tmod (wrap64 (Int.tdiv a0 10)) 10) / 8) * 2))) ((Int.tmod a0 10) / 8)) == 2) = false := beq_eq_false_iff_ne.mpr c7
              have c7b1 : ((Go.bits .or .i64 (Go.bits .or .i64 (wrap64 (((wrap64 (Int.tdiv a0 100)) / 8) * 4)) (wrap64 (((Int.tmod (wrap64 (Int.tdiv a0 10)) 10) / 8) * 2))) ((Int.tmod a0 10) / 8)) != 2) = true := bne_iff_ne.mpr c7
              by_cases c8 : (Go.bits .or .i64 (Go.bits .or .i64 (wrap64 (((wrap64 (Int.tdiv a0 100)) / 8) * 4)) (wrap64 (((Int.tmod (wrap64 (Int.tdiv a0 10)) 10) / 8) * 2))) ((Int.tmod a0 10) / 8)) = 4
              · rw [if_pos c8] at H
                have c8b0 : ((Go.bits .or .i64 (Go.bits .or .i64 (wrap64 (((wrap64 (Int.tdiv a0 100)) / 8) * 4)) (wrap64 (((Int.tmod (wrap64 (Int.tdiv a0 10)) 10) / 8) * 2))) ((Int.tmod a0 10) / 8)) == 4) = true := beq_iff_eq.mpr c8
                have c8b1 : ((Go.bits .or .i64 (Go.bits .or .i64 (wrap64 (((wrap64 (Int.tdiv a0 100)) / 8) * 4)) (wrap64 (((Int.tmod (wrap64 (Int.tdiv a0 10)) 10) / 8) * 2))) ((Int.tmod a0 10) / 8)) != 4) = false := bne_eq_false_iff_eq.mpr c8
                clear c8
                simp only [Option.some.injEq, Prod.mk.injEq] at H
                obtain ⟨rfl, rfl⟩ := H
                go_wp2
                go_ret2
                exact ⟨by first | rfl | (simp; done) | (simp [*]; done), by repeat (first | exact Drawn0.refl _ | apply Drawn0.step)⟩
              · rw [if_neg c8] at H
                have c8b0 : ((Go.bits .or .i64 (Go.bits .or .i64 (wrap64 (((wrap64 (Int.tdiv a0 100)) / 8) * 4)) (wrap64 (((Int.tmod (wrap64 (Int.tdiv a0 10)) 10) / 8) * 2))) ((Int.tmod a0 10) / 8)) == 4) = false := beq_eq_false_iff_ne.mpr c8
                have c8b1 : ((Go.bits .or .i64 (Go.bits .or .i64 (wrap64 (((wrap64 (Int.tdiv a0 100)) / 8) * 4)) (wrap64 (((Int.tmod (wrap64 (Int.tdiv a0 10)) 10) / 8) * 2))) ((Int.tmod a0 10) / 8)) != 4) = true := bne_iff_ne.mpr c8
                by_cases c9 : (Go.bits .or .i64 (Go.bits .or .i64 (wrap64 (((wrap64 (Int.tdiv a0 100)) / 8) * 4)) (wrap64 (((Int.tmod (wrap64 (Int.tdiv a0 10)) 10) / 8) * 2))) ((Int.tmod a0 10) / 8)) = 3
                · rw [if_pos c9] at H
                  have c9b0 : ((Go.bits .or .i64 (Go.bits .or .i64 (wrap64 (((wrap64 (Int.tdiv a0 100)) / 8) * 4)) (wrap64 (((Int.tmod (wrap64 (Int.tdiv a0 10)) 10) / 8) * 2))) ((Int.tmod a0 10) / 8)) == 3) = true := beq_iff_eq.mpr c9
                  have c9b1 : ((Go.bits .or .i64 (Go.bits .or .i64 (wrap64 (((wrap64 (Int.tdiv a0 100)) / 8) * 4)) (wrap64 (((Int.tmod (wrap64 (Int.tdiv a0 10)) 10) / 8) * 2))) ((Int.tmod a0 10) / 8)) != 3) = false := bne_eq_false_iff_eq.mpr c9
                  clear c9
                  simp only [Option.some.injEq, Prod.mk.injEq] at H
                  obtain ⟨rfl, rfl⟩ := H
                  go_wp2
                  go_ret2
                  exact ⟨by first | rfl | (simp; done) | (simp [*]; done), by repeat (first | exact Drawn0.refl _ | apply Drawn0.step)⟩
                · rw [if_neg c9] at H
                  have c9b0 : ((Go.bits .or .i64 (Go.bits .or .i64 (wrap64 (((wrap64 (Int.tdiv a0 100)) / 8) * 4)) (wrap64 (((Int.tmod (wrap64 (Int.tdiv a0 10)) 10) / 8) * 2))) ((Int.tmod a0 10) / 8)) == 3) = false := beq_eq_false_iff_ne.mpr c9
                  have c9b1 : ((Go.bits .or .i64 (Go.bits .or .i64 (wrap64 (((wrap64 (Int.tdiv a0 100)) / 8) * 4)) (wrap64 (((Int.tmod (wrap64 (Int.tdiv a0 10)) 10) / 8) * 2))) ((Int.tmod a0 10) / 8)) != 3) = true := bne_iff_ne.mpr c9
                  by_cases c10 : (Go.bits .or .i64 (Go.bits .or .i64 (wrap64 (((wrap64 (Int.tdiv a0 100)) / 8) * 4)) (wrap64 (((Int.tmod (wrap64 (Int.tdiv a0 10)) 10) / 8) * 2))) ((Int.tmod a0 10) / 8)) = 5
                  · rw [if_pos c10] at H
                    have c10b0 : ((Go.bits .or .i64 (Go.bits .or .i64 (wrap64 (((wrap64 (Int.tdiv a0 100)) / 8) * 4)) (wrap64 (((Int.tmod (wrap64 (Int.tdiv a0 10)) 10) / 8) * 2))) ((Int.tmod a0 10) / 8)) == 5) = true := beq_iff_eq.mpr c10
                    have c10b1 : ((Go.bits .or .i64 (Go.bits .or .i64 (wrap64 (((wrap64 (Int.tdiv a0 100)) / 8) * 4)) (wrap64 (((Int.tmod (wrap64 (Int.tdiv a0 10)) 10) / 8) * 2))) ((Int.tmod a0 10) / 8)) != 5) = false := bne_eq_false_iff_eq.mpr c10
                    clear c10
                    simp only [Option.some.injEq, Prod.mk.injEq] at H
                    obtain ⟨rfl, rfl⟩ := H
                    go_wp2
                    go_ret2
                    exact ⟨by first | rfl | (simp; done) | (simp [*]; done), by repeat (first | exact Drawn0.refl _ | apply Drawn0.step)⟩
                  · rw [if_neg c10] at H
                    have c10b0 : ((Go.bits .or .i64 (Go.bits .or .i64 (wrap64 (((wrap64 (Int.tdiv a0 100)) / 8) * 4)) (wrap64 (((Int.tmod (wrap64 (Int.tdiv a0 10)) 10) / 8) * 2))) ((Int.tmod a0 10) / 8)) == 5) = false := beq_eq_false_iff_ne.mpr c10
                    have c10b1 : ((Go.bits .or .i64 (Go.bits .or .i64 (wrap64 (((wrap64 (Int.tdiv a0 100)) / 8) * 4)) (wrap64 (((Int.tmod (wrap64 (Int.tdiv a0 10)) 10) / 8) * 2))) ((Int.tmod a0 10) / 8)) != 5) = true := bne_iff_ne.mpr c10
                    by_cases c11 : (Go.bits .or .i64 (Go.bits .or .i64 (wrap64 (((wrap64 (Int.tdiv a0 100)) / 8) * 4)) (wrap64 (((Int.tmod (wrap64 (Int.tdiv a0 10)) 10) / 8) * 2))) ((Int.tmod a0 10) / 8)) = 6
                    · rw [if_pos c11] at H
                      have c11b0 : ((Go.bits .or .i64 (Go.bits .or .i64 (wrap64 (((wrap64 (Int.tdiv a0 100)) / 8) * 4)) (wrap64 (((Int.tmod (wrap64 (Int.tdiv a0 10)) 10) / 8) * 2))) ((Int.tmod a0 10) / 8)) == 6) = true := beq_iff_eq.mpr c11
                      have c11b1 : ((Go.bits .or .i64 (Go.bits .or .i64 (wrap64 (((wrap64 (Int.tdiv a0 100)) / 8) * 4)) (wrap64 (((Int.tmod (wrap64 (Int.tdiv a0 10)) 10) / 8) * 2))) ((Int.tmod a0 10) / 8)) != 6) = false := bne_eq_false_iff_eq.mpr c11
                      clear c11
                      simp only [Option.some.injEq, Prod.mk.injEq] at H
                      obtain ⟨rfl, rfl⟩ := H
                      go_wp2
                      go_ret2
                      exact ⟨by first | rfl | (simp; done) | (simp [*]; done), by repeat (first | exact Drawn0.refl _ | apply Drawn0.step)⟩
                    · rw [if_neg c11] at H
                      have c11b0 : ((Go.bits .or .i64 (Go.bits .or .i64 (wrap64 (((wrap64 (Int.tdiv a0 100)) / 8) * 4)) (wrap64 (((Int.tmod (wrap64 (Int.tdiv a0 10)) 10) / 8) * 2))) ((Int.tmod a0 10) / 8)) == 6) = false := beq_eq_false_iff_ne.mpr c11
                      have c11b1 : ((Go.bits .or .i64 (Go.bits .or .i64 (wrap64 (((wrap64 (Int.tdiv a0 100)) / 8) * 4)) (wrap64 (((Int.tmod (wrap64 (Int.tdiv a0 10)) 10) / 8) * 2))) ((Int.tmod a0 10) / 8)) != 6) = true := bne_iff_ne.mpr c11
                      simp only [Option.some.injEq, Prod.mk.injEq] at H
                      obtain ⟨rfl, rfl⟩ := H
                      go_wp2
                      go_ret2
                      exact ⟨by first | rfl | (simp; done) | (simp [*]; done), by repeat (first | exact Drawn0.refl _ | apply Drawn0.step)⟩

/-! ### caliperlaw13_awake: function 15 -/
def caliperlaw13_awake.f (k : Nat)  : Option (Bool) := (declet_Encode.f k 80).bind fun bt101 => (if bt101.1 = 10 then (some (bt101.2 == 0)) else (some false))
theorem caliperlaw13_awake.mono : ∀ k, LeO (caliperlaw13_awake.f k ) (caliperlaw13_awake.f (k + 1) ) := by
  intro  k
  unfold caliperlaw13_awake.f
  repeat' first
      | (with_reducible exact declet_Encode.mono _ _)
      | (with_reducible exact LeO.refl _)
      | (with_reducible exact LeO.none _)
      | (with_reducible refine LeO.ite ?_ ?_)
      | (with_reducible refine LeO.bind ?_ (fun _ => ?_))
      | exact declet_Encode.mono _ _
      | exact LeO.none _
      | refine LeO.ite ?_ ?_
      | refine LeO.bind ?_ (fun _ => ?_)
set_option maxHeartbeats 8000000 in
set_option maxRecDepth 100000 in
theorem caliperlaw13_awake.calls (k : Nat)  (r : Bool) (w : World) (h : caliperlaw13_awake.f k  = some r) :
    Calls Try.prog 15 #[] w fun e w' => e = .returned (.bool r) ∧ Drawn0 w w' := by
  have H : ((declet_Encode.f k 80).bind fun bt101 => (if bt101.1 = 10 then (some (bt101.2 == 0)) else (some false))) = some r := h
  clear h
  replace H := Option.bind_eq_some_iff.mp H
  obtain ⟨⟨t101, t102⟩, A10, H⟩ := H
  replace H : (if t101 = 10 then (some (t102 == 0)) else (some false)) = some r := H
  have A1 := Aside0.mk A10
  clear A10
  by_cases c2 : t101 = 10
  · rw [if_pos c2] at H
    have c2b0 : (t101 == 10) = true := beq_iff_eq.mpr c2
    have c2b1 : (t101 != 10) = false := bne_eq_false_iff_eq.mpr c2
    clear c2
    obtain rfl := Option.some.inj H
    go_enter Try.func15, Try.ntmps15
    go_wp2_with (first | ((with_reducible refine gate_callee (f := 16) rfl ?_); refine goesL_ (some 4) rfl rfl Try.func16 (by kernel_rfl) rfl #[.int .i64 80] rfl (by (try simp only [List.map_toArray, List.map_cons, List.map_nil]); first | done | rfl | (simp only [List.length_drop, List.length_take]; rfl)) ?_; (with_reducible refine (declet_Encode.calls k 80 t101 t102 _ A1.out).mono ?_); rintro e w' ⟨rfl, ⟨nd, rfl⟩⟩; refine ⟨_, rfl, ?_⟩))
    go_ret
    exact ⟨by first | rfl | (simp; done) | (simp [*]; done), by repeat (first | exact Drawn0.refl _ | apply Drawn0.step)⟩
  · rw [if_neg c2] at H
    have c2b0 : (t101 == 10) = false := beq_eq_false_iff_ne.mpr c2
    have c2b1 : (t101 != 10) = true := bne_iff_ne.mpr c2
    obtain rfl := Option.some.inj H
    go_enter Try.func15, Try.ntmps15
    go_wp2_with (first | ((with_reducible refine gate_callee (f := 16) rfl ?_); refine goesL_ (some 4) rfl rfl Try.func16 (by kernel_rfl) rfl #[.int .i64 80] rfl (by (try simp only [List.map_toArray, List.map_cons, List.map_nil]); first | done | rfl | (simp only [List.length_drop, List.length_take]; rfl)) ?_; (with_reducible refine (declet_Encode.calls k 80 t101 t102 _ A1.out).mono ?_); rintro e w' ⟨rfl, ⟨nd, rfl⟩⟩; refine ⟨_, rfl, ?_⟩))
    go_ret
    exact ⟨by first | rfl | (simp; done) | (simp [*]; done), by repeat (first | exact Drawn0.refl _ | apply Drawn0.step)⟩

/-! ### declet_Decode: function 18 -/
def declet_Decode.j0 : Nat → Int → Bool → Option (Int × Int)
  | 0, _, _ => none
  | k + 1, x0, x15 => if x15 = true then (some (0, 3)) else (if (Go.bits .and .i64 (x0 / 2) 7) < 4 then (some (wrap64 ((wrap64 ((wrap64 ((wrap64 ((wrap64 ((wrap64 (2 * (Go.bits .and .i64 (x0 / 256) 3))) + (Go.bits .and .i64 (x0 / 128) 1))) * 100)) + (wrap64 ((wrap64 ((wrap64 (2 * (Go.bits .and .i64 (x0 / 32) 3))) + (Go.bits .and .i64 (x0 / 16) 1))) * 10)))) + (wrap64 (2 * (Go.bits .and .i64 (x0 / 2) 7))))) + (Go.bits .and .i64 x0 1)), 0)) else (if (Go.bits .and .i64 (x0 / 2) 7) = 4 then (some (wrap64 ((wrap64 ((wrap64 ((wrap64 ((wrap64 ((wrap64 (2 * (Go.bits .and .i64 (x0 / 256) 3))) + (Go.bits .and .i64 (x0 / 128) 1))) * 100)) + (wrap64 ((wrap64 ((wrap64 (2 * (Go.bits .and .i64 (x0 / 32) 3))) + (Go.bits .and .i64 (x0 / 16) 1))) * 10)))) + (2 * 4))) + (Go.bits .and .i64 x0 1)), 0)) else (if (Go.bits .and .i64 (x0 / 2) 7) = 5 then (some (wrap64 ((wrap64 ((wrap64 ((wrap64 ((wrap64 ((wrap64 (2 * (Go.bits .and .i64 (x0 / 256) 3))) + (Go.bits .and .i64 (x0 / 128) 1))) * 100)) + (wrap64 ((wrap64 ((2 * 4) + (Go.bits .and .i64 (x0 / 16) 1))) * 10)))) + (wrap64 (2 * (Go.bits .and .i64 (x0 / 32) 3))))) + (Go.bits .and .i64 x0 1)), 0)) else (if (Go.bits .and .i64 (x0 / 2) 7) = 6 then (some (wrap64 ((wrap64 ((wrap64 ((wrap64 ((wrap64 ((2 * 4) + (Go.bits .and .i64 (x0 / 128) 1))) * 100)) + (wrap64 ((wrap64 ((wrap64 (2 * (Go.bits .and .i64 (x0 / 32) 3))) + (Go.bits .and .i64 (x0 / 16) 1))) * 10)))) + (wrap64 (2 * (Go.bits .and .i64 (x0 / 256) 3))))) + (Go.bits .and .i64 x0 1)), 0)) else (if (Go.bits .and .i64 (x0 / 32) 3) = 0 then (some (wrap64 ((wrap64 ((wrap64 ((wrap64 ((wrap64 ((2 * 4) + (Go.bits .and .i64 (x0 / 128) 1))) * 100)) + (wrap64 ((wrap64 ((2 * 4) + (Go.bits .and .i64 (x0 / 16) 1))) * 10)))) + (wrap64 (2 * (Go.bits .and .i64 (x0 / 256) 3))))) + (Go.bits .and .i64 x0 1)), 0)) else (if (Go.bits .and .i64 (x0 / 32) 3) = 1 then (some (wrap64 ((wrap64 ((wrap64 ((wrap64 ((wrap64 ((2 * 4) + (Go.bits .and .i64 (x0 / 128) 1))) * 100)) + (wrap64 ((wrap64 ((wrap64 (2 * (Go.bits .and .i64 (x0 / 256) 3))) + (Go.bits .and .i64 (x0 / 16) 1))) * 10)))) + (2 * 4))) + (Go.bits .and .i64 x0 1)), 0)) else (if (Go.bits .and .i64 (x0 / 32) 3) = 2 then (some (wrap64 ((wrap64 ((wrap64 ((wrap64 ((wrap64 ((wrap64 (2 * (Go.bits .and .i64 (x0 / 256) 3))) + (Go.bits .and .i64 (x0 / 128) 1))) * 100)) + (wrap64 ((wrap64 ((2 * 4) + (Go.bits .and .i64 (x0 / 16) 1))) * 10)))) + (2 * 4))) + (Go.bits .and .i64 x0 1)), 0)) else (some (wrap64 ((wrap64 ((wrap64 ((wrap64 ((wrap64 ((2 * 4) + (Go.bits .and .i64 (x0 / 128) 1))) * 100)) + (wrap64 ((wrap64 ((2 * 4) + (Go.bits .and .i64 (x0 / 16) 1))) * 10)))) + (2 * 4))) + (Go.bits .and .i64 x0 1)), 0)))))))))
def declet_Decode.f (k : Nat) (a0 : Int) : Option (Int × Int) := if a0 < 0 then (declet_Decode.j0 k a0 true) else (declet_Decode.j0 k a0 (decide (a0 > 1023)))
theorem declet_Decode.mono_l : ∀ k, (∀ y0 y1, LeO (declet_Decode.j0 k y0 y1) (declet_Decode.j0 (k + 1) y0 y1))
  | 0 => fun _ _ r h => by simp [declet_Decode.j0] at h
  | k + 1 => by
    have ih0 := declet_Decode.mono_l k
    · intro y0 y1
      unfold declet_Decode.j0
      repeat' first
      | (with_reducible exact ih0 _ _)
      | (with_reducible exact LeO.refl _)
      | (with_reducible exact LeO.none _)
      | (with_reducible refine LeO.ite ?_ ?_)
      | (with_reducible refine LeO.bind ?_ (fun _ => ?_))
      | exact ih0 _ _
      | exact LeO.none _
      | refine LeO.ite ?_ ?_
      | refine LeO.bind ?_ (fun _ => ?_)
theorem declet_Decode.mono : ∀ a0 k, LeO (declet_Decode.f k a0) (declet_Decode.f (k + 1) a0) := by
  intro a0 k
  have ih0 := declet_Decode.mono_l k
  unfold declet_Decode.f
  repeat' first
      | (with_reducible exact ih0 _ _)
      | (with_reducible exact LeO.refl _)
      | (with_reducible exact LeO.none _)
      | (with_reducible refine LeO.ite ?_ ?_)
      | (with_reducible refine LeO.bind ?_ (fun _ => ?_))
      | exact ih0 _ _
      | exact LeO.none _
      | refine LeO.ite ?_ ?_
      | refine LeO.bind ?_ (fun _ => ?_)
set_option maxHeartbeats 8000000 in
set_option maxRecDepth 100000 in
theorem declet_Decode.calls (k : Nat) (a0 : Int) (r1 : Int) (r2 : Int) (w : World) (h : declet_Decode.f k a0 = some (r1, r2)) :
    Calls Try.prog 18 #[.int .i64 a0] w fun e w' => e = .returned (.tuple #[.int .i64 r1, .int .i64 r2]) ∧ Drawn0 w w' := by
  have H : (if a0 < 0 then (declet_Decode.j0 k a0 true) else (declet_Decode.j0 k a0 (decide (a0 > 1023)))) = some (r1, r2) := h
  clear h
  have HC2 := Aside0.mk H
  clear H
  go_enter Try.func18, Try.ntmps18
  go_upto_region 1 with (fail)
  go_cut [15] (fun v15 wc => ∃ (kq : Nat) (x15_1 : Bool), v15 = .bool x15_1 ∧ Aside0 (declet_Decode.j0 kq a0 x15_1 = some (r1, r2)) ∧ Aside0 (kq ≤ k) ∧ Drawn0 w wc)
  case first =>
    have H := HC2.out
    clear HC2
    by_cases c3 : a0 < 0
    · rw [if_pos c3] at H
      have c3b0 : decide (a0 < 0) = true := decide_eq_true c3
      clear c3
      (first | rw [c3b0] | (simp only [i64_w, i32_w]; rw [c3b0]) | skip)
      have H' := Aside0.mk H
      clear H
      go_wp2
      go_meet
      case rel => exact ⟨_, (true), (by first | rfl | (simp; done) | (simp [*]; done)), H', ⟨by first | omega | exact Nat.le_refl _⟩, by repeat (first | exact Drawn0.refl _ | apply Drawn0.step)⟩
    · rw [if_neg c3] at H
      have c3b0 : decide (a0 < 0) = false := decide_eq_false c3
      clear c3
      (first | rw [c3b0] | (simp only [i64_w, i32_w]; rw [c3b0]) | skip)
      have H' := Aside0.mk H
      clear H
      go_wp2
      go_meet
      case rel => exact ⟨_, (decide (a0 > 1023)), (by first | rfl | (simp; done) | (simp [*]; done)), H', ⟨by first | omega | exact Nat.le_refl _⟩, by repeat (first | exact Drawn0.refl _ | apply Drawn0.step)⟩
  case rest =>
    clear HC2
    try clear c1
    try clear p2
    try clear c3
    try clear c3b0
    obtain ⟨kq, x15_1, rfl, HA, HJ1, ⟨mc1, rfl⟩⟩ := hcut
    cases kq with
    | zero => exact absurd HA.out (by simp [declet_Decode.j0])
    | succ kj1 =>
      have H := HA.out
      clear HA
      simp only [declet_Decode.j0] at H
      by_cases c4 : x15_1 = true
      · subst c4
        have H1 : (some (0, 3)) = some (r1, r2) := by rw [if_pos rfl] at H; exact H
        clear H
        have H := H1
        clear H1
        simp only [Option.some.injEq, Prod.mk.injEq] at H
        obtain ⟨rfl, rfl⟩ := H
        go_wp2
        go_ret2
        exact ⟨by first | rfl | (simp; done) | (simp [*]; done), by repeat (first | exact Drawn0.refl _ | apply Drawn0.step)⟩
      · replace c4 := Bool.eq_false_iff.mpr c4
        subst c4
        have H1 : (if (Go.bits .and .i64 (a0 / 2) 7) < 4 then (some (wrap64 ((wrap64 ((wrap64 ((wrap64 ((wrap64 ((wrap64 (2 * (Go.bits .and .i64 (a0 / 256) 3))) + (Go.bits .and .i64 (a0 / 128) 1))) * 100)) + (wrap64 ((wrap64 ((wrap64 (2 * (Go.bits .and .i64 (a0 / 32) 3))) + (Go.bits .and .i64 (a0 / 16) 1))) * 10)))) + (wrap64 (2 * (Go.bits .and .i64 (a0 / 2) 7))))) + (Go.bits .and .i64 a0 1)), 0)) else (if (Go.bits .and .i64 (a0 / 2) 7) = 4 then (some (wrap64 ((wrap64 ((wrap64 ((wrap64 ((wrap64 ((wrap64 (2 * (Go.bits .and .i64 (a0 / 256) 3))) + (Go.bits .and .i64 (a0 / 128) 1))) * 100)) + (wrap64 ((wrap64 ((wrap64 (2 * (Go.bits .and .i64 (a0 / 32) 3))) + (Go.bits .and .i64 (a0 / 16) 1))) * 10)))) + (2 * 4))) + (Go.bits .and .i64 a0 1)), 0)) else (if (Go.bits .and .i64 (a0 / 2) 7) = 5 then (some (wrap64 ((wrap64 ((wrap64 ((wrap64 ((wrap64 ((wrap64 (2 * (Go.bits .and .i64 (a0 / 256) 3))) + (Go.bits .and .i64 (a0 / 128) 1))) * 100)) + (wrap64 ((wrap64 ((2 * 4) + (Go.bits .and .i64 (a0 / 16) 1))) * 10)))) + (wrap64 (2 * (Go.bits .and .i64 (a0 / 32) 3))))) + (Go.bits .and .i64 a0 1)), 0)) else (if (Go.bits .and .i64 (a0 / 2) 7) = 6 then (some (wrap64 ((wrap64 ((wrap64 ((wrap64 ((wrap64 ((2 * 4) + (Go.bits .and .i64 (a0 / 128) 1))) * 100)) + (wrap64 ((wrap64 ((wrap64 (2 * (Go.bits .and .i64 (a0 / 32) 3))) + (Go.bits .and .i64 (a0 / 16) 1))) * 10)))) + (wrap64 (2 * (Go.bits .and .i64 (a0 / 256) 3))))) + (Go.bits .and .i64 a0 1)), 0)) else (if (Go.bits .and .i64 (a0 / 32) 3) = 0 then (some (wrap64 ((wrap64 ((wrap64 ((wrap64 ((wrap64 ((2 * 4) + (Go.bits .and .i64 (a0 / 128) 1))) * 100)) + (wrap64 ((wrap64 ((2 * 4) + (Go.bits .and .i64 (a0 / 16) 1))) * 10)))) + (wrap64 (2 * (Go.bits .and .i64 (a0 / 256) 3))))) + (Go.bits .and .i64 a0 1)), 0)) else (if (Go.bits .and .i64 (a0 / 32) 3) = 1 then (some (wrap64 ((wrap64 ((wrap64 ((wrap64 ((wrap64 ((2 * 4) + (Go.bits .and .i64 (a0 / 128) 1))) * 100)) + (wrap64 ((wrap64 ((wrap64 (2 * (Go.bits .and .i64 (a0 / 256) 3))) + (Go.bits .and .i64 (a0 / 16) 1))) * 10)))) + (2 * 4))) + (Go.bits .and .i64 a0 1)), 0)) else (if (Go.bits .and .i64 (a0 / 32) 3) = 2 then (some (wrap64 ((wrap64 ((wrap64 ((wrap64 ((wrap64 ((wrap64 (2 * (Go.bits .and .i64 (a0 / 256) 3))) + (Go.bits .and .i64 (a0 / 128) 1))) * 100)) + (wrap64 ((wrap64 ((2 * 4) + (Go.bits .and .i64 (a0 / 16) 1))) * 10)))) + (2 * 4))) + (Go.bits .and .i64 a0 1)), 0)) else (some (wrap64 ((wrap64 ((wrap64 ((wrap64 ((wrap64 ((2 * 4) + (Go.bits .and .i64 (a0 / 128) 1))) * 100)) + (wrap64 ((wrap64 ((2 * 4) + (Go.bits .and .i64 (a0 / 16) 1))) * 10)))) + (2 * 4))) + (Go.bits .and .i64 a0 1)), 0))))))))) = some (r1, r2) := by rw [if_neg (show ¬ (false = true) by decide)] at H; exact H
        clear H
        have H := H1
        clear H1
        by_cases c5 : (Go.bits .and .i64 (a0 / 2) 7) < 4
        · rw [if_pos c5] at H
          have c5b0 : decide ((Go.bits .and .i64 (a0 / 2) 7) < 4) = true := decide_eq_true c5
          clear c5
          simp only [Option.some.injEq, Prod.mk.injEq] at H
          obtain ⟨rfl, rfl⟩ := H
          go_wp2
          go_ret2
          exact ⟨by first | rfl | (simp; done) | (simp [*]; done), by repeat (first | exact Drawn0.refl _ | apply Drawn0.step)⟩
        · rw [if_neg c5] at H
          have c5b0 : decide ((Go.bits .and .i64 (a0 / 2) 7) < 4) = false := decide_eq_false c5
          clear c5
          by_cases c6 : (Go.bits .and .i64 (a0 / 2) 7) = 4
          · rw [if_pos c6] at H
            have c6b0 : ((Go.bits .and .i64 (a0 / 2) 7) == 4) = true := beq_iff_eq.mpr c6
            have c6b1 : ((Go.bits .and .i64 (a0 / 2) 7) != 4) = false := bne_eq_false_iff_eq.mpr c6
            clear c6
            simp only [Option.some.injEq, Prod.mk.injEq] at H
            obtain ⟨rfl, rfl⟩ := H
            go_wp2
            go_ret2
            exact ⟨by first | rfl | (simp; done) | (simp [*]; done), by repeat (first | exact Drawn0.refl _ | apply Drawn0.step)⟩
          · rw [if_neg c6] at H
            have c6b0 : ((Go.bits .and .i64 (a0 / 2) 7) == 4) = false := beq_eq_false_iff_ne.mpr c6
            have c6b1 : ((Go.bits .and .i64 (a0 / 2) 7) != 4) = true := bne_iff_ne.mpr c6
            by_cases c7 : (Go.bits .and .i64 (a0 / 2) 7) = 5
            · rw [if_pos c7] at H
              have c7b0 : ((Go.bits .and .i64 (a0 / 2) 7) == 5) = true := beq_iff_eq.mpr c7
              have c7b1 : ((Go.bits .and .i64 (a0 / 2) 7) != 5) = false := bne_eq_false_iff_eq.mpr c7
              clear c7
              simp only [Option.some.injEq, Prod.mk.injEq] at H
              obtain ⟨rfl, rfl⟩ := H
              go_wp2
              go_ret2
              exact ⟨by first | rfl | (simp; done) | (simp [*]; done), by repeat (first | exact Drawn0.refl _ | apply Drawn0.step)⟩
            · rw [if_neg c7] at H
              have c7b0 : ((Go.bits .and .i64 (a0 / 2) 7) == 5) = false := beq_eq_false_iff_ne.mpr c7
              have c7b1 : ((Go.bits .and .i64 (a0 / 2) 7) != 5) = true := bne_iff_ne.mpr c7
              by_cases c8 : (Go.bits .and .i64 (a0 / 2) 7) = 6
              · rw [if_pos c8] at H
                have c8b0 : ((Go.bits .and .i64 (a0 / 2) 7) == 6) = true := beq_iff_eq.mpr c8
                have c8b1 : ((Go.bits .and .i64 (a0 / 2) 7) != 6) = false := bne_eq_false_iff_eq.mpr c8
                clear c8
                simp only [Option.some.injEq, Prod.mk.injEq] at H
                obtain ⟨rfl, rfl⟩ := H
                go_wp2
                go_ret2
                exact ⟨by first | rfl | (simp; done) | (simp [*]; done), by repeat (first | exact Drawn0.refl _ | apply Drawn0.step)⟩
              · rw [if_neg c8] at H
                have c8b0 : ((Go.bits .and .i64 (a0 / 2) 7) == 6) = false := beq_eq_false_iff_ne.mpr c8
                have c8b1 : ((Go.bits .and .i64 (a0 / 2) 7) != 6) = true := bne_iff_ne.mpr c8
                by_cases c9 : (Go.bits .and .i64 (a0 / 32) 3) = 0
                · rw [if_pos c9] at H
                  have c9b0 : ((Go.bits .and .i64 (a0 / 32) 3) == 0) = true := beq_iff_eq.mpr c9
                  have c9b1 : ((Go.bits .and .i64 (a0 / 32) 3) != 0) = false := bne_eq_false_iff_eq.mpr c9
                  clear c9
                  simp only [Option.some.injEq, Prod.mk.injEq] at H
                  obtain ⟨rfl, rfl⟩ := H
                  go_wp2
                  go_ret2
                  exact ⟨by first | rfl | (simp; done) | (simp [*]; done), by repeat (first | exact Drawn0.refl _ | apply Drawn0.step)⟩
                · rw [if_neg c9] at H
                  have c9b0 : ((Go.bits .and .i64 (a0 / 32) 3) == 0) = false := beq_eq_false_iff_ne.mpr c9
                  have c9b1 : ((Go.bits .and .i64 (a0 / 32) 3) != 0) = true := bne_iff_ne.mpr c9
                  by_cases c10 : (Go.bits .and .i64 (a0 / 32) 3) = 1
                  · rw [if_pos c10] at H
                    have c10b0 : ((Go.bits .and .i64 (a0 / 32) 3) == 1) = true := beq_iff_eq.mpr c10
                    have c10b1 : ((Go.bits .and .i64 (a0 / 32) 3) != 1) = false := bne_eq_false_iff_eq.mpr c10
                    clear c10
                    simp only [Option.some.injEq, Prod.mk.injEq] at H
                    obtain ⟨rfl, rfl⟩ := H
                    go_wp2
                    go_ret2
                    exact ⟨by first | rfl | (simp; done) | (simp [*]; done), by repeat (first | exact Drawn0.refl _ | apply Drawn0.step)⟩
                  · rw [if_neg c10] at H
                    have c10b0 : ((Go.bits .and .i64 (a0 / 32) 3) == 1) = false := beq_eq_false_iff_ne.mpr c10
                    have c10b1 : ((Go.bits .and .i64 (a0 / 32) 3) != 1) = true := bne_iff_ne.mpr c10
                    by_cases c11 : (Go.bits .and .i64 (a0 / 32) 3) = 2
                    · rw [if_pos c11] at H
                      have c11b0 : ((Go.bits .and .i64 (a0 / 32) 3) == 2) = true := beq_iff_eq.mpr c11
                      have c11b1 : ((Go.bits .and .i64 (a0 / 32) 3) != 2) = false := bne_eq_false_iff_eq.mpr c11
                      clear c11
                      simp only [Option.some.injEq, Prod.mk.injEq] at H
                      obtain ⟨rfl, rfl⟩ := H
                      go_wp2
                      go_ret2
                      exact ⟨by first | rfl | (simp; done) | (simp [*]; done), by repeat (first | exact Drawn0.refl _ | apply Drawn0.step)⟩
                    · rw [if_neg c11] at H
                      have c11b0 : ((Go.bits .and .i64 (a0 / 32) 3) == 2) = false := beq_eq_false_iff_ne.mpr c11
                      have c11b1 : ((Go.bits .and .i64 (a0 / 32) 3) != 2) = true := bne_iff_ne.mpr c11
                      simp only [Option.some.injEq, Prod.mk.injEq] at H
                      obtain ⟨rfl, rfl⟩ := H
                      go_wp2
                      go_ret2
                      exact ⟨by first | rfl | (simp; done) | (simp [*]; done), by repeat (first | exact Drawn0.refl _ | apply Drawn0.step)⟩

/-! ### declet_Canonical: function 20 -/
def declet_Canonical.f (k : Nat) (a0 : Int) : Option (Bool) := (declet_Decode.f k a0).bind fun bt103 => ((declet_Encode.f k bt103.1).bind fun bt105 => (if bt103.2 = 0 then (some (bt105.1 == a0)) else (some false)))
theorem declet_Canonical.mono : ∀ a0 k, LeO (declet_Canonical.f k a0) (declet_Canonical.f (k + 1) a0) := by
  intro a0 k
  unfold declet_Canonical.f
  repeat' first
      | (with_reducible exact declet_Decode.mono _ _)
      | (with_reducible exact declet_Encode.mono _ _)
      | (with_reducible exact LeO.refl _)
      | (with_reducible exact LeO.none _)
      | (with_reducible refine LeO.ite ?_ ?_)
      | (with_reducible refine LeO.bind ?_ (fun _ => ?_))
      | exact declet_Decode.mono _ _
      | exact declet_Encode.mono _ _
      | exact LeO.none _
      | refine LeO.ite ?_ ?_
      | refine LeO.bind ?_ (fun _ => ?_)
set_option maxHeartbeats 8000000 in
set_option maxRecDepth 100000 in
theorem declet_Canonical.calls (k : Nat) (a0 : Int) (r : Bool) (w : World) (h : declet_Canonical.f k a0 = some r) :
    Calls Try.prog 20 #[.int .i64 a0] w fun e w' => e = .returned (.bool r) ∧ Drawn0 w w' := by
  have H : ((declet_Decode.f k a0).bind fun bt103 => ((declet_Encode.f k bt103.1).bind fun bt105 => (if bt103.2 = 0 then (some (bt105.1 == a0)) else (some false)))) = some r := h
  clear h
  replace H := Option.bind_eq_some_iff.mp H
  obtain ⟨⟨t103, t104⟩, A20, H⟩ := H
  replace H : ((declet_Encode.f k t103).bind fun bt105 => (if t104 = 0 then (some (bt105.1 == a0)) else (some false))) = some r := H
  have A2 := Aside0.mk A20
  clear A20
  replace H := Option.bind_eq_some_iff.mp H
  obtain ⟨⟨t105, t106⟩, A30, H⟩ := H
  replace H : (if t104 = 0 then (some (t105 == a0)) else (some false)) = some r := H
  have A3 := Aside0.mk A30
  clear A30
  by_cases c4 : t104 = 0
  · rw [if_pos c4] at H
    have c4b0 : (t104 == 0) = true := beq_iff_eq.mpr c4
    have c4b1 : (t104 != 0) = false := bne_eq_false_iff_eq.mpr c4
    clear c4
    obtain rfl := Option.some.inj H
    go_enter Try.func20, Try.ntmps20
    go_wp2_with (first | ((with_reducible refine gate_callee (f := 18) rfl ?_); refine goesL_ (some 9) rfl rfl Try.func18 (by kernel_rfl) rfl #[.int .i64 a0] rfl (by (try simp only [List.map_toArray, List.map_cons, List.map_nil]); first | done | rfl | (simp only [List.length_drop, List.length_take]; rfl)) ?_; (with_reducible refine (declet_Decode.calls k a0 t103 t104 _ A2.out).mono ?_); rintro e w' ⟨rfl, ⟨nd, rfl⟩⟩; refine ⟨_, rfl, ?_⟩) | ((with_reducible refine gate_callee (f := 16) rfl ?_); refine goesL_ (some 14) rfl rfl Try.func16 (by kernel_rfl) rfl #[.int .i64 t103] rfl (by (try simp only [List.map_toArray, List.map_cons, List.map_nil]); first | done | rfl | (simp only [List.length_drop, List.length_take]; rfl)) ?_; (with_reducible refine (declet_Encode.calls k t103 t105 t106 _ A3.out).mono ?_); rintro e w' ⟨rfl, ⟨nd, rfl⟩⟩; refine ⟨_, rfl, ?_⟩))
    go_ret
    exact ⟨by first | rfl | (simp; done) | (simp [*]; done), by repeat (first | exact Drawn0.refl _ | apply Drawn0.step)⟩
  · rw [if_neg c4] at H
    have c4b0 : (t104 == 0) = false := beq_eq_false_iff_ne.mpr c4
    have c4b1 : (t104 != 0) = true := bne_iff_ne.mpr c4
    obtain rfl := Option.some.inj H
    go_enter Try.func20, Try.ntmps20
    go_wp2_with (first | ((with_reducible refine gate_callee (f := 18) rfl ?_); refine goesL_ (some 9) rfl rfl Try.func18 (by kernel_rfl) rfl #[.int .i64 a0] rfl (by (try simp only [List.map_toArray, List.map_cons, List.map_nil]); first | done | rfl | (simp only [List.length_drop, List.length_take]; rfl)) ?_; (with_reducible refine (declet_Decode.calls k a0 t103 t104 _ A2.out).mono ?_); rintro e w' ⟨rfl, ⟨nd, rfl⟩⟩; refine ⟨_, rfl, ?_⟩) | ((with_reducible refine gate_callee (f := 16) rfl ?_); refine goesL_ (some 14) rfl rfl Try.func16 (by kernel_rfl) rfl #[.int .i64 t103] rfl (by (try simp only [List.map_toArray, List.map_cons, List.map_nil]); first | done | rfl | (simp only [List.length_drop, List.length_take]; rfl)) ?_; (with_reducible refine (declet_Encode.calls k t103 t105 t106 _ A3.out).mono ?_); rintro e w' ⟨rfl, ⟨nd, rfl⟩⟩; refine ⟨_, rfl, ?_⟩))
    go_ret
    exact ⟨by first | rfl | (simp; done) | (simp [*]; done), by repeat (first | exact Drawn0.refl _ | apply Drawn0.step)⟩

/-! ### caliperlaw13_DecletBack: function 5 -/
mutual
def caliperlaw13_DecletBack.l0 : Nat → Int → Int → Int → Option (Bool)
  | 0, _, _, _ => none
  | k + 1, x0, x3, x15 => if x15 < 1024 then ((declet_Decode.f k x15).bind fun bt114 => (if bt114.2 = 0 then (if bt114.1 < 0 then (caliperlaw13_DecletBack.j1 k x0 x3 x15 bt114.1 x15 true) else (caliperlaw13_DecletBack.j1 k x0 x3 x15 bt114.1 x15 (decide (bt114.1 > 999)))) else (caliperlaw13_DecletBack.j1 k x0 x3 x15 bt114.1 x15 true))) else ((declet_Encode.f k x0).bind fun bt108 => ((declet_Decode.f k bt108.1).bind fun bt110 => (if x3 = 1000 then (if bt108.2 = 0 then (if bt110.2 = 0 then (if bt110.1 = x0 then ((declet_Canonical.f k bt108.1).bind fun t112 => (some t112)) else (some false)) else (some false)) else (if bt108.1 = 0 then (some true) else (if bt110.2 = 0 then (if bt110.1 = x0 then ((declet_Canonical.f k bt108.1).bind fun t113 => (some t113)) else (some false)) else (some false)))) else (some false))))
def caliperlaw13_DecletBack.j1 : Nat → Int → Int → Int → Int → Int → Bool → Option (Bool)
  | 0, _, _, _, _, _, _ => none
  | k + 1, x0, x3, x4, x5, x15, x32 => if x32 = true then (some false) else ((declet_Canonical.f k x4).bind fun t116 => (if t116 = true then ((declet_Encode.f k x5).bind fun bt117 => (if bt117.1 = x4 then (caliperlaw13_DecletBack.l0 k x0 (wrap64 (x3 + 1)) (wrap64 (x15 + 1))) else (some false))) else (caliperlaw13_DecletBack.l0 k x0 x3 (wrap64 (x15 + 1)))))
end
def caliperlaw13_DecletBack.f (k : Nat) (a0 : Int) : Option (Bool) := (caliperlaw13_awake.f k).bind fun t107 => (if t107 = true then (caliperlaw13_DecletBack.l0 k a0 0 0) else (some false))
theorem caliperlaw13_DecletBack.mono_l : ∀ k, (∀ y0 y1 y2, LeO (caliperlaw13_DecletBack.l0 k y0 y1 y2) (caliperlaw13_DecletBack.l0 (k + 1) y0 y1 y2)) ∧ (∀ y0 y1 y2 y3 y4 y5, LeO (caliperlaw13_DecletBack.j1 k y0 y1 y2 y3 y4 y5) (caliperlaw13_DecletBack.j1 (k + 1) y0 y1 y2 y3 y4 y5))
  | 0 => ⟨fun _ _ _ r h => by simp [caliperlaw13_DecletBack.l0] at h, fun _ _ _ _ _ _ r h => by simp [caliperlaw13_DecletBack.j1] at h⟩
  | k + 1 => by
    obtain ⟨ih0, ih1⟩ := caliperlaw13_DecletBack.mono_l k
    refine ⟨?_, ?_⟩
    · intro y0 y1 y2
      unfold caliperlaw13_DecletBack.l0
      repeat' first
      | (with_reducible exact ih0 _ _ _)
      | (with_reducible exact ih1 _ _ _ _ _ _)
      | (with_reducible exact caliperlaw13_awake.mono _)
      | (with_reducible exact declet_Canonical.mono _ _)
      | (with_reducible exact declet_Decode.mono _ _)
      | (with_reducible exact declet_Encode.mono _ _)
      | (with_reducible exact LeO.refl _)
      | (with_reducible exact LeO.none _)
      | (with_reducible refine LeO.ite ?_ ?_)
      | (with_reducible refine LeO.bind ?_ (fun _ => ?_))
      | exact ih0 _ _ _
      | exact ih1 _ _ _ _ _ _
      | exact caliperlaw13_awake.mono _
      | exact declet_Canonical.mono _ _
      | exact declet_Decode.mono _ _
      | exact declet_Encode.mono _ _
      | exact LeO.none _
      | refine LeO.ite ?_ ?_
      | refine LeO.bind ?_ (fun _ => ?_)
    · intro y0 y1 y2 y3 y4 y5
      unfold caliperlaw13_DecletBack.j1
      repeat' first
      | (with_reducible exact ih0 _ _ _)
      | (with_reducible exact ih1 _ _ _ _ _ _)
      | (with_reducible exact caliperlaw13_awake.mono _)
      | (with_reducible exact declet_Canonical.mono _ _)
      | (with_reducible exact declet_Decode.mono _ _)
      | (with_reducible exact declet_Encode.mono _ _)
      | (with_reducible exact LeO.refl _)
      | (with_reducible exact LeO.none _)
      | (with_reducible refine LeO.ite ?_ ?_)
      | (with_reducible refine LeO.bind ?_ (fun _ => ?_))
      | exact ih0 _ _ _
      | exact ih1 _ _ _ _ _ _
      | exact caliperlaw13_awake.mono _
      | exact declet_Canonical.mono _ _
      | exact declet_Decode.mono _ _
      | exact declet_Encode.mono _ _
      | exact LeO.none _
      | refine LeO.ite ?_ ?_
      | refine LeO.bind ?_ (fun _ => ?_)
theorem caliperlaw13_DecletBack.mono : ∀ a0 k, LeO (caliperlaw13_DecletBack.f k a0) (caliperlaw13_DecletBack.f (k + 1) a0) := by
  intro a0 k
  obtain ⟨ih0, ih1⟩ := caliperlaw13_DecletBack.mono_l k
  unfold caliperlaw13_DecletBack.f
  repeat' first
      | (with_reducible exact ih0 _ _ _)
      | (with_reducible exact ih1 _ _ _ _ _ _)
      | (with_reducible exact caliperlaw13_awake.mono _)
      | (with_reducible exact declet_Canonical.mono _ _)
      | (with_reducible exact declet_Decode.mono _ _)
      | (with_reducible exact declet_Encode.mono _ _)
      | (with_reducible exact LeO.refl _)
      | (with_reducible exact LeO.none _)
      | (with_reducible refine LeO.ite ?_ ?_)
      | (with_reducible refine LeO.bind ?_ (fun _ => ?_))
      | exact ih0 _ _ _
      | exact ih1 _ _ _ _ _ _
      | exact caliperlaw13_awake.mono _
      | exact declet_Canonical.mono _ _
      | exact declet_Decode.mono _ _
      | exact declet_Encode.mono _ _
      | exact LeO.none _
      | refine LeO.ite ?_ ?_
      | refine LeO.bind ?_ (fun _ => ?_)
set_option maxHeartbeats 8000000 in
set_option maxRecDepth 100000 in
theorem caliperlaw13_DecletBack.calls (k : Nat) (a0 : Int) (r : Bool) (w : World) (h : caliperlaw13_DecletBack.f k a0 = some r) :
    Calls Try.prog 5 #[.int .i64 a0] w fun e w' => e = .returned (.bool r) ∧ Drawn0 w w' := by
  have H : ((caliperlaw13_awake.f k).bind fun t107 => (if t107 = true then (caliperlaw13_DecletBack.l0 k a0 0 0) else (some false))) = some r := h
  clear h
  replace H := Option.bind_eq_some_iff.mp H
  obtain ⟨t107, A20, H⟩ := H
  replace H : (if t107 = true then (caliperlaw13_DecletBack.l0 k a0 0 0) else (some false)) = some r := H
  have A2 := Aside0.mk A20
  clear A20
  by_cases c3 : t107 = true
  · subst c3
    have H1 : (caliperlaw13_DecletBack.l0 k a0 0 0) = some r := by rw [if_pos rfl] at H; exact H
    clear H
    have H := H1
    clear H1
    have H' := Aside0.mk H
    clear H
    go_enter Try.func5, Try.ntmps5
    go_wp2_with (first | ((with_reducible refine gate_callee (f := 15) rfl ?_); refine goesL_ (some 13) rfl rfl Try.func15 (by kernel_rfl) rfl #[] rfl (by (try simp only [List.map_toArray, List.map_cons, List.map_nil]); first | done | rfl | (simp only [List.length_drop, List.length_take]; rfl)) ?_; (with_reducible refine (caliperlaw13_awake.calls k  true _ A2.out).mono ?_); rintro e w' ⟨rfl, ⟨nd, rfl⟩⟩; refine ⟨_, rfl, ?_⟩))
    go_loopg [3, 15] k (fun kq v3 v15 w' => ∃ (x3_1 : Int) (x15_1 : Int), v3 = .int .i64 x3_1 ∧ v15 = .int .i64 x15_1 ∧ Aside0 (caliperlaw13_DecletBack.l0 kq a0 x3_1 x15_1 = some r) ∧ Aside0 (kq ≤ k) ∧ Drawn0 w w')
    case atStart => exact ⟨(0), (0), (by first | rfl | (simp; done) | (simp [*]; done)), (by first | rfl | (simp; done) | (simp [*]; done)), H', ⟨Nat.le_refl _⟩, by repeat (first | exact Drawn0.refl _ | apply Drawn0.step)⟩
    case round =>
      clear H'
      try clear c1
      try clear p2
      try clear c3
      obtain ⟨x3_1, x15_1, rfl, rfl, HA, HK1, ⟨m1, rfl⟩⟩ := hrel
      cases gk with
      | zero => exact absurd HA.out (by simp [caliperlaw13_DecletBack.l0])
      | succ k1 =>
        have H := HA.out
        clear HA
        simp only [caliperlaw13_DecletBack.l0] at H
        by_cases c4 : x15_1 < 1024
        · rw [if_pos c4] at H
          have c4b0 : decide (x15_1 < 1024) = true := decide_eq_true c4
          clear c4
          replace H := Option.bind_eq_some_iff.mp H
          obtain ⟨⟨t114, t115⟩, A50, H⟩ := H
          replace H : (if t115 = 0 then (if t114 < 0 then (caliperlaw13_DecletBack.j1 k1 a0 x3_1 x15_1 t114 x15_1 true) else (caliperlaw13_DecletBack.j1 k1 a0 x3_1 x15_1 t114 x15_1 (decide (t114 > 999)))) else (caliperlaw13_DecletBack.j1 k1 a0 x3_1 x15_1 t114 x15_1 true)) = some r := H
          have A5 := Aside0.mk A50
          clear A50
          have HC6 := Aside0.mk H
          clear H
          go_upto_region 8 with (first | ((with_reducible refine gate_callee (f := 18) rfl ?_); refine goesL_ (some 20) rfl rfl Try.func18 (by kernel_rfl) rfl #[.int .i64 x15_1] rfl (by (try simp only [List.map_toArray, List.map_cons, List.map_nil]); first | done | rfl | (simp only [List.length_drop, List.length_take]; rfl)) ?_; (with_reducible refine (declet_Decode.calls k1 x15_1 t114 t115 _ A5.out).mono ?_); rintro e w' ⟨rfl, ⟨nd, rfl⟩⟩; refine ⟨_, rfl, ?_⟩))
          (try simp only [Act.put, List.setIfInBounds_toArray, List.set_cons_zero, List.set_cons_succ])
          go_cut [32] (fun v32 wc => ∃ (kq : Nat) (x32_5 : Bool), v32 = .bool x32_5 ∧ Aside0 (caliperlaw13_DecletBack.j1 kq a0 x3_1 x15_1 t114 x15_1 x32_5 = some r) ∧ Aside0 (kq ≤ k1) ∧ Drawn0 w wc)
          case first =>
            have H := HC6.out
            clear HC6
            by_cases c7 : t115 = 0
            · rw [if_pos c7] at H
              have c7b0 : (t115 == 0) = true := beq_iff_eq.mpr c7
              have c7b1 : (t115 != 0) = false := bne_eq_false_iff_eq.mpr c7
              clear c7
              (first | rw [c7b0] | (simp only [i64_w, i32_w]; rw [c7b0]) | skip)
              by_cases c8 : t114 < 0
              · rw [if_pos c8] at H
                have c8b0 : decide (t114 < 0) = true := decide_eq_true c8
                clear c8
                have H' := Aside0.mk H
                clear H
                go_wp2
                go_meet
                case rel => exact ⟨_, (true), (by first | rfl | (simp; done) | (simp [*]; done)), H', ⟨by have := HK1.out; first | omega | exact Nat.le_refl _⟩, by repeat (first | exact Drawn0.refl _ | apply Drawn0.step)⟩
              · rw [if_neg c8] at H
                have c8b0 : decide (t114 < 0) = false := decide_eq_false c8
                clear c8
                have H' := Aside0.mk H
                clear H
                go_wp2
                go_meet
                case rel => exact ⟨_, (decide (t114 > 999)), (by first | rfl | (simp; done) | (simp [*]; done)), H', ⟨by have := HK1.out; first | omega | exact Nat.le_refl _⟩, by repeat (first | exact Drawn0.refl _ | apply Drawn0.step)⟩
            · rw [if_neg c7] at H
              have c7b0 : (t115 == 0) = false := beq_eq_false_iff_ne.mpr c7
              have c7b1 : (t115 != 0) = true := bne_iff_ne.mpr c7
              (first | rw [c7b0] | (simp only [i64_w, i32_w]; rw [c7b0]) | skip)
              have H' := Aside0.mk H
              clear H
              go_wp2
              go_meet
              case rel => exact ⟨_, (true), (by first | rfl | (simp; done) | (simp [*]; done)), H', ⟨by have := HK1.out; first | omega | exact Nat.le_refl _⟩, by repeat (first | exact Drawn0.refl _ | apply Drawn0.step)⟩
          case rest =>
            clear HC6
            try clear c1
            try clear p2
            try clear c3
            try clear c4
            try clear c4b0
            try clear c5
            try clear c7
            try clear c7b0
            try clear c7b1
            try clear c8
            try clear c8b0
            try clear p2
            obtain ⟨kq, x32_5, rfl, HA, HJ5, ⟨mc5, rfl⟩⟩ := hcut
            cases kq with
            | zero => exact absurd HA.out (by simp [caliperlaw13_DecletBack.j1])
            | succ kj5 =>
              have H := HA.out
              clear HA
              simp only [caliperlaw13_DecletBack.j1] at H
              by_cases c9 : x32_5 = true
              · subst c9
                have H1 : (some false) = some r := by rw [if_pos rfl] at H; exact H
                clear H
                have H := H1
                clear H1
                obtain rfl := Option.some.inj H
                go_wp2
                go_ret
                exact ⟨by first | rfl | (simp; done) | (simp [*]; done), by repeat (first | exact Drawn0.refl _ | apply Drawn0.step)⟩
              · replace c9 := Bool.eq_false_iff.mpr c9
                subst c9
                have H1 : ((declet_Canonical.f kj5 x15_1).bind fun t116 => (if t116 = true then ((declet_Encode.f kj5 t114).bind fun bt117 => (if bt117.1 = x15_1 then (caliperlaw13_DecletBack.l0 kj5 a0 (wrap64 (x3_1 + 1)) (wrap64 (x15_1 + 1))) else (some false))) else (caliperlaw13_DecletBack.l0 kj5 a0 x3_1 (wrap64 (x15_1 + 1))))) = some r := by rw [if_neg (show ¬ (false = true) by decide)] at H; exact H
                clear H
                have H := H1
                clear H1
                replace H := Option.bind_eq_some_iff.mp H
                obtain ⟨t116, A100, H⟩ := H
                replace H : (if t116 = true then ((declet_Encode.f kj5 t114).bind fun bt117 => (if bt117.1 = x15_1 then (caliperlaw13_DecletBack.l0 kj5 a0 (wrap64 (x3_1 + 1)) (wrap64 (x15_1 + 1))) else (some false))) else (caliperlaw13_DecletBack.l0 kj5 a0 x3_1 (wrap64 (x15_1 + 1)))) = some r := H
                have A10 := Aside0.mk A100
                clear A100
                by_cases c11 : t116 = true
                · subst c11
                  have H1 : ((declet_Encode.f kj5 t114).bind fun bt117 => (if bt117.1 = x15_1 then (caliperlaw13_DecletBack.l0 kj5 a0 (wrap64 (x3_1 + 1)) (wrap64 (x15_1 + 1))) else (some false))) = some r := by rw [if_pos rfl] at H; exact H
                  clear H
                  have H := H1
                  clear H1
                  replace H := Option.bind_eq_some_iff.mp H
                  obtain ⟨⟨t117, t118⟩, A120, H⟩ := H
                  replace H : (if t117 = x15_1 then (caliperlaw13_DecletBack.l0 kj5 a0 (wrap64 (x3_1 + 1)) (wrap64 (x15_1 + 1))) else (some false)) = some r := H
                  have A12 := Aside0.mk A120
                  clear A120
                  by_cases c13 : t117 = x15_1
                  · rw [if_pos c13] at H
                    have c13b0 : (t117 == x15_1) = true := beq_iff_eq.mpr c13
                    have c13b1 : (t117 != x15_1) = false := bne_eq_false_iff_eq.mpr c13
                    clear c13
                    have H' := Aside0.mk H
                    clear H
                    go_wp2_with (first | ((with_reducible refine gate_callee (f := 20) rfl ?_); refine goesL_ (some 34) rfl rfl Try.func20 (by kernel_rfl) rfl #[.int .i64 x15_1] rfl (by (try simp only [List.map_toArray, List.map_cons, List.map_nil]); first | done | rfl | (simp only [List.length_drop, List.length_take]; rfl)) ?_; (with_reducible refine (declet_Canonical.calls kj5 x15_1 true _ A10.out).mono ?_); rintro e w' ⟨rfl, ⟨nd, rfl⟩⟩; refine ⟨_, rfl, ?_⟩) | ((with_reducible refine gate_callee (f := 16) rfl ?_); refine goesL_ (some 39) rfl rfl Try.func16 (by kernel_rfl) rfl #[.int .i64 t114] rfl (by (try simp only [List.map_toArray, List.map_cons, List.map_nil]); first | done | rfl | (simp only [List.length_drop, List.length_take]; rfl)) ?_; (with_reducible refine (declet_Encode.calls kj5 t114 t117 t118 _ A12.out).mono ?_); rintro e w' ⟨rfl, ⟨nd, rfl⟩⟩; refine ⟨_, rfl, ?_⟩))
                    go_roundg kj5
                    case measure => have := HK1.out; have := HJ5.out; omega
                    case rel => exact ⟨(wrap64 (x3_1 + 1)), (wrap64 (x15_1 + 1)), (by first | rfl | (simp; done) | (simp [*]; done)), (by first | rfl | (simp; done) | (simp [*]; done)), H', ⟨by have := HK1.out; have := HJ5.out; omega⟩, by repeat (first | exact Drawn0.refl _ | apply Drawn0.step)⟩
                  · rw [if_neg c13] at H
                    have c13b0 : (t117 == x15_1) = false := beq_eq_false_iff_ne.mpr c13
                    have c13b1 : (t117 != x15_1) = true := bne_iff_ne.mpr c13
                    obtain rfl := Option.some.inj H
                    go_wp2_with (first | ((with_reducible refine gate_callee (f := 20) rfl ?_); refine goesL_ (some 34) rfl rfl Try.func20 (by kernel_rfl) rfl #[.int .i64 x15_1] rfl (by (try simp only [List.map_toArray, List.map_cons, List.map_nil]); first | done | rfl | (simp only [List.length_drop, List.length_take]; rfl)) ?_; (with_reducible refine (declet_Canonical.calls kj5 x15_1 true _ A10.out).mono ?_); rintro e w' ⟨rfl, ⟨nd, rfl⟩⟩; refine ⟨_, rfl, ?_⟩) | ((with_reducible refine gate_callee (f := 16) rfl ?_); refine goesL_ (some 39) rfl rfl Try.func16 (by kernel_rfl) rfl #[.int .i64 t114] rfl (by (try simp only [List.map_toArray, List.map_cons, List.map_nil]); first | done | rfl | (simp only [List.length_drop, List.length_take]; rfl)) ?_; (with_reducible refine (declet_Encode.calls kj5 t114 t117 t118 _ A12.out).mono ?_); rintro e w' ⟨rfl, ⟨nd, rfl⟩⟩; refine ⟨_, rfl, ?_⟩))
                    go_ret
                    exact ⟨by first | rfl | (simp; done) | (simp [*]; done), by repeat (first | exact Drawn0.refl _ | apply Drawn0.step)⟩
                · replace c11 := Bool.eq_false_iff.mpr c11
                  subst c11
                  have H1 : (caliperlaw13_DecletBack.l0 kj5 a0 x3_1 (wrap64 (x15_1 + 1))) = some r := by rw [if_neg (show ¬ (false = true) by decide)] at H; exact H
                  clear H
                  have H := H1
                  clear H1
                  have H' := Aside0.mk H
                  clear H
                  go_wp2_with (first | ((with_reducible refine gate_callee (f := 20) rfl ?_); refine goesL_ (some 34) rfl rfl Try.func20 (by kernel_rfl) rfl #[.int .i64 x15_1] rfl (by (try simp only [List.map_toArray, List.map_cons, List.map_nil]); first | done | rfl | (simp only [List.length_drop, List.length_take]; rfl)) ?_; (with_reducible refine (declet_Canonical.calls kj5 x15_1 false _ A10.out).mono ?_); rintro e w' ⟨rfl, ⟨nd, rfl⟩⟩; refine ⟨_, rfl, ?_⟩))
                  go_roundg kj5
                  case measure => have := HK1.out; have := HJ5.out; omega
                  case rel => exact ⟨(x3_1), (wrap64 (x15_1 + 1)), (by first | rfl | (simp; done) | (simp [*]; done)), (by first | rfl | (simp; done) | (simp [*]; done)), H', ⟨by have := HK1.out; have := HJ5.out; omega⟩, by repeat (first | exact Drawn0.refl _ | apply Drawn0.step)⟩
        · rw [if_neg c4] at H
          have c4b0 : decide (x15_1 < 1024) = false := decide_eq_false c4
          clear c4
          replace H := Option.bind_eq_some_iff.mp H
          obtain ⟨⟨t108, t109⟩, A140, H⟩ := H
          replace H : ((declet_Decode.f k1 t108).bind fun bt110 => (if x3_1 = 1000 then (if t109 = 0 then (if bt110.2 = 0 then (if bt110.1 = a0 then ((declet_Canonical.f k1 t108).bind fun t112 => (some t112)) else (some false)) else (some false)) else (if t108 = 0 then (some true) else (if bt110.2 = 0 then (if bt110.1 = a0 then ((declet_Canonical.f k1 t108).bind fun t113 => (some t113)) else (some false)) else (some false)))) else (some false))) = some r := H
          have A14 := Aside0.mk A140
          clear A140
          replace H := Option.bind_eq_some_iff.mp H
          obtain ⟨⟨t110, t111⟩, A150, H⟩ := H
          replace H : (if x3_1 = 1000 then (if t109 = 0 then (if t111 = 0 then (if t110 = a0 then ((declet_Canonical.f k1 t108).bind fun t112 => (some t112)) else (some false)) else (some false)) else (if t108 = 0 then (some true) else (if t111 = 0 then (if t110 = a0 then ((declet_Canonical.f k1 t108).bind fun t113 => (some t113)) else (some false)) else (some false)))) else (some false)) = some r := H
          have A15 := Aside0.mk A150
          clear A150
          by_cases c16 : x3_1 = 1000
          · rw [if_pos c16] at H
            have c16b0 : (x3_1 == 1000) = true := beq_iff_eq.mpr c16
            have c16b1 : (x3_1 != 1000) = false := bne_eq_false_iff_eq.mpr c16
            clear c16
            by_cases c17 : t109 = 0
            · rw [if_pos c17] at H
              have c17b0 : (t109 == 0) = true := beq_iff_eq.mpr c17
              have c17b1 : (t109 != 0) = false := bne_eq_false_iff_eq.mpr c17
              clear c17
              by_cases c18 : t111 = 0
              · rw [if_pos c18] at H
                have c18b0 : (t111 == 0) = true := beq_iff_eq.mpr c18
                have c18b1 : (t111 != 0) = false := bne_eq_false_iff_eq.mpr c18
                clear c18
                by_cases c19 : t110 = a0
                · rw [if_pos c19] at H
                  have c19b0 : (t110 == a0) = true := beq_iff_eq.mpr c19
                  have c19b1 : (t110 != a0) = false := bne_eq_false_iff_eq.mpr c19
                  clear c19
                  replace H := Option.bind_eq_some_iff.mp H
                  obtain ⟨t112, A200, H⟩ := H
                  replace H : (some t112) = some r := H
                  have A20 := Aside0.mk A200
                  clear A200
                  obtain rfl := Option.some.inj H
                  go_wp2_with (first | ((with_reducible refine gate_callee (f := 16) rfl ?_); refine goesL_ (some 48) rfl rfl Try.func16 (by kernel_rfl) rfl #[.int .i64 a0] rfl (by (try simp only [List.map_toArray, List.map_cons, List.map_nil]); first | done | rfl | (simp only [List.length_drop, List.length_take]; rfl)) ?_; (with_reducible refine (declet_Encode.calls k1 a0 t108 t109 _ A14.out).mono ?_); rintro e w' ⟨rfl, ⟨nd, rfl⟩⟩; refine ⟨_, rfl, ?_⟩) | ((with_reducible refine gate_callee (f := 18) rfl ?_); refine goesL_ (some 53) rfl rfl Try.func18 (by kernel_rfl) rfl #[.int .i64 t108] rfl (by (try simp only [List.map_toArray, List.map_cons, List.map_nil]); first | done | rfl | (simp only [List.length_drop, List.length_take]; rfl)) ?_; (with_reducible refine (declet_Decode.calls k1 t108 t110 t111 _ A15.out).mono ?_); rintro e w' ⟨rfl, ⟨nd, rfl⟩⟩; refine ⟨_, rfl, ?_⟩) | (go_at_call 20; (with_reducible refine (declet_Canonical.calls k1 t108 t112 _ A20.out).mono ?_); rintro e w' ⟨rfl, ⟨nd, rfl⟩⟩))
                  go_ret
                  exact ⟨by first | rfl | (simp; done) | (simp [*]; done), by repeat (first | exact Drawn0.refl _ | apply Drawn0.step)⟩
                · rw [if_neg c19] at H
                  have c19b0 : (t110 == a0) = false := beq_eq_false_iff_ne.mpr c19
                  have c19b1 : (t110 != a0) = true := bne_iff_ne.mpr c19
                  obtain rfl := Option.some.inj H
                  go_wp2_with (first | ((with_reducible refine gate_callee (f := 16) rfl ?_); refine goesL_ (some 48) rfl rfl Try.func16 (by kernel_rfl) rfl #[.int .i64 a0] rfl (by (try simp only [List.map_toArray, List.map_cons, List.map_nil]); first | done | rfl | (simp only [List.length_drop, List.length_take]; rfl)) ?_; (with_reducible refine (declet_Encode.calls k1 a0 t108 t109 _ A14.out).mono ?_); rintro e w' ⟨rfl, ⟨nd, rfl⟩⟩; refine ⟨_, rfl, ?_⟩) | ((with_reducible refine gate_callee (f := 18) rfl ?_); refine goesL_ (some 53) rfl rfl Try.func18 (by kernel_rfl) rfl #[.int .i64 t108] rfl (by (try simp only [List.map_toArray, List.map_cons, List.map_nil]); first | done | rfl | (simp only [List.length_drop, List.length_take]; rfl)) ?_; (with_reducible refine (declet_Decode.calls k1 t108 t110 t111 _ A15.out).mono ?_); rintro e w' ⟨rfl, ⟨nd, rfl⟩⟩; refine ⟨_, rfl, ?_⟩))
                  go_ret
                  exact ⟨by first | rfl | (simp; done) | (simp [*]; done), by repeat (first | exact Drawn0.refl _ | apply Drawn0.step)⟩
              · rw [if_neg c18] at H
                have c18b0 : (t111 == 0) = false := beq_eq_false_iff_ne.mpr c18
                have c18b1 : (t111 != 0) = true := bne_iff_ne.mpr c18
                obtain rfl := Option.some.inj H
                go_wp2_with (first | ((with_reducible refine gate_callee (f := 16) rfl ?_); refine goesL_ (some 48) rfl rfl Try.func16 (by kernel_rfl) rfl #[.int .i64 a0] rfl (by (try simp only [List.map_toArray, List.map_cons, List.map_nil]); first | done | rfl | (simp only [List.length_drop, List.length_take]; rfl)) ?_; (with_reducible refine (declet_Encode.calls k1 a0 t108 t109 _ A14.out).mono ?_); rintro e w' ⟨rfl, ⟨nd, rfl⟩⟩; refine ⟨_, rfl, ?_⟩) | ((with_reducible refine gate_callee (f := 18) rfl ?_); refine goesL_ (some 53) rfl rfl Try.func18 (by kernel_rfl) rfl #[.int .i64 t108] rfl (by (try simp only [List.map_toArray, List.map_cons, List.map_nil]); first | done | rfl | (simp only [List.length_drop, List.length_take]; rfl)) ?_; (with_reducible refine (declet_Decode.calls k1 t108 t110 t111 _ A15.out).mono ?_); rintro e w' ⟨rfl, ⟨nd, rfl⟩⟩; refine ⟨_, rfl, ?_⟩))
                go_ret
                exact ⟨by first | rfl | (simp; done) | (simp [*]; done), by repeat (first | exact Drawn0.refl _ | apply Drawn0.step)⟩
            · rw [if_neg c17] at H
              have c17b0 : (t109 == 0) = false := beq_eq_false_iff_ne.mpr c17
              have c17b1 : (t109 != 0) = true := bne_iff_ne.mpr c17
              by_cases c21 : t108 = 0
              · rw [if_pos c21] at H
                have c21b0 : (t108 == 0) = true := beq_iff_eq.mpr c21
                have c21b1 : (t108 != 0) = false := bne_eq_false_iff_eq.mpr c21
                clear c21
                obtain rfl := Option.some.inj H
                go_wp2_with (first | ((with_reducible refine gate_callee (f := 16) rfl ?_); refine goesL_ (some 48) rfl rfl Try.func16 (by kernel_rfl) rfl #[.int .i64 a0] rfl (by (try simp only [List.map_toArray, List.map_cons, List.map_nil]); first | done | rfl | (simp only [List.length_drop, List.length_take]; rfl)) ?_; (with_reducible refine (declet_Encode.calls k1 a0 t108 t109 _ A14.out).mono ?_); rintro e w' ⟨rfl, ⟨nd, rfl⟩⟩; refine ⟨_, rfl, ?_⟩) | ((with_reducible refine gate_callee (f := 18) rfl ?_); refine goesL_ (some 53) rfl rfl Try.func18 (by kernel_rfl) rfl #[.int .i64 t108] rfl (by (try simp only [List.map_toArray, List.map_cons, List.map_nil]); first | done | rfl | (simp only [List.length_drop, List.length_take]; rfl)) ?_; (with_reducible refine (declet_Decode.calls k1 t108 t110 t111 _ A15.out).mono ?_); rintro e w' ⟨rfl, ⟨nd, rfl⟩⟩; refine ⟨_, rfl, ?_⟩))
                go_ret
                exact ⟨by first | rfl | (simp; done) | (simp [*]; done), by repeat (first | exact Drawn0.refl _ | apply Drawn0.step)⟩
              · rw [if_neg c21] at H
                have c21b0 : (t108 == 0) = false := beq_eq_false_iff_ne.mpr c21
                have c21b1 : (t108 != 0) = true := bne_iff_ne.mpr c21
                by_cases c22 : t111 = 0
                · rw [if_pos c22] at H
                  have c22b0 : (t111 == 0) = true := beq_iff_eq.mpr c22
                  have c22b1 : (t111 != 0) = false := bne_eq_false_iff_eq.mpr c22
                  clear c22
                  by_cases c23 : t110 = a0
                  · rw [if_pos c23] at H
                    have c23b0 : (t110 == a0) = true := beq_iff_eq.mpr c23
                    have c23b1 : (t110 != a0) = false := bne_eq_false_iff_eq.mpr c23
                    clear c23
                    replace H := Option.bind_eq_some_iff.mp H
                    obtain ⟨t113, A240, H⟩ := H
                    replace H : (some t113) = some r := H
                    have A24 := Aside0.mk A240
                    clear A240
                    obtain rfl := Option.some.inj H
                    go_wp2_with (first | ((with_reducible refine gate_callee (f := 16) rfl ?_); refine goesL_ (some 48) rfl rfl Try.func16 (by kernel_rfl) rfl #[.int .i64 a0] rfl (by (try simp only [List.map_toArray, List.map_cons, List.map_nil]); first | done | rfl | (simp only [List.length_drop, List.length_take]; rfl)) ?_; (with_reducible refine (declet_Encode.calls k1 a0 t108 t109 _ A14.out).mono ?_); rintro e w' ⟨rfl, ⟨nd, rfl⟩⟩; refine ⟨_, rfl, ?_⟩) | ((with_reducible refine gate_callee (f := 18) rfl ?_); refine goesL_ (some 53) rfl rfl Try.func18 (by kernel_rfl) rfl #[.int .i64 t108] rfl (by (try simp only [List.map_toArray, List.map_cons, List.map_nil]); first | done | rfl | (simp only [List.length_drop, List.length_take]; rfl)) ?_; (with_reducible refine (declet_Decode.calls k1 t108 t110 t111 _ A15.out).mono ?_); rintro e w' ⟨rfl, ⟨nd, rfl⟩⟩; refine ⟨_, rfl, ?_⟩) | (go_at_call 20; (with_reducible refine (declet_Canonical.calls k1 t108 t113 _ A24.out).mono ?_); rintro e w' ⟨rfl, ⟨nd, rfl⟩⟩))
                    go_ret
                    exact ⟨by first | rfl | (simp; done) | (simp [*]; done), by repeat (first | exact Drawn0.refl _ | apply Drawn0.step)⟩
                  · rw [if_neg c23] at H
                    have c23b0 : (t110 == a0) = false := beq_eq_false_iff_ne.mpr c23
                    have c23b1 : (t110 != a0) = true := bne_iff_ne.mpr c23
                    obtain rfl := Option.some.inj H
                    go_wp2_with (first | ((with_reducible refine gate_callee (f := 16) rfl ?_); refine goesL_ (some 48) rfl rfl Try.func16 (by kernel_rfl) rfl #[.int .i64 a0] rfl (by (try simp only [List.map_toArray, List.map_cons, List.map_nil]); first | done | rfl | (simp only [List.length_drop, List.length_take]; rfl)) ?_; (with_reducible refine (declet_Encode.calls k1 a0 t108 t109 _ A14.out).mono ?_); rintro e w' ⟨rfl, ⟨nd, rfl⟩⟩; refine ⟨_, rfl, ?_⟩) | ((with_reducible refine gate_callee (f := 18) rfl ?_); refine goesL_ (some 53) rfl rfl Try.func18 (by kernel_rfl) rfl #[.int .i64 t108] rfl (by (try simp only [List.map_toArray, List.map_cons, List.map_nil]); first | done | rfl | (simp only [List.length_drop, List.length_take]; rfl)) ?_; (with_reducible refine (declet_Decode.calls k1 t108 t110 t111 _ A15.out).mono ?_); rintro e w' ⟨rfl, ⟨nd, rfl⟩⟩; refine ⟨_, rfl, ?_⟩))
                    go_ret
                    exact ⟨by first | rfl | (simp; done) | (simp [*]; done), by repeat (first | exact Drawn0.refl _ | apply Drawn0.step)⟩
                · rw [if_neg c22] at H
                  have c22b0 : (t111 == 0) = false := beq_eq_false_iff_ne.mpr c22
                  have c22b1 : (t111 != 0) = true := bne_iff_ne.mpr c22
                  obtain rfl := Option.some.inj H
                  go_wp2_with (first | ((with_reducible refine gate_callee (f := 16) rfl ?_); refine goesL_ (some 48) rfl rfl Try.func16 (by kernel_rfl) rfl #[.int .i64 a0] rfl (by (try simp only [List.map_toArray, List.map_cons, List.map_nil]); first | done | rfl | (simp only [List.length_drop, List.length_take]; rfl)) ?_; (with_reducible refine (declet_Encode.calls k1 a0 t108 t109 _ A14.out).mono ?_); rintro e w' ⟨rfl, ⟨nd, rfl⟩⟩; refine ⟨_, rfl, ?_⟩) | ((with_reducible refine gate_callee (f := 18) rfl ?_); refine goesL_ (some 53) rfl rfl Try.func18 (by kernel_rfl) rfl #[.int .i64 t108] rfl (by (try simp only [List.map_toArray, List.map_cons, List.map_nil]); first | done | rfl | (simp only [List.length_drop, List.length_take]; rfl)) ?_; (with_reducible refine (declet_Decode.calls k1 t108 t110 t111 _ A15.out).mono ?_); rintro e w' ⟨rfl, ⟨nd, rfl⟩⟩; refine ⟨_, rfl, ?_⟩))
                  go_ret
                  exact ⟨by first | rfl | (simp; done) | (simp [*]; done), by repeat (first | exact Drawn0.refl _ | apply Drawn0.step)⟩
          · rw [if_neg c16] at H
            have c16b0 : (x3_1 == 1000) = false := beq_eq_false_iff_ne.mpr c16
            have c16b1 : (x3_1 != 1000) = true := bne_iff_ne.mpr c16
            obtain rfl := Option.some.inj H
            go_wp2_with (first | ((with_reducible refine gate_callee (f := 16) rfl ?_); refine goesL_ (some 48) rfl rfl Try.func16 (by kernel_rfl) rfl #[.int .i64 a0] rfl (by (try simp only [List.map_toArray, List.map_cons, List.map_nil]); first | done | rfl | (simp only [List.length_drop, List.length_take]; rfl)) ?_; (with_reducible refine (declet_Encode.calls k1 a0 t108 t109 _ A14.out).mono ?_); rintro e w' ⟨rfl, ⟨nd, rfl⟩⟩; refine ⟨_, rfl, ?_⟩) | ((with_reducible refine gate_callee (f := 18) rfl ?_); refine goesL_ (some 53) rfl rfl Try.func18 (by kernel_rfl) rfl #[.int .i64 t108] rfl (by (try simp only [List.map_toArray, List.map_cons, List.map_nil]); first | done | rfl | (simp only [List.length_drop, List.length_take]; rfl)) ?_; (with_reducible refine (declet_Decode.calls k1 t108 t110 t111 _ A15.out).mono ?_); rintro e w' ⟨rfl, ⟨nd, rfl⟩⟩; refine ⟨_, rfl, ?_⟩))
            go_ret
            exact ⟨by first | rfl | (simp; done) | (simp [*]; done), by repeat (first | exact Drawn0.refl _ | apply Drawn0.step)⟩
  · replace c3 := Bool.eq_false_iff.mpr c3
    subst c3
    have H1 : (some false) = some r := by rw [if_neg (show ¬ (false = true) by decide)] at H; exact H
    clear H
    have H := H1
    clear H1
    obtain rfl := Option.some.inj H
    go_enter Try.func5, Try.ntmps5
    go_wp2_with (first | ((with_reducible refine gate_callee (f := 15) rfl ?_); refine goesL_ (some 13) rfl rfl Try.func15 (by kernel_rfl) rfl #[] rfl (by (try simp only [List.map_toArray, List.map_cons, List.map_nil]); first | done | rfl | (simp only [List.length_drop, List.length_take]; rfl)) ?_; (with_reducible refine (caliperlaw13_awake.calls k  false _ A2.out).mono ?_); rintro e w' ⟨rfl, ⟨nd, rfl⟩⟩; refine ⟨_, rfl, ?_⟩))
    go_ret
    exact ⟨by first | rfl | (simp; done) | (simp [*]; done), by repeat (first | exact Drawn0.refl _ | apply Drawn0.step)⟩

/-- THE ONE PURE STATEMENT of caliperlaw13_DecletBack: yours. -/
def caliperlaw13_DecletBack.Pure : Prop := ∀ (a0 : Int), (Lit.int .i64 a0).wf = true → ∃ k, caliperlaw13_DecletBack.f k a0 = some true
theorem caliperlaw13_DecletBack.walk (P : caliperlaw13_DecletBack.Pure) (a0 : Int) (w : World) (w0 : (Lit.int .i64 a0).wf = true) :
    Calls Try.prog 5 #[.int .i64 a0] w fun e w' => e = .returned (.bool true) ∧ Below w.heap.size w w' := by
  obtain ⟨k, h⟩ := P a0 w0
  refine (caliperlaw13_DecletBack.calls k a0 true w h).mono ?_
  rintro e w' ⟨rfl, hd⟩
  exact ⟨rfl, hd.below⟩

end Go.Proofs.Ytmjbikbakkbajaa.PDecletBack
