-- PRINTED BY print.sh 35421559b90ae4d0a3588c463048766b98c2df88dd9212a6774a882060cdf62d: not written by this session
import Derived.Test.YtmjbikbakkbajaaPDecletSmallx0
namespace Go.Proofs.Ytmjbikbakkbajaa.PDecletSmall
open Go.RowKit Go.Proofs.YtmjbikbakkbajaaW.PrintWords Go.Proofs.YtmjbikbakkbajaaW.PrintLast Go.Proofs.YtmjbikbakkbajaaW.PrintMore
attribute [local go_sem] max2_int min2_int max_two min_two max_three min_three max_four min_four   -- for this text's walks alone
set_option linter.unusedVariables false
set_option linter.unusedSimpArgs false

/-! ### declet_Encode: function 16 -/
def declet_Encode.j0 : Nat → Int → Bool → Option (Int × Int)
  | 0, _, _ => none
  | k + 1, x0, x16 => if x16 = true then (some (0, 3)) else (if (Go.bits .or .i64 (Go.bits .or .i64 (wrap64 (((wrap64 (Int.tdiv x0 100)) / 8) * 4)) (wrap64 (((Int.tmod (wrap64 (Int.tdiv x0 10)) 10) / 8) * 2))) ((Int.tmod x0 10) / 8)) = 0 then (some (Go.bits .or .i64 (Go.bits .or .i64 (Go.bits .or .i64 (Go.bits .or .i64 (Go.bits .or .i64 (wrap64 ((Go.bits .and .i64 (wrap64 (Int.tdiv x0 100)) 1) * 128)) (wrap64 ((Go.bits .and .i64 (Int.tmod (wrap64 (Int.tdiv x0 10)) 10) 1) * 16))) (Go.bits .and .i64 (Int.tmod x0 10) 1)) (wrap64 ((Go.bits .and .i64 ((wrap64 (Int.tdiv x0 100)) / 2) 3) * 256))) (wrap64 ((Go.bits .and .i64 ((Int.tmod (wrap64 (Int.tdiv x0 10)) 10) / 2) 3) * 32))) (wrap64 ((Go.bits .and .i64 ((Int.tmod x0 10) / 2) 3) * 2)), 0)) else (if (Go.bits .or .i64 (Go.bits .or .i64 (wrap64 (((wrap64 (Int.tdiv x0 100)) / 8) * 4)) (wrap64 (((Int.tmod (wrap64 (Int.tdiv x0 10)) 10) / 8) * 2))) ((Int.tmod x0 10) / 8)) = 1 then (some (Go.bits .or .i64 (Go.bits .or .i64 (Go.bits .or .i64 (Go.bits .or .i64 (Go.bits .or .i64 (wrap64 ((Go.bits .and .i64 (wrap64 (Int.tdiv x0 100)) 1) * 128)) (wrap64 ((Go.bits .and .i64 (Int.tmod (wrap64 (Int.tdiv x0 10)) 10) 1) * 16))) (Go.bits .and .i64 (Int.tmod x0 10) 1)) (wrap64 ((Go.bits .and .i64 ((wrap64 (Int.tdiv x0 100)) / 2) 3) * 256))) (wrap64 ((Go.bits .and .i64 ((Int.tmod (wrap64 (Int.tdiv x0 10)) 10) / 2) 3) * 32))) 8, 0)) else (if (Go.bits .or .i64 (Go.bits .or .i64 (wrap64 (((wrap64 (Int.tdiv x0 100)) / 8) * 4)) (wrap64 (((Int.tmod (wrap64 (Int.tdiv x0 10)) 10) / 8) * 2))) ((Int.tmod x0 10) / 8)) = 2 then (some (Go.bits .or .i64 (Go.bits .or .i64 (Go.bits .or .i64 (Go.bits .or .i64 (Go.bits .or .i64 (wrap64 ((Go.bits .and .i64 (wrap64 (Int.tdiv x0 100)) 1) * 128)) (wrap64 ((Go.bits .and .i64 (Int.tmod (wrap64 (Int.tdiv x0 10)) 10) 1) * 16))) (Go.bits .and .i64 (Int.tmod x0 10) 1)) (wrap64 ((Go.bits .and .i64 ((wrap64 (Int.tdiv x0 100)) / 2) 3) * 256))) (wrap64 ((Go.bits .and .i64 ((Int.tmod x0 10) / 2) 3) * 32))) 10, 0)) else (if (Go.bits .or .i64 (Go.bits .or .i64 (wrap64 (((wrap64 (Int.tdiv x0 100)) / 8) * 4)) (wrap64 (((Int.tmod (wrap64 (Int.tdiv x0 10)) 10) / 8) * 2))) ((Int.tmod x0 10) / 8)) = 4 then (some (Go.bits .or .i64 (Go.bits .or .i64 (Go.bits .or .i64 (Go.bits .or .i64 (Go.bits .or .i64 (wrap64 ((Go.bits .and .i64 (wrap64 (Int.tdiv x0 100)) 1) * 128)) (wrap64 ((Go.bits .and .i64 (Int.tmod (wrap64 (Int.tdiv x0 10)) 10) 1) * 16))) (Go.bits .and .i64 (Int.tmod x0 10) 1)) (wrap64 ((Go.bits .and .i64 ((Int.tmod x0 10) / 2) 3) * 256))) (wrap64 ((Go.bits .and .i64 ((Int.tmod (wrap64 (Int.tdiv x0 10)) 10) / 2) 3) * 32))) 12, 0)) else (if (Go.bits .or .i64 (Go.bits .or .i64 (wrap64 (((wrap64 (Int.tdiv x0 100)) / 8) * 4)) (wrap64 (((Int.tmod (wrap64 (Int.tdiv x0 10)) 10) / 8) * 2))) ((Int.tmod x0 10) / 8)) = 3 then (some (Go.bits .or .i64 (Go.bits .or .i64 (Go.bits .or .i64 (Go.bits .or .i64 (Go.bits .or .i64 (wrap64 ((Go.bits .and .i64 (wrap64 (Int.tdiv x0 100)) 1) * 128)) (wrap64 ((Go.bits .and .i64 (Int.tmod (wrap64 (Int.tdiv x0 10)) 10) 1) * 16))) (Go.bits .and .i64 (Int.tmod x0 10) 1)) (wrap64 ((Go.bits .and .i64 ((wrap64 (Int.tdiv x0 100)) / 2) 3) * 256))) 64) 14, 0)) else (if (Go.bits .or .i64 (Go.bits .or .i64 (wrap64 (((wrap64 (Int.tdiv x0 100)) / 8) * 4)) (wrap64 (((Int.tmod (wrap64 (Int.tdiv x0 10)) 10) / 8) * 2))) ((Int.tmod x0 10) / 8)) = 5 then (some (Go.bits .or .i64 (Go.bits .or .i64 (Go.bits .or .i64 (Go.bits .or .i64 (Go.bits .or .i64 (wrap64 ((Go.bits .and .i64 (wrap64 (Int.tdiv x0 100)) 1) * 128)) (wrap64 ((Go.bits .and .i64 (Int.tmod (wrap64 (Int.tdiv x0 10)) 10) 1) * 16))) (Go.bits .and .i64 (Int.tmod x0 10) 1)) (wrap64 ((Go.bits .and .i64 ((Int.tmod (wrap64 (Int.tdiv x0 10)) 10) / 2) 3) * 256))) 32) 14, 0)) else (if (Go.bits .or .i64 (Go.bits .or .i64 (wrap64 (((wrap64 (Int.tdiv x0 100)) / 8) * 4)) (wrap64 (((Int.tmod (wrap64 (Int.tdiv x0 10)) 10) / 8) * 2))) ((Int.tmod x0 10) / 8)) = 6 then (some (Go.bits .or .i64 (Go.bits .or .i64 (Go.bits .or .i64 (Go.bits .or .i64 (wrap64 ((Go.bits .and .i64 (wrap64 (Int.tdiv x0 100)) 1) * 128)) (wrap64 ((Go.bits .and .i64 (Int.tmod (wrap64 (Int.tdiv x0 10)) 10) 1) * 16))) (Go.bits .and .i64 (Int.tmod x0 10) 1)) (wrap64 ((Go.bits .and .i64 ((Int.tmod x0 10) / 2) 3) * 256))) 14, 0)) else (some (Go.bits .or .i64 (Go.bits .or .i64 (Go.bits .or .i64 (Go.bits .or .i64 (wrap64 ((Go.bits .and .i64 (wrap64 (Int.tdiv x0 100)) 1) * 128)) (wrap64 ((Go.bits .and .i64 (Int.tmod (wrap64 (Int.tdiv x0 10)) 10) 1) * 16))) (Go.bits .and .i64 (Int.tmod x0 10) 1)) 96) 14, 0)))))))))
def declet_Encode.f (k : Nat) (a0 : Int) : Option (Int × Int) := if a0 < 0 then (declet_Encode.j0 k a0 true) else (declet_Encode.j0 k a0 (decide (a0 > 999)))
theorem declet_Encode.mono_l : ∀ k, (∀ y0 y1, LeO (declet_Encode.j0 k y0 y1) (declet_Encode.j0 (k + 1) y0 y1))
  | 0 => fun _ _ r h => by simp [declet_Encode.j0] at h
  | k + 1 => by
    have ih0 := declet_Encode.mono_l k
    · intro y0 y1
      unfold declet_Encode.j0
      repeat' first
      | (with_reducible exact ih0 _ _)
      | (with_reducible exact LeO.refl _)
      | (with_reducible exact LeO.none _)
      | (with_reducible refine LeO.ite ?_ ?_)
      | (with_reducible refine LeO.bind ?_ (fun _ => ?_))
      | exact ih0 _ _
      | exact LeO.none _
      | refine LeO.ite ?_ ?_
      | refine LeO.bind ?_ (fun _ => ?_)
theorem declet_Encode.mono : ∀ a0 k, LeO (declet_Encode.f k a0) (declet_Encode.f (k + 1) a0) := by
  intro a0 k
  have ih0 := declet_Encode.mono_l k
  unfold declet_Encode.f
  repeat' first
      | (with_reducible exact ih0 _ _)
      | (with_reducible exact LeO.refl _)
      | (with_reducible exact LeO.none _)
      | (with_reducible refine LeO.ite ?_ ?_)
      | (with_reducible refine LeO.bind ?_ (fun _ => ?_))
      | exact ih0 _ _
      | exact LeO.none _
      | refine LeO.ite ?_ ?_
      | refine LeO.bind ?_ (fun _ => ?_)
set_option maxHeartbeats 8000000 in
set_option maxRecDepth 100000 in
theorem declet_Encode.calls (k : Nat) (a0 : Int) (r1 : Int) (r2 : Int) (w : World) (h : declet_Encode.f k a0 = some (r1, r2)) :
    Calls Try.prog 16 #[.int .i64 a0] w fun e w' => e = .returned (.tuple #[.int .i64 r1, .int .i64 r2]) ∧ Drawn0 w w' := by
  have H : (if a0 < 0 then (declet_Encode.j0 k a0 true) else (declet_Encode.j0 k a0 (decide (a0 > 999)))) = some (r1, r2) := h
  clear h
  have HC2 := Aside0.mk H
  clear H
  go_enter Try.func16, Try.ntmps16
  go_upto_region 1 with (fail)
  go_cut [16] (fun v16 wc => ∃ (kq : Nat) (x16_1 : Bool), v16 = .bool x16_1 ∧ Aside0 (declet_Encode.j0 kq a0 x16_1 = some (r1, r2)) ∧ Aside0 (kq ≤ k) ∧ Drawn0 w wc)
  case first =>
    have H := HC2.out
    clear HC2
    by_cases c3 : a0 < 0
    · rw [if_pos c3] at H
      have c3b0 : decide (a0 < 0) = true := decide_eq_true c3
      clear c3
      (first | rw [c3b0] | (simp only [i64_w, i32_w]; rw [c3b0]) | skip)
      have H' := Aside0.mk H
      clear H
      go_wp2
      go_meet
      case rel => exact ⟨_, (true), (by first | rfl | (simp; done) | (simp [*]; done)), H', ⟨by first | omega | exact Nat.le_refl _⟩, by repeat (first | exact Drawn0.refl _ | apply Drawn0.step)⟩
    · rw [if_neg c3] at H
      have c3b0 : decide (a0 < 0) = false := decide_eq_false c3
      clear c3
      (first | rw [c3b0] | (simp only [i64_w, i32_w]; rw [c3b0]) | skip)
      have H' := Aside0.mk H
      clear H
      go_wp2
      go_meet
      case rel => exact ⟨_, (decide (a0 > 999)), (by first | rfl | (simp; done) | (simp [*]; done)), H', ⟨by first | omega | exact Nat.le_refl _⟩, by repeat (first | exact Drawn0.refl _ | apply Drawn0.step)⟩
  case rest =>
    clear HC2
    try clear c1
    try clear p2
    try clear c3
    try clear c3b0
    obtain ⟨kq, x16_1, rfl, HA, HJ1, ⟨mc1, rfl⟩⟩ := hcut
    cases kq with
    | zero => exact absurd HA.out (by simp [declet_Encode.j0])
    | succ kj1 =>
      have H := HA.out
      clear HA
      simp only [declet_Encode.j0] at H
      by_cases c4 : x16_1 = true
      · subst c4
        have H1 : (some (0, 3)) = some (r1, r2) := by rw [if_pos rfl] at H; exact H
        clear H
        have H := H1
        clear H1
        simp only [Option.some.injEq, Prod.mk.injEq] at H
        obtain ⟨rfl, rfl⟩ := H
        go_wp2
        go_ret2
        exact ⟨by first | rfl | (simp; done) | (simp [*]; done), by repeat (first | exact Drawn0.refl _ | apply Drawn0.step)⟩
      · replace c4 := Bool.eq_false_iff.mpr c4
        subst c4
        have H1 : (if (Go.bits .or .i64 (Go.bits .or .i64 (wrap64 (((wrap64 (Int.tdiv a0 100)) / 8) * 4)) (wrap64 (((Int.tmod (wrap64 (Int.tdiv a0 10)) 10) / 8) * 2))) ((Int.tmod a0 10) / 8)) = 0 then (some (Go.bits .or .i64 (Go.bits .or .i64 (Go.bits .or .i64 (Go.bits .or .i64 (Go.bits .or .i64 (wrap64 ((Go.bits .and .i64 (wrap64 (Int.tdiv a0 100)) 1) * 128)) (wrap64 ((Go.bits .and .i64 (Int.tmod (wrap64 (Int.tdiv a0 10)) 10) 1) * 16))) (Go.bits .and .i64 (Int.tmod a0 10) 1)) (wrap64 ((Go.bits .and .i64 ((wrap64 (Int.tdiv a0 100)) / 2) 3) * 256))) (wrap64 ((Go.bits .and .i64 ((Int.tmod (wrap64 (Int.tdiv a0 10)) 10) / 2) 3) * 32))) (wrap64 ((Go.bits .and .i64 ((Int.tmod a0 10) / 2) 3) * 2)), 0)) else (if (Go.bits .or .i64 (Go.bits .or .i64 (wrap64 (((wrap64 (Int.tdiv a0 100)) / 8) * 4)) (wrap64 (((Int.tmod (wrap64 (Int.tdiv a0 10)) 10) / 8) * 2))) ((Int.tmod a0 10) / 8)) = 1 then (some (Go.bits .or .i64 (Go.bits .or .i64 (Go.bits .or .i64 (Go.bits .or .i64 (Go.bits .or .i64 (wrap64 ((Go.bits .and .i64 (wrap64 (Int.tdiv a0 100)) 1) * 128)) (wrap64 ((Go.bits .and .i64 (Int.tmod (wrap64 (Int.tdiv a0 10)) 10) 1) * 16))) (Go.bits .and .i64 (Int.tmod a0 10) 1)) (wrap64 ((Go.bits .and .i64 ((wrap64 (Int.tdiv a0 100)) / 2) 3) * 256))) (wrap64 ((Go.bits .and .i64 ((Int.tmod (wrap64 (Int.tdiv a0 10)) 10) / 2) 3) * 32))) 8, 0)) else (if (Go.bits .or .i64 (Go.bits .or .i64 (wrap64 (((wrap64 (Int.tdiv a0 100)) / 8) * 4)) (wrap64 (((Int.tmod (wrap64 (Int.tdiv a0 10)) 10) / 8) * 2))) ((Int.tmod a0 10) / 8)) = 2 then (some (Go.bits .or .i64 (Go.bits .or .i64 (Go.bits .or .i64 (Go.bits .or .i64 (Go.bits .or .i64 (wrap64 ((Go.bits .and .i64 (wrap64 (Int.tdiv a0 100)) 1) * 128)) (wrap64 ((Go.bits .and .i64 (Int.tmod (wrap64 (Int.tdiv a0 10)) 10) 1) * 16))) (Go.bits .and .i64 (Int.tmod a0 10) 1)) (wrap64 ((Go.bits .and .i64 ((wrap64 (Int.tdiv a0 100)) / 2) 3) * 256))) (wrap64 ((Go.bits .and .i64 ((Int.tmod a0 10) / 2) 3) * 32))) 10, 0)) else (if (Go.bits .or .i64 (Go.bits .or .i64 (wrap64 (((wrap64 (Int.tdiv a0 100)) / 8) * 4)) (wrap64 (((Int.tmod (wrap64 (Int.tdiv a0 10)) 10) / 8) * 2))) ((Int.tmod a0 10) / 8)) = 4 then (some (Go.bits .or .i64 (Go.bits .or .i64 (Go.bits .or .i64 (Go.bits .or .i64 (Go.bits .or .i64 (wrap64 ((Go.bits .and .i64 (wrap64 (Int.tdiv a0 100)) 1) * 128)) (wrap64 ((Go.bits .and .i64 (Int.tmod (wrap64 (Int.tdiv a0 10)) 10) 1) * 16))) (Go.bits .and .i64 (Int.tmod a0 10) 1)) (wrap64 ((Go.bits .and .i64 ((Int.tmod a0 10) / 2) 3) * 256))) (wrap64 ((Go.bits .and .i64 ((Int.tmod (wrap64 (Int.tdiv a0 10)) 10) / 2) 3) * 32))) 12, 0)) else (if (Go.bits .or .i64 (Go.bits .or .i64 (wrap64 (((wrap64 (Int.tdiv a0 100)) / 8) * 4)) (wrap64 (((Int.tmod (wrap64 (Int.tdiv a0 10)) 10) / 8) * 2))) ((Int.tmod a0 10) / 8)) = 3 then (some (Go.bits .or .i64 (Go.bits .or .i64 (Go.bits .or .i64 (Go.bits .or .i64 (Go.bits .or .i64 (wrap64 ((Go.bits .and .i64 (wrap64 (Int.tdiv a0 100)) 1) * 128)) (wrap64 ((Go.bits .and .i64 (Int.tmod (wrap64 (Int.tdiv a0 10)) 10) 1) * 16))) (Go.bits .and .i64 (Int.tmod a0 10) 1)) (wrap64 ((Go.bits .and .i64 ((wrap64 (Int.tdiv a0 100)) / 2) 3) * 256))) 64) 14, 0)) else (if (Go.bits .or .i64 (Go.bits .or .i64 (wrap64 (((wrap64 (Int.tdiv a0 100)) / 8) * 4)) (wrap64 (((Int.tmod (wrap64 (Int.tdiv a0 10)) 10) / 8) * 2))) ((Int.tmod a0 10) / 8)) = 5 then (some (Go.bits .or .i64 (Go.bits .or .i64 (Go.bits .or .i64 (Go.bits .or .i64 (Go.bits .or .i64 (wrap64 ((Go.bits .and .i64 (wrap64 (Int.tdiv a0 100)) 1) * 128)) (wrap64 ((Go.bits .and .i64 (Int.tmod (wrap64 (Int.tdiv a0 10)) 10) 1) * 16))) (Go.bits .and .i64 (Int.tmod a0 10) 1)) (wrap64 ((Go.bits .and .i64 ((Int.tmod (wrap64 (Int.tdiv a0 10)) 10) / 2) 3) * 256))) 32) 14, 0)) else (if (Go.bits .or .i64 (Go.bits .or .i64 (wrap64 (((wrap64 (Int.tdiv a0 100)) / 8) * 4)) (wrap64 (((Int.tmod (wrap64 (Int.tdiv a0 10)) 10) / 8) * 2))) ((Int.tmod a0 10) / 8)) = 6 then (some (Go.bits .or .i64 (Go.bits .or .i64 (Go.bits .or .i64 (Go.bits .or .i64 (wrap64 ((Go.bits .and .i64 (wrap64 (Int.tdiv a0 100)) 1) * 128)) (wrap64 ((Go.bits .and .i64 (Int.tmod (wrap64 (Int.tdiv a0 10)) 10) 1) * 16))) (Go.bits .and .i64 (Int.tmod a0 10) 1)) (wrap64 ((Go.bits .and .i64 ((Int.tmod a0 10) / 2) 3) * 256))) 14, 0)) else (some (Go.bits .or .i64 (Go.bits .or .i64 (Go.bits .or .i64 (Go.bits .or .i64 (wrap64 ((Go.bits .and .i64 (wrap64 (Int.tdiv a0 100)) 1) * 128)) (wrap64 ((Go.bits .and .i64 (Int.tmod (wrap64 (Int.tdiv a0 10)) 10) 1) * 16))) (Go.bits .and .i64 (Int.tmod a0 10) 1)) 96) 14, 0))))))))) = some (r1, r2) := by rw [if_neg (show ¬ (false = true) by decide)] at H; exact H
        clear H
        have H := H1
        clear H1
        by_cases c5 : (Go.bits .or .i64 (Go.bits .or .i64 (wrap64 (((wrap64 (Int.tdiv a0 100)) / 8) * 4)) (wrap64 (((Int.tmod (wrap64 (Int.tdiv a0 10)) 10) / 8) * 2))) ((Int.tmod a0 10) / 8)) = 0
        · rw [if_pos c5] at H
          have c5b0 : ((Go.bits .or .i64 (Go.bits .or .i64 (wrap64 (((wrap64 (Int.tdiv a0 100)) / 8) * 4)) (wrap64 (((Int.tmod (wrap64 (Int.tdiv a0 10)) 10) / 8) * 2))) ((Int.tmod a0 10) / 8)) == 0) = true := beq_iff_eq.mpr c5
          have c5b1 : ((Go.bits .or .i64 (Go.bits .or .i64 (wrap64 (((wrap64 (Int.tdiv a0 100)) / 8) * 4)) (wrap64 (((Int.tmod (wrap64 (Int.tdiv a0 10)) 10) / 8) * 2))) ((Int.tmod a0 10) / 8)) != 0) = false := bne_eq_false_iff_eq.mpr c5
          clear c5
          simp only [Option.some.injEq, Prod.mk.injEq] at H
          obtain ⟨rfl, rfl⟩ := H
          go_wp2
          go_ret2
          exact ⟨by first | rfl | (simp; done) | (simp [*]; done), by repeat (first | exact Drawn0.refl _ | apply Drawn0.step)⟩
        · rw [if_neg c5] at H
          have c5b0 : ((Go.bits .or .i64 (Go.bits .or .i64 (wrap64 (((wrap64 (Int.tdiv a0 100)) / 8) * 4)) (wrap64 (((Int.tmod (wrap64 (Int.tdiv a0 10)) 10) / 8) * 2))) ((Int.tmod a0 10) / 8)) == 0) = false := beq_eq_false_iff_ne.mpr c5
          have c5b1 : ((Go.bits .or .i64 (Go.bits .or .i64 (wrap64 (((wrap64 (Int.tdiv a0 100)) / 8) * 4)) (wrap64 (((Int.tmod (wrap64 (Int.tdiv a0 10)) 10) / 8) * 2))) ((Int.tmod a0 10) / 8)) != 0) = true := bne_iff_ne.mpr c5
          by_cases c6 : (Go.bits .or .i64 (Go.bits .or .i64 (wrap64 (((wrap64 (Int.tdiv a0 100)) / 8) * 4)) (wrap64 (((Int.tmod (wrap64 (Int.tdiv a0 10)) 10) / 8) * 2))) ((Int.tmod a0 10) / 8)) = 1
          · rw [if_pos c6] at H
            have c6b0 : ((Go.bits .or .i64 (Go.bits .or .i64 (wrap64 (((wrap64 (Int.tdiv a0 100)) / 8) * 4)) (wrap64 (((Int.tmod (wrap64 (Int.tdiv a0 10)) 10) / 8) * 2))) ((Int.tmod a0 10) / 8)) == 1) = true := beq_iff_eq.mpr c6
            have c6b1 : ((Go.bits .or .i64 (Go.bits .or .i64 (wrap64 (((wrap64 (Int.tdiv a0 100)) / 8) * 4)) (wrap64 (((Int.tmod (wrap64 (Int.tdiv a0 10)) 10) / 8) * 2))) ((Int.tmod a0 10) / 8)) != 1) = false := bne_eq_false_iff_eq.mpr c6
            clear c6
            simp only [Option.some.injEq, Prod.mk.injEq] at H
            obtain ⟨rfl, rfl⟩ := H
            go_wp2
            go_ret2
            exact ⟨by first | rfl | (simp; done) | (simp [*]; done), by repeat (first | exact Drawn0.refl _ | apply Drawn0.step)⟩
          · rw [if_neg c6] at H
            have c6b0 : ((Go.bits .or .i64 (Go.bits .or .i64 (wrap64 (((wrap64 (Int.tdiv a0 100)) / 8) * 4)) (wrap64 (((Int.tmod (wrap64 (Int.tdiv a0 10)) 10) / 8) * 2))) ((Int.tmod a0 10) / 8)) == 1) = false := beq_eq_false_iff_ne.mpr c6
            have c6b1 : ((Go.bits .or .i64 (Go.bits .or .i64 (wrap64 (((wrap64 (Int.tdiv a0 100)) / 8) * 4)) (wrap64 (((Int.tmod (wrap64 (Int.tdiv a0 10)) 10) / 8) * 2))) ((Int.tmod a0 10) / 8)) != 1) = true := bne_iff_ne.mpr c6
            by_cases c7 : (Go.bits .or .i64 (Go.bits .or .i64 (wrap64 (((wrap64 (Int.tdiv a0 100)) / 8) * 4)) (wrap64 (((Int.tmod (wrap64 (Int.tdiv a0 10)) 10) / 8) * 2))) ((Int.tmod a0 10) / 8)) = 2
            · rw [if_pos c7] at H
              have c7b0 : ((Go.bits .or .i64 (Go.bits .or .i64 (wrap64 (((wrap64 (Int.tdiv a0 100)) / 8) * 4)) (wrap64 (((Int.tmod (wrap64 (Int.tdiv a0 10)) 10) / 8) * 2))) ((Int.tmod a0 10) / 8)) == 2) = true := beq_iff_eq.mpr c7
              have c7b1 : ((Go.bits .or .i64 (Go.bits .or .i64 (wrap64 (((wrap64 (Int.tdiv a0 100)) / 8) * 4)) (wrap64 (((Int.tmod (wrap64 (Int.tdiv a0 10)) 10) / 8) * 2))) ((Int.tmod a0 10) / 8)) != 2) = false := bne_eq_false_iff_eq.mpr c7
              clear c7
              simp only [Option.some.injEq, Prod.mk.injEq] at H
              obtain ⟨rfl, rfl⟩ := H
              go_wp2
              go_ret2
              exact ⟨by first | rfl | (simp; done) | (simp [*]; done), by repeat (first | exact Drawn0.refl _ | apply Drawn0.step)⟩
            · rw [if_neg c7] at H
              have c7b0 : ((Go.bits .or .i64 (Go.bits .or .i64 (wrap64 (((wrap64 (Int.tdiv a0 100)) / 8) * 4)) (wrap64 (((Int.tmod (wrap64 (Int.tdiv a0 10)) 10) / 8) * 2))) ((Int.tmod a0 10) / 8)) == 2) = false := beq_eq_false_iff_ne.mpr c7
              have c7b1 : ((Go.bits .or .i64 (Go.bits .or .i64 (wrap64 (((wrap64 (Int.tdiv a0 100)) / 8) * 4)) (wrap64 (((Int.tmod (wrap64 (Int.tdiv a0 10)) 10) / 8) * 2))) ((Int.tmod a0 10) / 8)) != 2) = true := bne_iff_ne.mpr c7
              by_cases c8 : (Go.bits .or .i64 (Go.bits .or .i64 (wrap64 (((wrap64 (Int.tdiv a0 100)) / 8) * 4)) (wrap64 (((Int.tmod (wrap64 (Int.tdiv a0 10)) 10) / 8) * 2))) ((Int.tmod a0 10) / 8)) = 4
              · rw [if_pos c8] at H
                have c8b0 : ((Go.bits .or .i64 (Go.bits .or .i64 (wrap64 (((wrap64 (Int.tdiv a0 100)) / 8) * 4)) (wrap64 (((Int.tmod (wrap64 (Int.tdiv a0 10)) 10) / 8) * 2))) ((Int.tmod a0 10) / 8)) == 4) = true := beq_iff_eq.mpr c8
                have c8b1 : ((Go.bits .or .i64 (Go.bits .or .i64 (wrap64 (((wrap64 (Int.tdiv a0 100)) / 8) * 4)) (wrap64 (((Int.tmod (wrap64 (Int.tdiv a0 10)) 10) / 8) * 2))) ((Int.tmod a0 10) / 8)) != 4) = false := bne_eq_false_iff_eq.mpr c8
                clear c8
                simp only [Option.some.injEq, Prod.mk.injEq] at H
                obtain ⟨rfl, rfl⟩ := H
                go_wp2
                go_ret2
                exact ⟨by first | rfl | (simp; done) | (simp [*]; done), by repeat (first | exact Drawn0.refl _ | apply Drawn0.step)⟩
              · rw [if_neg c8] at H
                have c8b0 : ((Go.bits .or .i64 (Go.bits .or .i64 (wrap64 (((wrap64 (Int.tdiv a0 100)) / 8) * 4)) (wrap64 (((Int.tmod (wrap64 (Int.tdiv a0 10)) 10) / 8) * 2))) ((Int.tmod a0 10) / 8)) == 4) = false := beq_eq_false_iff_ne.mpr c8
                have c8b1 : ((Go.bits .or .i64 (Go.bits .or .i64 (wrap64 (((wrap64 (Int.tdiv a0 100)) / 8) * 4)) (wrap64 (((Int.tmod (wrap64 (Int.tdiv a0 10)) 10) / 8) * 2))) ((Int.tmod a0 10) / 8)) != 4) = true := bne_iff_ne.mpr c8
                by_cases c9 : (Go.bits .or .i64 (Go.bits .or .i64 (wrap64 (((wrap64 (Int.tdiv a0 100)) / 8) * 4)) (wrap64 (((Int.tmod (wrap64 (Int.tdiv a0 10)) 10) / 8) * 2))) ((Int.tmod a0 10) / 8)) = 3
                · rw [if_pos c9] at H
                  have c9b0 : ((Go.bits .or .i64 (Go.bits .or .i64 (wrap64 (((wrap64 (Int.tdiv a0 100)) / 8) * 4)) (wrap64 (((Int.tmod (wrap64 (Int.tdiv a0 10)) 10) / 8) * 2))) ((Int.tmod a0 10) / 8)) == 3) = true := beq_iff_eq.mpr c9
                  have c9b1 : ((Go.bits .or .i64 (Go.bits .or .i64 (wrap64 (((wrap64 (Int.tdiv a0 100)) / 8) * 4)) (wrap64 (((Int.tmod (wrap64 (Int.tdiv a0 10)) 10) / 8) * 2))) ((Int.tmod a0 10) / 8)) != 3) = false := bne_eq_false_iff_eq.mpr c9
                  clear c9
                  simp only [Option.some.injEq, Prod.mk.injEq] at H
                  obtain ⟨rfl, rfl⟩ := H
                  go_wp2
                  go_ret2
                  exact ⟨by first | rfl | (simp; done) | (simp [*]; done), by repeat (first | exact Drawn0.refl _ | apply Drawn0.step)⟩
                · rw [if_neg c9] at H
                  have c9b0 : ((Go.bits .or .i64 (Go.bits .or .i64 (wrap64 (((wrap64 (Int.tdiv a0 100)) / 8) * 4)) (wrap64 (((Int.tmod (wrap64 (Int.tdiv a0 10)) 10) / 8) * 2))) ((Int.tmod a0 10) / 8)) == 3) = false := beq_eq_false_iff_ne.mpr c9
                  have c9b1 : ((Go.bits .or .i64 (Go.bits .or .i64 (wrap64 (((wrap64 (Int.tdiv a0 100)) / 8) * 4)) (wrap64 (((Int.tmod (wrap64 (Int.tdiv a0 10)) 10) / 8) * 2))) ((Int.tmod a0 10) / 8)) != 3) = true := bne_iff_ne.mpr c9
                  by_cases c10 : (Go.bits .or .i64 (Go.bits .or .i64 (wrap64 (((wrap64 (Int.tdiv a0 100)) / 8) * 4)) (wrap64 (((Int.tmod (wrap64 (Int.tdiv a0 10)) 10) / 8) * 2))) ((Int.tmod a0 10) / 8)) = 5
                  · rw [if_pos c10] at H
                    have c10b0 : ((Go.bits .or .i64 (Go.bits .or .i64 (wrap64 (((wrap64 (Int.tdiv a0 100)) / 8) * 4)) (wrap64 (((Int.tmod (wrap64 (Int.tdiv a0 10)) 10) / 8) * 2))) ((Int.tmod a0 10) / 8)) == 5) = true := beq_iff_eq.mpr c10
                    have c10b1 : ((Go.bits .or .i64 (Go.bits .or .i64 (wrap64 (((wrap64 (Int.tdiv a0 100)) / 8) * 4)) (wrap64 (((Int.tmod (wrap64 (Int.tdiv a0 10)) 10) / 8) * 2))) ((Int.tmod a0 10) / 8)) != 5) = false := bne_eq_false_iff_eq.mpr c10
                    clear c10
                    simp only [Option.some.injEq, Prod.mk.injEq] at H
                    obtain ⟨rfl, rfl⟩ := H
                    go_wp2
                    go_ret2
                    exact ⟨by first | rfl | (simp; done) | (simp [*]; done), by repeat (first | exact Drawn0.refl _ | apply Drawn0.step)⟩
                  · rw [if_neg c10] at H
                    have c10b0 : ((Go.bits .or .i64 (Go.bits .or .i64 (wrap64 (((wrap64 (Int.tdiv a0 100)) / 8) * 4)) (wrap64 (((Int.tmod (wrap64 (Int.tdiv a0 10)) 10) / 8) * 2))) ((Int.tmod a0 10) / 8)) == 5) = false := beq_eq_false_iff_ne.mpr c10
                    have c10b1 : ((Go.bits .or .i64 (Go.bits .or .i64 (wrap64 (((wrap64 (Int.tdiv a0 100)) / 8) * 4)) (wrap64 (((Int.tmod (wrap64 (Int.tdiv a0 10)) 10) / 8) * 2))) ((Int.tmod a0 10) / 8)) != 5) = true := bne_iff_ne.mpr c10
                    by_cases c11 : (Go.bits .or .i64 (Go.bits .or .i64 (wrap64 (((wrap64 (Int.tdiv a0 100)) / 8) * 4)) (wrap64 (((Int.tmod (wrap64 (Int.tdiv a0 10)) 10) / 8) * 2))) ((Int.tmod a0 10) / 8)) = 6
                    · rw [if_pos c11] at H
                      have c11b0 : ((Go.bits .or .i64 (Go.bits .or .i64 (wrap64 (((wrap64 (Int.tdiv a0 100)) / 8) * 4)) (wrap64 (((Int.tmod (wrap64 (Int.tdiv a0 10)) 10) / 8) * 2))) ((Int.tmod a0 10) / 8)) == 6) = true := beq_iff_eq.mpr c11
                      have c11b1 : ((Go.bits .or .i64 (Go.bits .or .i64 (wrap64 (((wrap64 (Int.tdiv a0 100)) / 8) * 4)) (wrap64 (((Int.tmod (wrap64 (Int.tdiv a0 10)) 10) / 8) * 2))) ((Int.tmod a0 10) / 8)) != 6) = false := bne_eq_false_iff_eq.mpr c11
                      clear c11
                      simp only [Option.some.injEq, Prod.mk.injEq] at H
                      obtain ⟨rfl, rfl⟩ := H
                      go_wp2
                      go_ret2
                      exact ⟨by first | rfl | (simp; done) | (simp [*]; done), by repeat (first | exact Drawn0.refl _ | apply Drawn0.step)⟩
                    · rw [if_neg c11] at H
                      have c11b0 : ((Go.bits .or .i64 (Go.bits .or .i64 (wrap64 (((wrap64 (Int.tdiv a0 100)) / 8) * 4)) (wrap64 (((Int.tmod (wrap64 (Int.tdiv a0 10)) 10) / 8) * 2))) ((Int.tmod a0 10) / 8)) == 6) = false := beq_eq_false_iff_ne.mpr c11
                      have c11b1 : ((Go.bits .or .i64 (Go.bits .or .i64 (wrap64 (((wrap64 (Int.tdiv a0 100)) / 8) * 4)) (wrap64 (((Int.tmod (wrap64 (Int.tdiv a0 10)) 10) / 8) * 2))) ((Int.tmod a0 10) / 8)) != 6) = true := bne_iff_ne.mpr c11
                      simp only [Option.some.injEq, Prod.mk.injEq] at H
                      obtain ⟨rfl, rfl⟩ := H
                      go_wp2
                      go_ret2
                      exact ⟨by first | rfl | (simp; done) | (simp [*]; done), by repeat (first | exact Drawn0.refl _ | apply Drawn0.step)⟩

/-! ### caliperlaw13_awake: function 15 -/
def caliperlaw13_awake.f (k : Nat)  : Option (Bool) := (declet_Encode.f k 80).bind fun bt101 => (if bt101.1 = 10 then (some (bt101.2 == 0)) else (some false))
theorem caliperlaw13_awake.mono : ∀ k, LeO (caliperlaw13_awake.f k ) (caliperlaw13_awake.f (k + 1) ) := by
  intro  k
  unfold caliperlaw13_awake.f
  repeat' first
      | (with_reducible exact declet_Encode.mono _ _)
      | (with_reducible exact LeO.refl _)
      | (with_reducible exact LeO.none _)
      | (with_reducible refine LeO.ite ?_ ?_)
      | (with_reducible refine LeO.bind ?_ (fun _ => ?_))
      | exact declet_Encode.mono _ _
      | exact LeO.none _
      | refine LeO.ite ?_ ?_
      | refine LeO.bind ?_ (fun _ => ?_)
set_option maxHeartbeats 8000000 in
set_option maxRecDepth 100000 in
theorem caliperlaw13_awake.calls (k : Nat)  (r : Bool) (w : World) (h : caliperlaw13_awake.f k  = some r) :
    Calls Try.prog 15 #[] w fun e w' => e = .returned (.bool r) ∧ Drawn0 w w' := by
  have H : ((declet_Encode.f k 80).bind fun bt101 => (if bt101.1 = 10 then (some (bt101.2 == 0)) else (some false))) = some r := h
  clear h
  replace H := Option.bind_eq_some_iff.mp H
  obtain ⟨⟨t101, t102⟩, A10, H⟩ := H
  replace H : (if t101 = 10 then (some (t102 == 0)) else (some false)) = some r := H
  have A1 := Aside0.mk A10
  clear A10
  by_cases c2 : t101 = 10
  · rw [if_pos c2] at H
    have c2b0 : (t101 == 10) = true := beq_iff_eq.mpr c2
    have c2b1 : (t101 != 10) = false := bne_eq_false_iff_eq.mpr c2
    clear c2
    obtain rfl := Option.some.inj H
    go_enter Try.func15, Try.ntmps15
    go_wp2_with (first | ((with_reducible refine gate_callee (f := 16) rfl ?_); refine goesL_ (some 4) rfl rfl Try.func16 (by kernel_rfl) rfl #[.int .i64 80] rfl (by (try simp only [List.map_toArray, List.map_cons, List.map_nil]); first | done | rfl | (simp only [List.length_drop, List.length_take]; rfl)) ?_; (with_reducible refine (declet_Encode.calls k 80 t101 t102 _ A1.out).mono ?_); rintro e w' ⟨rfl, ⟨nd, rfl⟩⟩; refine ⟨_, rfl, ?_⟩))
    go_ret
    exact ⟨by first | rfl | (simp; done) | (simp [*]; done), by repeat (first | exact Drawn0.refl _ | apply Drawn0.step)⟩
  · rw [if_neg c2] at H
    have c2b0 : (t101 == 10) = false := beq_eq_false_iff_ne.mpr c2
    have c2b1 : (t101 != 10) = true := bne_iff_ne.mpr c2
    obtain rfl := Option.some.inj H
    go_enter Try.func15, Try.ntmps15
    go_wp2_with (first | ((with_reducible refine gate_callee (f := 16) rfl ?_); refine goesL_ (some 4) rfl rfl Try.func16 (by kernel_rfl) rfl #[.int .i64 80] rfl (by (try simp only [List.map_toArray, List.map_cons, List.map_nil]); first | done | rfl | (simp only [List.length_drop, List.length_take]; rfl)) ?_; (with_reducible refine (declet_Encode.calls k 80 t101 t102 _ A1.out).mono ?_); rintro e w' ⟨rfl, ⟨nd, rfl⟩⟩; refine ⟨_, rfl, ?_⟩))
    go_ret
    exact ⟨by first | rfl | (simp; done) | (simp [*]; done), by repeat (first | exact Drawn0.refl _ | apply Drawn0.step)⟩

/-! ### caliperlaw13_DecletSmall: function 3 -/
def caliperlaw13_DecletSmall.f (k : Nat) (a0 : Int) (a1 : Int) (a2 : Int) : Option (Bool) := (caliperlaw13_awake.f k).bind fun t103 => (if t103 = true then ((declet_Encode.f k (wrap64 ((wrap64 ((wrap64 (100 * (wrap64 (Int.tmod a0 8)))) + (wrap64 (10 * (wrap64 (Int.tmod a1 8)))))) + (wrap64 (Int.tmod a2 8))))).bind fun bt104 => ((declet_Encode.f k (wrap64 ((wrap64 ((wrap64 (a0)) * 3)) + (Int.tmod (wrap64 (a1)) 200)))).bind fun bt106 => (if bt104.1 = (Go.bits .or .i64 (Go.bits .or .i64 (wrap64 ((wrap64 (Int.tmod a0 8)) * 128)) (wrap64 ((wrap64 (Int.tmod a1 8)) * 16))) (wrap64 (Int.tmod a2 8))) then (if bt104.2 = 0 then (if bt106.2 = 0 then (some ((Int.tmod bt106.1 2) == (Int.tmod (wrap64 ((wrap64 ((wrap64 (a0)) * 3)) + (Int.tmod (wrap64 (a1)) 200))) 2))) else (some false)) else (some false)) else (some false)))) else (some false))
theorem caliperlaw13_DecletSmall.mono : ∀ a0 a1 a2 k, LeO (caliperlaw13_DecletSmall.f k a0 a1 a2) (caliperlaw13_DecletSmall.f (k + 1) a0 a1 a2) := by
  intro a0 a1 a2 k
  unfold caliperlaw13_DecletSmall.f
  repeat' first
      | (with_reducible exact caliperlaw13_awake.mono _)
      | (with_reducible exact declet_Encode.mono _ _)
      | (with_reducible exact LeO.refl _)
      | (with_reducible exact LeO.none _)
      | (with_reducible refine LeO.ite ?_ ?_)
      | (with_reducible refine LeO.bind ?_ (fun _ => ?_))
      | exact caliperlaw13_awake.mono _
      | exact declet_Encode.mono _ _
      | exact LeO.none _
      | refine LeO.ite ?_ ?_
      | refine LeO.bind ?_ (fun _ => ?_)
set_option maxHeartbeats 8000000 in
set_option maxRecDepth 100000 in
theorem caliperlaw13_DecletSmall.calls (k : Nat) (a0 : Int) (a1 : Int) (a2 : Int) (r : Bool) (w : World) (h : caliperlaw13_DecletSmall.f k a0 a1 a2 = some r) :
    Calls Try.prog 3 #[.int .u8 a0, .int .u8 a1, .int .u8 a2] w fun e w' => e = .returned (.bool r) ∧ Drawn0 w w' := by
  have H : ((caliperlaw13_awake.f k).bind fun t103 => (if t103 = true then ((declet_Encode.f k (wrap64 ((wrap64 ((wrap64 (100 * (wrap64 (Int.tmod a0 8)))) + (wrap64 (10 * (wrap64 (Int.tmod a1 8)))))) + (wrap64 (Int.tmod a2 8))))).bind fun bt104 => ((declet_Encode.f k (wrap64 ((wrap64 ((wrap64 (a0)) * 3)) + (Int.tmod (wrap64 (a1)) 200)))).bind fun bt106 => (if bt104.1 = (Go.bits .or .i64 (Go.bits .or .i64 (wrap64 ((wrap64 (Int.tmod a0 8)) * 128)) (wrap64 ((wrap64 (Int.tmod a1 8)) * 16))) (wrap64 (Int.tmod a2 8))) then (if bt104.2 = 0 then (if bt106.2 = 0 then (some ((Int.tmod bt106.1 2) == (Int.tmod (wrap64 ((wrap64 ((wrap64 (a0)) * 3)) + (Int.tmod (wrap64 (a1)) 200))) 2))) else (some false)) else (some false)) else (some false)))) else (some false))) = some r := h
  clear h
  replace H := Option.bind_eq_some_iff.mp H
  obtain ⟨t103, A40, H⟩ := H
  replace H : (if t103 = true then ((declet_Encode.f k (wrap64 ((wrap64 ((wrap64 (100 * (wrap64 (Int.tmod a0 8)))) + (wrap64 (10 * (wrap64 (Int.tmod a1 8)))))) + (wrap64 (Int.tmod a2 8))))).bind fun bt104 => ((declet_Encode.f k (wrap64 ((wrap64 ((wrap64 (a0)) * 3)) + (Int.tmod (wrap64 (a1)) 200)))).bind fun bt106 => (if bt104.1 = (Go.bits .or .i64 (Go.bits .or .i64 (wrap64 ((wrap64 (Int.tmod a0 8)) * 128)) (wrap64 ((wrap64 (Int.tmod a1 8)) * 16))) (wrap64 (Int.tmod a2 8))) then (if bt104.2 = 0 then (if bt106.2 = 0 then (some ((Int.tmod bt106.1 2) == (Int.tmod (wrap64 ((wrap64 ((wrap64 (a0)) * 3)) + (Int.tmod (wrap64 (a1)) 200))) 2))) else (some false)) else (some false)) else (some false)))) else (some false)) = some r := H
  have A4 := Aside0.mk A40
  clear A40
  by_cases c5 : t103 = true
  · subst c5
    have H1 : ((declet_Encode.f k (wrap64 ((wrap64 ((wrap64 (100 * (wrap64 (Int.tmod a0 8)))) + (wrap64 (10 * (wrap64 (Int.tmod a1 8)))))) + (wrap64 (Int.tmod a2 8))))).bind fun bt104 => ((declet_Encode.f k (wrap64 ((wrap64 ((wrap64 (a0)) * 3)) + (Int.tmod (wrap64 (a1)) 200)))).bind fun bt106 => (if bt104.1 = (Go.bits .or .i64 (Go.bits .or .i64 (wrap64 ((wrap64 (Int.tmod a0 8)) * 128)) (wrap64 ((wrap64 (Int.tmod a1 8)) * 16))) (wrap64 (Int.tmod a2 8))) then (if bt104.2 = 0 then (if bt106.2 = 0 then (some ((Int.tmod bt106.1 2) == (Int.tmod (wrap64 ((wrap64 ((wrap64 (a0)) * 3)) + (Int.tmod (wrap64 (a1)) 200))) 2))) else (some false)) else (some false)) else (some false)))) = some r := by rw [if_pos rfl] at H; exact H
    clear H
    have H := H1
    clear H1
    replace H := Option.bind_eq_some_iff.mp H
    obtain ⟨⟨t104, t105⟩, A60, H⟩ := H
    replace H : ((declet_Encode.f k (wrap64 ((wrap64 ((wrap64 (a0)) * 3)) + (Int.tmod (wrap64 (a1)) 200)))).bind fun bt106 => (if t104 = (Go.bits .or .i64 (Go.bits .or .i64 (wrap64 ((wrap64 (Int.tmod a0 8)) * 128)) (wrap64 ((wrap64 (Int.tmod a1 8)) * 16))) (wrap64 (Int.tmod a2 8))) then (if t105 = 0 then (if bt106.2 = 0 then (some ((Int.tmod bt106.1 2) == (Int.tmod (wrap64 ((wrap64 ((wrap64 (a0)) * 3)) + (Int.tmod (wrap64 (a1)) 200))) 2))) else (some false)) else (some false)) else (some false))) = some r := H
    have A6 := Aside0.mk A60
    clear A60
    replace H := Option.bind_eq_some_iff.mp H
    obtain ⟨⟨t106, t107⟩, A70, H⟩ := H
    replace H : (if t104 = (Go.bits .or .i64 (Go.bits .or .i64 (wrap64 ((wrap64 (Int.tmod a0 8)) * 128)) (wrap64 ((wrap64 (Int.tmod a1 8)) * 16))) (wrap64 (Int.tmod a2 8))) then (if t105 = 0 then (if t107 = 0 then (some ((Int.tmod t106 2) == (Int.tmod (wrap64 ((wrap64 ((wrap64 (a0)) * 3)) + (Int.tmod (wrap64 (a1)) 200))) 2))) else (some false)) else (some false)) else (some false)) = some r := H
    have A7 := Aside0.mk A70
    clear A70
    by_cases c8 : t104 = (Go.bits .or .i64 (Go.bits .or .i64 (wrap64 ((wrap64 (Int.tmod a0 8)) * 128)) (wrap64 ((wrap64 (Int.tmod a1 8)) * 16))) (wrap64 (Int.tmod a2 8)))
    · rw [if_pos c8] at H
      have c8b0 : (t104 == (Go.bits .or .i64 (Go.bits .or .i64 (wrap64 ((wrap64 (Int.tmod a0 8)) * 128)) (wrap64 ((wrap64 (Int.tmod a1 8)) * 16))) (wrap64 (Int.tmod a2 8)))) = true := beq_iff_eq.mpr c8
      have c8b1 : (t104 != (Go.bits .or .i64 (Go.bits .or .i64 (wrap64 ((wrap64 (Int.tmod a0 8)) * 128)) (wrap64 ((wrap64 (Int.tmod a1 8)) * 16))) (wrap64 (Int.tmod a2 8)))) = false := bne_eq_false_iff_eq.mpr c8
      clear c8
      by_cases c9 : t105 = 0
      · rw [if_pos c9] at H
        have c9b0 : (t105 == 0) = true := beq_iff_eq.mpr c9
        have c9b1 : (t105 != 0) = false := bne_eq_false_iff_eq.mpr c9
        clear c9
        by_cases c10 : t107 = 0
        · rw [if_pos c10] at H
          have c10b0 : (t107 == 0) = true := beq_iff_eq.mpr c10
          have c10b1 : (t107 != 0) = false := bne_eq_false_iff_eq.mpr c10
          clear c10
          obtain rfl := Option.some.inj H
          go_enter Try.func3, Try.ntmps3
          go_wp2_with (first | ((with_reducible refine gate_callee (f := 15) rfl ?_); refine goesL_ (some 14) rfl rfl Try.func15 (by kernel_rfl) rfl #[] rfl (by (try simp only [List.map_toArray, List.map_cons, List.map_nil]); first | done | rfl | (simp only [List.length_drop, List.length_take]; rfl)) ?_; (with_reducible refine (caliperlaw13_awake.calls k  true _ A4.out).mono ?_); rintro e w' ⟨rfl, ⟨nd, rfl⟩⟩; refine ⟨_, rfl, ?_⟩) | ((with_reducible refine gate_callee (f := 16) rfl ?_); refine goesL_ (some 33) rfl rfl Try.func16 (by kernel_rfl) rfl #[.int .i64 (wrap64 ((wrap64 ((wrap64 (100 * (wrap64 (Int.tmod a0 8)))) + (wrap64 (10 * (wrap64 (Int.tmod a1 8)))))) + (wrap64 (Int.tmod a2 8))))] rfl (by (try simp only [List.map_toArray, List.map_cons, List.map_nil]); first | done | rfl | (simp only [List.length_drop, List.length_take]; rfl)) ?_; (with_reducible refine (declet_Encode.calls k (wrap64 ((wrap64 ((wrap64 (100 * (wrap64 (Int.tmod a0 8)))) + (wrap64 (10 * (wrap64 (Int.tmod a1 8)))))) + (wrap64 (Int.tmod a2 8)))) t104 t105 _ A6.out).mono ?_); rintro e w' ⟨rfl, ⟨nd, rfl⟩⟩; refine ⟨_, rfl, ?_⟩) | ((with_reducible refine gate_callee (f := 16) rfl ?_); refine goesL_ (some 44) rfl rfl Try.func16 (by kernel_rfl) rfl #[.int .i64 (wrap64 ((wrap64 ((wrap64 (a0)) * 3)) + (Int.tmod (wrap64 (a1)) 200)))] rfl (by (try simp only [List.map_toArray, List.map_cons, List.map_nil]); first | done | rfl | (simp only [List.length_drop, List.length_take]; rfl)) ?_; (with_reducible refine (declet_Encode.calls k (wrap64 ((wrap64 ((wrap64 (a0)) * 3)) + (Int.tmod (wrap64 (a1)) 200))) t106 t107 _ A7.out).mono ?_); rintro e w' ⟨rfl, ⟨nd, rfl⟩⟩; refine ⟨_, rfl, ?_⟩))
          go_ret
          exact ⟨by first | rfl | (simp; done) | (simp [*]; done), by repeat (first | exact Drawn0.refl _ | apply Drawn0.step)⟩
        · rw [if_neg c10] at H
          have c10b0 : (t107 == 0) = false := beq_eq_false_iff_ne.mpr c10
          have c10b1 : (t107 != 0) = true := bne_iff_ne.mpr c10
          obtain rfl := Option.some.inj H
          go_enter Try.func3, Try.ntmps3
          go_wp2_with (first | ((with_reducible refine gate_callee (f := 15) rfl ?_); refine goesL_ (some 14) rfl rfl Try.func15 (by kernel_rfl) rfl #[] rfl (by (try simp only [List.map_toArray, List.map_cons, List.map_nil]); first | done | rfl | (simp only [List.length_drop, List.length_take]; rfl)) ?_; (with_reducible refine (caliperlaw13_awake.calls k  true _ A4.out).mono ?_); rintro e w' ⟨rfl, ⟨nd, rfl⟩⟩; refine ⟨_, rfl, ?_⟩) | ((with_reducible refine gate_callee (f := 16) rfl ?_); refine goesL_ (some 33) rfl rfl Try.func16 (by kernel_rfl) rfl #[.int .i64 (wrap64 ((wrap64 ((wrap64 (100 * (wrap64 (Int.tmod a0 8)))) + (wrap64 (10 * (wrap64 (Int.tmod a1 8)))))) + (wrap64 (Int.tmod a2 8))))] rfl (by (try simp only [List.map_toArray, List.map_cons, List.map_nil]); first | done | rfl | (simp only [List.length_drop, List.length_take]; rfl)) ?_; (with_reducible refine (declet_Encode.calls k (wrap64 ((wrap64 ((wrap64 (100 * (wrap64 (Int.tmod a0 8)))) + (wrap64 (10 * (wrap64 (Int.tmod a1 8)))))) + (wrap64 (Int.tmod a2 8)))) t104 t105 _ A6.out).mono ?_); rintro e w' ⟨rfl, ⟨nd, rfl⟩⟩; refine ⟨_, rfl, ?_⟩) | ((with_reducible refine gate_callee (f := 16) rfl ?_); refine goesL_ (some 44) rfl rfl Try.func16 (by kernel_rfl) rfl #[.int .i64 (wrap64 ((wrap64 ((wrap64 (a0)) * 3)) + (Int.tmod (wrap64 (a1)) 200)))] rfl (by (try simp only [List.map_toArray, List.map_cons, List.map_nil]); first | done | rfl | (simp only [List.length_drop, List.length_take]; rfl)) ?_; (with_reducible refine (declet_Encode.calls k (wrap64 ((wrap64 ((wrap64 (a0)) * 3)) + (Int.tmod (wrap64 (a1)) 200))) t106 t107 _ A7.out).mono ?_); rintro e w' ⟨rfl, ⟨nd, rfl⟩⟩; refine ⟨_, rfl, ?_⟩))
          go_ret
          exact ⟨by first | rfl | (simp; done) | (simp [*]; done), by repeat (first | exact Drawn0.refl _ | apply Drawn0.step)⟩
      · rw [if_neg c9] at H
        have c9b0 : (t105 == 0) = false := beq_eq_false_iff_ne.mpr c9
        have c9b1 : (t105 != 0) = true := bne_iff_ne.mpr c9
        obtain rfl := Option.some.inj H
        go_enter Try.func3, Try.ntmps3
        go_wp2_with (first | ((with_reducible refine gate_callee (f := 15) rfl ?_); refine goesL_ (some 14) rfl rfl Try.func15 (by kernel_rfl) rfl #[] rfl (by (try simp only [List.map_toArray, List.map_cons, List.map_nil]); first | done | rfl | (simp only [List.length_drop, List.length_take]; rfl)) ?_; (with_reducible refine (caliperlaw13_awake.calls k  true _ A4.out).mono ?_); rintro e w' ⟨rfl, ⟨nd, rfl⟩⟩; refine ⟨_, rfl, ?_⟩) | ((with_reducible refine gate_callee (f := 16) rfl ?_); refine goesL_ (some 33) rfl rfl Try.func16 (by kernel_rfl) rfl #[.int .i64 (wrap64 ((wrap64 ((wrap64 (100 * (wrap64 (Int.tmod a0 8)))) + (wrap64 (10 * (wrap64 (Int.tmod a1 8)))))) + (wrap64 (Int.tmod a2 8))))] rfl (by (try simp only [List.map_toArray, List.map_cons, List.map_nil]); first | done | rfl | (simp only [List.length_drop, List.length_take]; rfl)) ?_; (with_reducible refine (declet_Encode.calls k (wrap64 ((wrap64 ((wrap64 (100 * (wrap64 (Int.tmod a0 8)))) + (wrap64 (10 * (wrap64 (Int.tmod a1 8)))))) + (wrap64 (Int.tmod a2 8)))) t104 t105 _ A6.out).mono ?_); rintro e w' ⟨rfl, ⟨nd, rfl⟩⟩; refine ⟨_, rfl, ?_⟩) | ((with_reducible refine gate_callee (f := 16) rfl ?_); refine goesL_ (some 44) rfl rfl Try.func16 (by kernel_rfl) rfl #[.int .i64 (wrap64 ((wrap64 ((wrap64 (a0)) * 3)) + (Int.tmod (wrap64 (a1)) 200)))] rfl (by (try simp only [List.map_toArray, List.map_cons, List.map_nil]); first | done | rfl | (simp only [List.length_drop, List.length_take]; rfl)) ?_; (with_reducible refine (declet_Encode.calls k (wrap64 ((wrap64 ((wrap64 (a0)) * 3)) + (Int.tmod (wrap64 (a1)) 200))) t106 t107 _ A7.out).mono ?_); rintro e w' ⟨rfl, ⟨nd, rfl⟩⟩; refine ⟨_, rfl, ?_⟩))
        go_ret
        exact ⟨by first | rfl | (simp; done) | (simp [*]; done), by repeat (first | exact Drawn0.refl _ | apply Drawn0.step)⟩
    · rw [if_neg c8] at H
      have c8b0 : (t104 == (Go.bits .or .i64 (Go.bits .or .i64 (wrap64 ((wrap64 (Int.tmod a0 8)) * 128)) (wrap64 ((wrap64 (Int.tmod a1 8)) * 16))) (wrap64 (Int.tmod a2 8)))) = false := beq_eq_false_iff_ne.mpr c8
      have c8b1 : (t104 != (Go.bits .or .i64 (Go.bits .or .i64 (wrap64 ((wrap64 (Int.tmod a0 8)) * 128)) (wrap64 ((wrap64 (Int.tmod a1 8)) * 16))) (wrap64 (Int.tmod a2 8)))) = true := bne_iff_ne.mpr c8
      obtain rfl := Option.some.inj H
      go_enter Try.func3, Try.ntmps3
      go_wp2_with (first | ((with_reducible refine gate_callee (f := 15) rfl ?_); refine goesL_ (some 14) rfl rfl Try.func15 (by kernel_rfl) rfl #[] rfl (by (try simp only [List.map_toArray, List.map_cons, List.map_nil]); first | done | rfl | (simp only [List.length_drop, List.length_take]; rfl)) ?_; (with_reducible refine (caliperlaw13_awake.calls k  true _ A4.out).mono ?_); rintro e w' ⟨rfl, ⟨nd, rfl⟩⟩; refine ⟨_, rfl, ?_⟩) | ((with_reducible refine gate_callee (f := 16) rfl ?_); refine goesL_ (some 33) rfl rfl Try.func16 (by kernel_rfl) rfl #[.int .i64 (wrap64 ((wrap64 ((wrap64 (100 * (wrap64 (Int.tmod a0 8)))) + (wrap64 (10 * (wrap64 (Int.tmod a1 8)))))) + (wrap64 (Int.tmod a2 8))))] rfl (by (try simp only [List.map_toArray, List.map_cons, List.map_nil]); first | done | rfl | (simp only [List.length_drop, List.length_take]; rfl)) ?_; (with_reducible refine (declet_Encode.calls k (wrap64 ((wrap64 ((wrap64 (100 * (wrap64 (Int.tmod a0 8)))) + (wrap64 (10 * (wrap64 (Int.tmod a1 8)))))) + (wrap64 (Int.tmod a2 8)))) t104 t105 _ A6.out).mono ?_); rintro e w' ⟨rfl, ⟨nd, rfl⟩⟩; refine ⟨_, rfl, ?_⟩) | ((with_reducible refine gate_callee (f := 16) rfl ?_); refine goesL_ (some 44) rfl rfl Try.func16 (by kernel_rfl) rfl #[.int .i64 (wrap64 ((wrap64 ((wrap64 (a0)) * 3)) + (Int.tmod (wrap64 (a1)) 200)))] rfl (by (try simp only [List.map_toArray, List.map_cons, List.map_nil]); first | done | rfl | (simp only [List.length_drop, List.length_take]; rfl)) ?_; (with_reducible refine (declet_Encode.calls k (wrap64 ((wrap64 ((wrap64 (a0)) * 3)) + (Int.tmod (wrap64 (a1)) 200))) t106 t107 _ A7.out).mono ?_); rintro e w' ⟨rfl, ⟨nd, rfl⟩⟩; refine ⟨_, rfl, ?_⟩))
      go_ret
      exact ⟨by first | rfl | (simp; done) | (simp [*]; done), by repeat (first | exact Drawn0.refl _ | apply Drawn0.step)⟩
  · replace c5 := Bool.eq_false_iff.mpr c5
    subst c5
    have H1 : (some false) = some r := by rw [if_neg (show ¬ (false = true) by decide)] at H; exact H
    clear H
    have H := H1
    clear H1
    obtain rfl := Option.some.inj H
    go_enter Try.func3, Try.ntmps3
    go_wp2_with (first | ((with_reducible refine gate_callee (f := 15) rfl ?_); refine goesL_ (some 14) rfl rfl Try.func15 (by kernel_rfl) rfl #[] rfl (by (try simp only [List.map_toArray, List.map_cons, List.map_nil]); first | done | rfl | (simp only [List.length_drop, List.length_take]; rfl)) ?_; (with_reducible refine (caliperlaw13_awake.calls k  false _ A4.out).mono ?_); rintro e w' ⟨rfl, ⟨nd, rfl⟩⟩; refine ⟨_, rfl, ?_⟩))
    go_ret
    exact ⟨by first | rfl | (simp; done) | (simp [*]; done), by repeat (first | exact Drawn0.refl _ | apply Drawn0.step)⟩

/-- THE ONE PURE STATEMENT of caliperlaw13_DecletSmall: yours. -/
def caliperlaw13_DecletSmall.Pure : Prop := ∀ (a0 : Int) (a1 : Int) (a2 : Int), (Lit.int .u8 a0).wf = true → (Lit.int .u8 a1).wf = true → (Lit.int .u8 a2).wf = true → ∃ k, caliperlaw13_DecletSmall.f k a0 a1 a2 = some true
theorem caliperlaw13_DecletSmall.walk (P : caliperlaw13_DecletSmall.Pure) (a0 : Int) (a1 : Int) (a2 : Int) (w : World) (w0 : (Lit.int .u8 a0).wf = true) (w1 : (Lit.int .u8 a1).wf = true) (w2 : (Lit.int .u8 a2).wf = true) :
    Calls Try.prog 3 #[.int .u8 a0, .int .u8 a1, .int .u8 a2] w fun e w' => e = .returned (.bool true) ∧ Below w.heap.size w w' := by
  obtain ⟨k, h⟩ := P a0 a1 a2 w0 w1 w2
  refine (caliperlaw13_DecletSmall.calls k a0 a1 a2 true w h).mono ?_
  rintro e w' ⟨rfl, hd⟩
  exact ⟨rfl, hd.below⟩

end Go.Proofs.Ytmjbikbakkbajaa.PDecletSmall
