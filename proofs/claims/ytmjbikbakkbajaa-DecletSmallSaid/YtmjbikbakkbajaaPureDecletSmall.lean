/-
  Proved: the pure statement of DecletSmall, for every three bytes; no condition.
-/
import Derived.Test.YtmjbikbakkbajaaPDecletSmallx1
import Derived.OpenShut
namespace Go.Proofs.Ytmjbikbakkbajaa.Pure
set_option linter.unusedVariables false
open Go.RowKit Go.Proofs.Ytmjbikbakkbajaa.PDecletSmall Go.Proofs.YtmjbikbakkbajaaW.PrintWords Go.Proofs.YtmjbikbakkbajaaW.PrintLast

def smallOne (n : Nat) : Bool :=
  match declet_Encode.f 1 (100 * ((n / 64 : Nat) : Int) + 10 * ((n / 8 % 8 : Nat) : Int) + ((n % 8 : Nat) : Int)) with
  | some (d, e) => d == Go.bits .or .i64 (Go.bits .or .i64 (((n / 64 : Nat) : Int) * 128) (((n / 8 % 8 : Nat) : Int) * 16)) ((n % 8 : Nat) : Int) && e == 0
  | none => false
def smallTwo (n : Nat) : Bool :=
  match declet_Encode.f 1 (n : Int) with
  | some (d, e) => Int.tmod d 2 == Int.tmod (n : Int) 2 && e == 0
  | none => false
theorem small_all_one : (List.range 512).all smallOne = true := by decide +kernel
theorem small_all_two : (List.range 1000).all smallTwo = true := by decide +kernel
theorem small_awake : caliperlaw13_awake.f 1 = some true := by decide +kernel
theorem small_one (x y z : Nat) (hx : x < 8) (hy : y < 8) (hz : z < 8) :
    declet_Encode.f 1 (100 * (x : Int) + 10 * (y : Int) + (z : Int)) = some (Go.bits .or .i64 (Go.bits .or .i64 ((x : Int) * 128) ((y : Int) * 16)) (z : Int), 0) := by
  have h := List.all_eq_true.1 small_all_one (64 * x + 8 * y + z) (List.mem_range.2 (by omega))
  unfold smallOne at h
  rw [show (64 * x + 8 * y + z) / 64 = x from by omega, show (64 * x + 8 * y + z) / 8 % 8 = y from by omega, show (64 * x + 8 * y + z) % 8 = z from by omega] at h
  revert h
  cases declet_Encode.f 1 (100 * (x : Int) + 10 * (y : Int) + (z : Int)) with
  | none => intro h; cases h
  | some r =>
    obtain ⟨d, e⟩ := r
    intro h
    simp only [Bool.and_eq_true, beq_iff_eq] at h
    rw [h.1, h.2]
theorem small_two (n : Nat) (hn : n < 1000) : ∃ d, declet_Encode.f 1 (n : Int) = some (d, 0) ∧ Int.tmod d 2 = Int.tmod (n : Int) 2 := by
  have h := List.all_eq_true.1 small_all_two n (List.mem_range.2 hn)
  unfold smallTwo at h
  revert h
  cases declet_Encode.f 1 (n : Int) with
  | none => intro h; cases h
  | some r =>
    obtain ⟨d, e⟩ := r
    intro h
    simp only [Bool.and_eq_true, beq_iff_eq] at h
    exact ⟨d, by rw [h.2], h.1⟩
theorem small_wrap (n : Int) (h0 : -1000000 ≤ n) (h1 : n ≤ 1000000) : wrap64 n = n := by unfold wrap64; omega
theorem small_tmod (n : Nat) (m : Nat) (hn : n < 1000000) : wrap64 (Int.tmod (n : Int) (m : Int)) = ((n % m : Nat) : Int) := by
  rw [← Int.ofNat_tmod]
  exact small_wrap _ (by omega) (by have := Nat.mod_le n m; omega)
theorem small_w0 (a : Nat) (ha : a ≤ 255) : wrap64 (Int.tmod (a : Int) 8) = ((a % 8 : Nat) : Int) := small_tmod a 8 (by omega)
theorem small_w1 (b : Nat) (hb : b ≤ 255) : wrap64 (Int.tmod (b : Int) 8) = ((b % 8 : Nat) : Int) := small_tmod b 8 (by omega)
theorem small_w2 (c : Nat) (hc : c ≤ 255) : wrap64 (Int.tmod (c : Int) 8) = ((c % 8 : Nat) : Int) := small_tmod c 8 (by omega)
theorem small_v1 (b : Nat) (hb : b ≤ 255) : Int.tmod (b : Int) 200 = ((b % 200 : Nat) : Int) := by rw [Int.tmod_eq_emod_of_nonneg (by omega)]; omega
theorem small_v2 (a : Nat) (ha : a ≤ 255) : wrap64 (a : Int) = a := small_wrap _ (by omega) (by omega)
theorem small_v3 (b : Nat) (hb : b ≤ 255) : wrap64 (b : Int) = b := small_wrap _ (by omega) (by omega)
theorem small_v4 (a : Nat) (ha : a ≤ 255) : wrap64 ((a : Int) * 3) = (a : Int) * 3 := small_wrap _ (by omega) (by omega)
theorem small_v5 (a : Nat) (ha : a ≤ 255) (b : Nat) (hb : b ≤ 255) : wrap64 ((a : Int) * 3 + ((b % 200 : Nat) : Int)) = ((a * 3 + b % 200 : Nat) : Int) := (small_wrap _ (by omega) (by omega)).trans (by omega)
theorem small_w4 (a : Nat) (ha : a ≤ 255) : wrap64 (100 * ((a % 8 : Nat) : Int)) = 100 * ((a % 8 : Nat) : Int) := small_wrap _ (by omega) (by omega)
theorem small_w5 (b : Nat) (hb : b ≤ 255) : wrap64 (10 * ((b % 8 : Nat) : Int)) = 10 * ((b % 8 : Nat) : Int) := small_wrap _ (by omega) (by omega)
theorem small_w6 (a : Nat) (ha : a ≤ 255) : wrap64 (((a % 8 : Nat) : Int) * 128) = ((a % 8 : Nat) : Int) * 128 := small_wrap _ (by omega) (by omega)
theorem small_w7 (b : Nat) (hb : b ≤ 255) : wrap64 (((b % 8 : Nat) : Int) * 16) = ((b % 8 : Nat) : Int) * 16 := small_wrap _ (by omega) (by omega)
theorem small_w8 (a : Nat) (ha : a ≤ 255) (b : Nat) (hb : b ≤ 255) : wrap64 (100 * ((a % 8 : Nat) : Int) + 10 * ((b % 8 : Nat) : Int)) = 100 * ((a % 8 : Nat) : Int) + 10 * ((b % 8 : Nat) : Int) := small_wrap _ (by omega) (by omega)
theorem small_w9 (a : Nat) (ha : a ≤ 255) (b : Nat) (hb : b ≤ 255) (c : Nat) (hc : c ≤ 255) : wrap64 (100 * ((a % 8 : Nat) : Int) + 10 * ((b % 8 : Nat) : Int) + ((c % 8 : Nat) : Int)) = 100 * ((a % 8 : Nat) : Int) + 10 * ((b % 8 : Nat) : Int) + ((c % 8 : Nat) : Int) := small_wrap _ (by omega) (by omega)
theorem bind_some_eq {α β : Type} (a : α) (f : α → Option β) (x : Option α) (h : x = some a) : x.bind f = f a := by
  subst h
  exact Option.bind_some a f
theorem if_same {α : Type} (b : Bool) (h : b = true) (x y : α) : (if b = true then x else y) = x := if_pos h
theorem small_end (p q : Option (Int × Int)) (X N d : Int) (hp : p = some (X, 0)) (hq : q = some (d, 0)) (h : d.tmod 2 = N.tmod 2) :
    (p.bind fun b => q.bind fun c => if b.1 = X then (if b.2 = 0 then (if c.2 = 0 then (some ((Int.tmod c.1 2) == (Int.tmod N 2))) else (some false)) else (some false)) else (some false)) = some true := by
  subst hp
  subst hq
  simp [h]
theorem DecletSmall : caliperlaw13_DecletSmall.Pure := by
  intro a0 a1 a2 h0 h1 h2
  replace h0 := Go.bounds_u8 h0
  replace h1 := Go.bounds_u8 h1
  replace h2 := Go.bounds_u8 h2
  obtain ⟨a, rfl⟩ := Int.eq_ofNat_of_zero_le h0.1
  obtain ⟨b, rfl⟩ := Int.eq_ofNat_of_zero_le h1.1
  obtain ⟨c, rfl⟩ := Int.eq_ofNat_of_zero_le h2.1
  obtain ⟨_, ha⟩ := h0
  obtain ⟨_, hb⟩ := h1
  obtain ⟨_, hc⟩ := h2
  have ha : a ≤ 255 := by omega
  have hb : b ≤ 255 := by omega
  have hc : c ≤ 255 := by omega
  have hab : a * 3 + b % 200 < 1000 := by omega
  have w0 := small_w0 a ha
  have w1 := small_w1 b hb
  have w2 := small_w2 c hc
  have v1 := small_v1 b hb
  have v2 := small_v2 a ha
  have v3 := small_v3 b hb
  have v4 := small_v4 a ha
  have v5 := small_v5 a ha b hb
  have w4 := small_w4 a ha
  have w5 := small_w5 b hb
  have w6 := small_w6 a ha
  have w7 := small_w7 b hb
  have w8 := small_w8 a ha b hb
  have w9 := small_w9 a ha b hb c hc
  have g1 := small_one (a % 8) (b % 8) (c % 8) (Nat.mod_lt _ (by decide)) (Nat.mod_lt _ (by decide)) (Nat.mod_lt _ (by decide))
  obtain ⟨d, g2, g3⟩ := small_two (a * 3 + b % 200) hab
  refine ⟨1, ?_⟩
  unfold caliperlaw13_DecletSmall.f
  rw [bind_some_eq _ _ _ small_awake, if_same _ rfl, w0, w1, w2, v2, v3, v4, v1, v5, w4, w5, w6, w7, w8, w9]
  exact small_end _ _ _ _ _ g1 g2 g3

end Go.Proofs.Ytmjbikbakkbajaa.Pure
