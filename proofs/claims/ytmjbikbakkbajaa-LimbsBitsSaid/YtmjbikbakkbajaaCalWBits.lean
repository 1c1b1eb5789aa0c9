/-
  The law LimbsBits is true. The statement itself is proved in CalZLimbsBits.
-/
import Derived.Test.YtmjbikbakkbajaaCalV
import Derived.Test.YtmjbikbakkbajaaCalLLen1
import Derived.Test.YtmjbikbakkbajaaCalLLen2
import Derived.Test.YtmjbikbakkbajaaCalLLen8
import Derived.Test.YtmjbikbakkbajaaCalLBit2
import Derived.Test.YtmjbikbakkbajaaCalLBit8
namespace Go.Proofs.Ytmjbikbakkbajaa.Vm
open Go Go.Vm
noncomputable section
def lbitsE : Env := mkE ty [(22, awake01C), (33, lLen1C), (32, lLen2C), (30, lLen8C), (31, lenC), (35, lBit2C), (34, lBit8C), (25, twoC)] [] [] [] 0 (fun _ => false)
def bl (xs : List Int) : Int := ((bitlen (val xs) : Nat) : Int)
def bitV (xs : List Int) (n : Int) : Int := if n < 0 then 0 else ((val xs / 2 ^ n.toNat % 2 : Nat) : Int)
def bitsT (xs : List Int) (n x y : Int) : R :=
  cond (bl xs == bl xs) (cond (bl [xs.getD 0 0, xs.getD 1 0] == bl ((xs.drop 0).take 2)) (cond (bl [xs.getD 0 0] == bl ((xs.drop 0).take 1)) (cond (bitV xs n == x) (some [(.mine, .p (.bool (bitV [xs.getD 0 0, xs.getD 1 0] n == y)))])
    (some [(.mine, .p (.bool false))])) (some [(.mine, .p (.bool false))])) (some [(.mine, .p (.bool false))])) (some [(.mine, .p (.bool false))])
def bitsY (xs : List Int) (n x : Int) : R := cond (decide (n < 128)) (bitsT xs n x x) (bitsT xs n x 0)
theorem lbits_ev (xs : List Int) (n : Int) : evFn lbitsE Try.f7 [.r .u64 8 xs, .p (.int .i64 n)] =
    cond (decide (n ≥ 0)) (cond (decide (n < 512)) (cond (decide (0 ≤ IntKind.i64.wrap (n.tdiv 64) ∧ IntKind.i64.wrap (n.tdiv 64) < ((8 : Nat) : Int))) (cond (decide (0 + (IntKind.i64.wrap (n.tdiv 64)).toNat < 8)) (cond (decide (IntKind.u64.wrap (n.tmod 64) < 0)) none
      (bitsY xs n (Go.bits .and .u64 (shrI .u64 (xs.getD (0 + (IntKind.i64.wrap (n.tdiv 64)).toNat) 0) (IntKind.u64.wrap (n.tmod 64))) 1))) none) none) (bitsY xs n 0)) (bitsY xs n 0) := by kernel_rfl
theorem bitsT_eq (xs : List Int) (n x y : Int) (hl : xs.length = 8) (h1 : bitV xs n = x) (h2 : bitV [xs.getD 0 0, xs.getD 1 0] n = y) : bitsT xs n x y = some [(.mine, .p (.bool true))] := by
  unfold bitsT
  rw [List.drop_zero, ← take_2 hl, ← take_1 hl, take_2 hl, h1, h2, beq_self_eq_true, beq_self_eq_true, beq_self_eq_true, beq_self_eq_true, beq_self_eq_true]
  rfl
theorem lbits_true {w : World} {vs : List Value} (xs : List Int) (n : Int) (hds : all2 (DR w) [.r .u64 8 xs, .p (.int .i64 n)] vs) : evFn lbitsE Try.f7 [.r .u64 8 xs, .p (.int .i64 n)] = some [(.mine, .p (.bool true))] := by
  have hw := all_wf _ _ hds
  obtain ⟨hx, rx⟩ := wfR hw (xs := xs) (n := 8) (by simp)
  have r2 : inR .u64 [xs.getD 0 0, xs.getD 1 0] := by rw [← take_2 hx]; exact inR_take rx 2
  have l8 := val_lt rx
  have l2 := val_lt r2
  rw [hx] at l8
  have e2 : val [xs.getD 0 0, xs.getD 1 0] = val xs % 2 ^ 128 := by rw [← take_2 hx, val_take rx, pow64]
  rw [lbits_ev]
  by_cases h0 : n ≥ 0
  · obtain ⟨n, rfl⟩ := Int.eq_ofNat_of_zero_le h0
    have hb : ∀ ys : List Int, bitV ys (n : Int) = ((val ys / 2 ^ n % 2 : Nat) : Int) := fun ys => by
      unfold bitV
      rw [if_neg (by omega), Int.toNat_natCast]
    rw [decide_eq_true h0, cond_true]
    by_cases h1 : n < 512
    · rw [decide_eq_true (by omega), cond_true, tdiv64, tmod64, i64_wrap (x := ((n / 64 : Nat) : Int)) (by omega) (by omega), u64_wrap (x := ((n % 64 : Nat) : Int)) (by omega) (by omega), decide_eq_true (by omega), cond_true, Int.toNat_natCast, Nat.zero_add, decide_eq_true (by omega), cond_true, decide_eq_false (by omega), cond_false, bit_word rx n]
      unfold bitsY
      by_cases h2 : n < 128
      · rw [decide_eq_true (by omega), cond_true]
        refine bitsT_eq _ _ _ _ hx (hb xs) ?_
        rw [hb, e2]
        congr 1
        have e : 2 ^ 128 = 2 ^ n * (2 * 2 ^ (127 - n)) := by rw [← Nat.pow_succ', ← Nat.pow_add, show n + (127 - n).succ = 128 from by omega]
        rw [e, Nat.mod_mul_right_div_self, Nat.mod_mul_right_mod]
      · rw [decide_eq_false (by omega), cond_false]
        refine bitsT_eq _ _ _ _ hx (hb xs) ?_
        rw [hb, e2, Nat.div_eq_of_lt (Nat.lt_of_lt_of_le (Nat.mod_lt _ (Nat.two_pow_pos 128)) (Nat.pow_le_pow_right (by decide) (by omega)))]
        rfl
    · rw [decide_eq_false (by omega), cond_false]
      unfold bitsY
      have z : ∀ (ys : List Int) (k : Nat), val ys < 18446744073709551616 ^ k → k ≤ 8 → bitV ys (n : Int) = 0 := by
        intro ys k hy hk
        rw [hb, Nat.div_eq_of_lt (Nat.lt_of_lt_of_le hy ?_)]
        · rfl
        · rw [pow64]
          exact Nat.pow_le_pow_right (by decide) (by omega)
      rw [decide_eq_false (by omega), cond_false]
      exact bitsT_eq _ _ _ _ hx (z xs 8 l8 (Nat.le_refl _)) (z _ 2 l2 (by decide))
  · have hb : ∀ ys : List Int, bitV ys n = 0 := fun ys => by
      unfold bitV
      rw [if_pos (by omega)]
    rw [decide_eq_false h0, cond_false]
    unfold bitsY
    rw [decide_eq_true (by omega), cond_true]
    exact bitsT_eq _ _ _ _ hx (hb xs) (hb _)
theorem lbits_call {w : World} {ds : List D} {vs : List Value} {res : List (Own × D)} (hds : all2 (DR w) ds vs) (he : evFn lbitsE Try.f7 ds = some res) : CallTo Try.prog 7 w vs res := call_mk T mixed Try.func7 (by kernel_rfl) (fns := [(22, awake01C), (33, lLen1C), (32, lLen2C), (30, lLen8C), (31, lenC), (35, lBit2C), (34, lBit8C), (25, twoC)]) (lps := []) (live := []) (out := []) (fuel := 0) (give := (fun _ => false)) ⟨awake01_fn, lLen1_fn, lLen2_fn, lLen8_fn, len_fn, lBit2_fn, lBit8_fn, two_fn, trivial⟩ trivial hds he
end
end Go.Proofs.Ytmjbikbakkbajaa.Vm
