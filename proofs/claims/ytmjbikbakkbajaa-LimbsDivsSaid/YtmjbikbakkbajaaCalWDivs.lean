/-
  The law LimbsDivs is true. The statement itself is proved in CalZLimbsDivs.
-/
import Derived.Test.YtmjbikbakkbajaaCalV
import Derived.Test.YtmjbikbakkbajaaCalLDiv2
import Derived.Test.YtmjbikbakkbajaaCalLDiv8
import Derived.Test.YtmjbikbakkbajaaCalLMul2
import Derived.Test.YtmjbikbakkbajaaCalLMul8
import Derived.Test.YtmjbikbakkbajaaCalLOf2
import Derived.Test.YtmjbikbakkbajaaCalLOf8
namespace Go.Proofs.Ytmjbikbakkbajaa.Vm
open Go Go.Vm
noncomputable section
def divsE : Env := mkE ty [(22, awake01C), (47, lDiv2C), (46, lDiv8C), (50, lMul2C), (48, lMul8C), (51, of2C), (49, of8C), (24, lAdd2C), (28, lAdd8C), (25, twoC)] [] [] [] 0 (fun _ => false)
def dvQ (k : Nat) (xs : List Int) (n : Int) : List Int := wordsN k (val xs / n.toNat)
def dvR (xs : List Int) (n : Int) : Int := if n = 0 then 0 else ((val xs % n.toNat : Nat) : Int)
def dvX (k : Nat) (xs : List Int) (n : Int) : List Int := wordsN k (val (dvQ k xs n) * n.toNat)
def dvC (k : Nat) (xs : List Int) (n : Int) : Int := ((val (dvQ k xs n) * n.toNat / 18446744073709551616 ^ k : Nat) : Int)
def dvY (k : Nat) (xs : List Int) (n : Int) : List Int := wordsN k (val (dvX k xs n) + val (wordsN k (dvR xs n).toNat))
def dvD (k : Nat) (xs : List Int) (n : Int) : Int := (((val (dvX k xs n) + val (wordsN k (dvR xs n).toNat)) / 18446744073709551616 ^ k : Nat) : Int)
def fl0 : R := some [(.mine, .p (.bool false))]
theorem divs_ev (xs : List Int) (n : Int) : evFn divsE Try.f9 [.r .u64 8 xs, .p (.int .u64 n)] =
    let ys := [xs.getD 0 0, xs.getD 1 0]
    cond (n == 0)
      (cond (decide (dvQ 8 xs n = List.replicate 8 0)) (cond (dvR xs n == 0) (cond (decide (dvQ 2 ys n = List.replicate 2 0)) (some [(.mine, .p (.bool (dvR ys n == 0)))]) fl0) fl0) fl0)
      (cond (decide (dvY 8 xs n = xs)) (cond (dvC 8 xs n == 0) (cond (dvD 8 xs n == 0) (cond (decide (dvR xs n < n)) (cond (decide (dvY 2 ys n = ys)) (cond (dvC 2 ys n == 0) (cond (dvD 2 ys n == 0) (some [(.mine, .p (.bool (decide (dvR ys n < n))))]) fl0) fl0) fl0) fl0) fl0) fl0) fl0) := by kernel_rfl
theorem divs_all (k : Nat) (xs : List Int) (n : Nat) (hl : xs.length = k) (hx : inR .u64 xs) (hn : 0 < n) (hnw : n < 18446744073709551616) (hk : 0 < k) :
    dvY k xs n = xs ∧ dvC k xs n = 0 ∧ dvD k xs n = 0 ∧ dvR xs n < n := by
  have h1 := val_lt hx
  rw [hl] at h1
  have hq : val xs / n < 18446744073709551616 ^ k := Nat.lt_of_le_of_lt (Nat.div_le_self _ _) h1
  have hm : val xs / n * n ≤ val xs := Nat.div_mul_le_self _ _
  have hml : val xs % n < n := Nat.mod_lt _ hn
  have hr : val xs % n < 18446744073709551616 ^ k := by
    have : 18446744073709551616 ^ 1 ≤ 18446744073709551616 ^ k := Nat.pow_le_pow_right (by decide) hk
    rw [Nat.pow_one] at this
    omega
  have hall : val xs / n * n + val xs % n = val xs := Nat.div_add_mod' _ _
  have eR : dvR xs (n : Int) = ((val xs % n : Nat) : Int) := by
    unfold dvR
    rw [if_neg (by omega), Int.toNat_natCast]
  have eQ : val (dvQ k xs (n : Int)) = val xs / n := by
    unfold dvQ
    rw [val_wordsN, Int.toNat_natCast, Nat.mod_eq_of_lt hq]
  have eX : val (dvX k xs (n : Int)) = val xs / n * n := by
    unfold dvX
    rw [val_wordsN, Int.toNat_natCast, eQ, Nat.mod_eq_of_lt (by omega)]
  have eS : val (dvX k xs (n : Int)) + val (wordsN k (dvR xs (n : Int)).toNat) = val xs := by
    rw [eX, eR, Int.toNat_natCast, val_wordsN, Nat.mod_eq_of_lt hr, hall]
  refine ⟨?_, ?_, ?_, ?_⟩
  · unfold dvY
    rw [eS]
    exact (wordsN_eq hx hl rfl).symm
  · unfold dvC
    rw [eQ, Int.toNat_natCast, Nat.div_eq_of_lt (by omega)]
    rfl
  · unfold dvD
    rw [eS, Nat.div_eq_of_lt h1]
    rfl
  · rw [eR]
    exact Int.ofNat_lt.2 hml
theorem divs_true {w : World} {vs : List Value} (xs : List Int) (n : Int) (hds : all2 (DR w) [.r .u64 8 xs, .p (.int .u64 n)] vs) : evFn divsE Try.f9 [.r .u64 8 xs, .p (.int .u64 n)] = some [(.mine, .p (.bool true))] := by
  have hw := all_wf _ _ hds
  obtain ⟨hx, rx⟩ := wfR hw (xs := xs) (n := 8) (by simp)
  have hn := wfU hw (x := n) (by simp)
  have r2 : inR .u64 [xs.getD 0 0, xs.getD 1 0] := by rw [← take_2 hx]; exact inR_take rx 2
  rw [divs_ev]
  dsimp only
  obtain ⟨n, rfl⟩ := Int.eq_ofNat_of_zero_le hn.1
  by_cases h0 : n = 0
  · subst h0
    have e : ∀ k ys, dvQ k ys ((0 : Nat) : Int) = List.replicate k 0 := by
      intro k ys
      unfold dvQ
      rw [Int.toNat_natCast, Nat.div_zero]
      exact (wordsN_eq (inR_rep k) (by simp) (val_zeros k)).symm
    rw [e, e, decide_eq_true rfl, decide_eq_true rfl]
    rfl
  · obtain ⟨a1, a2, a3, a4⟩ := divs_all 8 xs n hx rx (by omega) (by omega) (by decide)
    obtain ⟨b1, b2, b3, b4⟩ := divs_all 2 [xs.getD 0 0, xs.getD 1 0] n rfl r2 (by omega) (by omega) (by decide)
    rw [show (((n : Nat) : Int) == 0) = false from beq_eq_false_iff_ne.2 (by omega), cond_false, decide_eq_true a1, a2, a3, decide_eq_true a4, decide_eq_true b1, b2, b3, decide_eq_true b4]
    rfl
theorem divs_call {w : World} {ds : List D} {vs : List Value} {res : List (Own × D)} (hds : all2 (DR w) ds vs) (he : evFn divsE Try.f9 ds = some res) : CallTo Try.prog 9 w vs res := call_mk T mixed Try.func9 (by kernel_rfl) (fns := [(22, awake01C), (47, lDiv2C), (46, lDiv8C), (50, lMul2C), (48, lMul8C), (51, of2C), (49, of8C), (24, lAdd2C), (28, lAdd8C), (25, twoC)]) (lps := []) (live := []) (out := []) (fuel := 0) (give := (fun _ => false)) ⟨awake01_fn, lDiv2_fn, lDiv8_fn, lMul2_fn, lMul8_fn, of2_fn, of8_fn, lAdd2_fn, lAdd8_fn, two_fn, trivial⟩ trivial hds he
end
end Go.Proofs.Ytmjbikbakkbajaa.Vm
