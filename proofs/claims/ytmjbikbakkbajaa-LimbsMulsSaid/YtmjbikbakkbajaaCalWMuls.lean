/-
  The law LimbsMuls is true. The statement itself is proved in CalZLimbsMuls.
-/
import Derived.Test.YtmjbikbakkbajaaCalV
import Derived.Test.YtmjbikbakkbajaaCalLMul1
import Derived.Test.YtmjbikbakkbajaaCalLMul2
import Derived.Test.YtmjbikbakkbajaaCalLMul4
import Derived.Test.YtmjbikbakkbajaaCalLMul8
namespace Go.Proofs.Ytmjbikbakkbajaa.Vm
open Go Go.Vm
noncomputable section
def mulsE : Env := mkE ty [(22, awake01C), (52, lMul1C), (50, lMul2C), (53, lMul4C), (48, lMul8C), (25, twoC), (27, fourC), (54, times1C)] [] [] [] 0 (fun _ => false)
def mulsK (k : Nat) (a a' : List Int) (n : Int) (κ : R) : R :=
  cond (decide (a.length ≤ 1000000)) (cond (timesB (wordsN k (val a' * n.toNat)) (((val a' * n.toNat / 18446744073709551616 ^ k : Nat) : Int)) a n) κ (some [(.mine, .p (.bool false))])) none
theorem muls_ev (xs : List Int) (n : Int) : evFn mulsE Try.f10 [.r .u64 8 xs, .p (.int .u64 n)] =
    mulsK 1 ((xs.drop 0).take 1) [xs.getD 0 0] n
      (mulsK 2 ((xs.drop 0).take 2) [xs.getD 0 0, xs.getD 1 0] n
        (mulsK 4 ((xs.drop 0).take 4) [xs.getD 0 0, xs.getD 1 0, xs.getD 2 0, xs.getD 3 0] n
          (cond (decide (xs.length ≤ 1000000)) (some [(.mine, .p (.bool (timesB (wordsN 8 (val xs * n.toNat)) (((val xs * n.toNat / 18446744073709551616 ^ 8 : Nat) : Int)) xs n)))]) none))) := by kernel_rfl
theorem mulsK_eq (k : Nat) (a : List Int) (n : Int) (κ : R) (ha : a.length = k) (hk : k ≤ 8) : mulsK k a a n κ = κ := by
  unfold mulsK timesB
  rw [decide_eq_true (by omega), cond_true, val_wordsN, ha, Int.toNat_natCast, decide_eq_true rfl, decide_eq_true rfl]
  rfl
theorem muls_true {w : World} {vs : List Value} (xs : List Int) (n : Int) (hds : all2 (DR w) [.r .u64 8 xs, .p (.int .u64 n)] vs) : evFn mulsE Try.f10 [.r .u64 8 xs, .p (.int .u64 n)] = some [(.mine, .p (.bool true))] := by
  have hw := all_wf _ _ hds
  have hx := (wfR hw (xs := xs) (n := 8) (by simp)).1
  rw [muls_ev, List.drop_zero, take_1 hx, take_2 hx, take_4 hx, mulsK_eq 1 _ _ _ rfl (by decide), mulsK_eq 2 _ _ _ rfl (by decide), mulsK_eq 4 _ _ _ rfl (by decide)]
  unfold timesB
  rw [decide_eq_true (by omega), cond_true, val_wordsN, hx, Int.toNat_natCast, decide_eq_true rfl, decide_eq_true rfl]
  rfl
theorem muls_call {w : World} {ds : List D} {vs : List Value} {res : List (Own × D)} (hds : all2 (DR w) ds vs) (he : evFn mulsE Try.f10 ds = some res) : CallTo Try.prog 10 w vs res := call_mk T mixed Try.func10 (by kernel_rfl) (fns := [(22, awake01C), (52, lMul1C), (50, lMul2C), (53, lMul4C), (48, lMul8C), (25, twoC), (27, fourC), (54, times1C)]) (lps := []) (live := []) (out := []) (fuel := 0) (give := (fun _ => false)) ⟨awake01_fn, lMul1_fn, lMul2_fn, lMul4_fn, lMul8_fn, two_fn, four_fn, times1_fn, trivial⟩ trivial hds he
end
end Go.Proofs.Ytmjbikbakkbajaa.Vm
