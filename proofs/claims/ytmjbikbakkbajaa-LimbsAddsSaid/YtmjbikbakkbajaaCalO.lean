/-
  The law LimbsAdds is true. The statement itself is proved in CalZLimbsAdds.
-/
import Derived.Test.YtmjbikbakkbajaaCalN
namespace Go.Proofs.Ytmjbikbakkbajaa.Vm
open Go Go.Vm
noncomputable section
def addsE : Env := mkE ty [(22, awake01C), (23, lAdd1C), (24, lAdd2C), (26, lAdd4C), (28, lAdd8C), (25, twoC), (27, fourC), (29, addedC)] [] [] [] 0 (fun _ => false)
def sumC (k : Nat) (a b : List Int) : Int := (((val a + val b) / 18446744073709551616 ^ k : Nat) : Int)
def addsK (k : Nat) (a b a' b' : List Int) (κ : R) : R :=
  cond (decide (a.length ≤ 1000000 ∧ b.length ≤ 1000000)) (cond (addedB (wordsN k (val a' + val b')) (sumC k a' b') a b) κ (some [(.mine, .p (.bool false))])) none
theorem adds_ev (xs ys : List Int) : evFn addsE Try.f6 [.r .u64 8 xs, .r .u64 8 ys] =
    addsK 1 ((xs.drop 0).take 1) ((ys.drop 0).take 1) [xs.getD 0 0] [ys.getD 0 0]
      (addsK 2 ((xs.drop 0).take 2) ((ys.drop 0).take 2) [xs.getD 0 0, xs.getD 1 0] [ys.getD 0 0, ys.getD 1 0]
        (addsK 4 ((xs.drop 0).take 4) ((ys.drop 0).take 4) [xs.getD 0 0, xs.getD 1 0, xs.getD 2 0, xs.getD 3 0] [ys.getD 0 0, ys.getD 1 0, ys.getD 2 0, ys.getD 3 0]
          (cond (decide (xs.length ≤ 1000000 ∧ ys.length ≤ 1000000)) (some [(.mine, .p (.bool (addedB (wordsN 8 (val xs + val ys)) (sumC 8 xs ys) xs ys)))]) none))) := by kernel_rfl
theorem addsK_eq (k : Nat) (a b : List Int) (κ : R) (ha : a.length = k) (hb : b.length = k) (hk : k ≤ 8) : addsK k a b a b κ = κ := by
  unfold addsK addedB sumC
  rw [decide_eq_true (by omega), cond_true, val_wordsN, ha, Int.toNat_natCast, decide_eq_true rfl, decide_eq_true rfl]
  rfl
theorem adds_true {w : World} {vs : List Value} (xs ys : List Int) (hds : all2 (DR w) [.r .u64 8 xs, .r .u64 8 ys] vs) : evFn addsE Try.f6 [.r .u64 8 xs, .r .u64 8 ys] = some [(.mine, .p (.bool true))] := by
  have hw := all_wf _ _ hds
  have hx := (wfR hw (xs := xs) (n := 8) (by simp)).1
  have hy := (wfR hw (xs := ys) (n := 8) (by simp)).1
  rw [adds_ev, List.drop_zero, List.drop_zero, take_1 hx, take_1 hy, take_2 hx, take_2 hy, take_4 hx, take_4 hy, addsK_eq 1 _ _ _ rfl rfl (by decide), addsK_eq 2 _ _ _ rfl rfl (by decide), addsK_eq 4 _ _ _ rfl rfl (by decide)]
  unfold addedB sumC
  rw [decide_eq_true (by omega), cond_true, val_wordsN, hx, Int.toNat_natCast, decide_eq_true rfl, decide_eq_true rfl]
  rfl
theorem adds_call {w : World} {ds : List D} {vs : List Value} {res : List (Own × D)} (hds : all2 (DR w) ds vs) (he : evFn addsE Try.f6 ds = some res) : CallTo Try.prog 6 w vs res := call_mk T mixed Try.func6 (by kernel_rfl) (fns := [(22, awake01C), (23, lAdd1C), (24, lAdd2C), (26, lAdd4C), (28, lAdd8C), (25, twoC), (27, fourC), (29, addedC)]) (lps := []) (live := []) (out := []) (fuel := 0) (give := (fun _ => false)) ⟨awake01_fn, lAdd1_fn, lAdd2_fn, lAdd4_fn, lAdd8_fn, two_fn, four_fn, added_fn, trivial⟩ trivial hds he
end
end Go.Proofs.Ytmjbikbakkbajaa.Vm
