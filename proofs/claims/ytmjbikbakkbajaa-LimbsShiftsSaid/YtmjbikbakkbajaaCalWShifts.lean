/-
  The law LimbsShifts is true. The statement itself is proved in CalZLimbsShifts.
-/
import Derived.Test.YtmjbikbakkbajaaCalV
import Derived.Test.YtmjbikbakkbajaaCalLShl1
import Derived.Test.YtmjbikbakkbajaaCalLShl2
import Derived.Test.YtmjbikbakkbajaaCalLShl4
import Derived.Test.YtmjbikbakkbajaaCalLShl8
import Derived.Test.YtmjbikbakkbajaaCalLShr1
import Derived.Test.YtmjbikbakkbajaaCalLShr2
import Derived.Test.YtmjbikbakkbajaaCalLShr4
import Derived.Test.YtmjbikbakkbajaaCalLShr8
namespace Go.Proofs.Ytmjbikbakkbajaa.Vm
open Go Go.Vm
noncomputable section
def shiftsE : Env := mkE ty [(22, awake01C), (55, lShl1C), (56, lShl2C), (57, lShl4C), (58, lShl8C), (59, lShr1C), (60, lShr2C), (61, lShr4C), (62, lShr8C), (25, twoC), (27, fourC), (63, shiftedC)] [] [] [] 0 (fun _ => false)
def shiftsK (k : Nat) (a a' : List Int) (n : Int) (κ : R) : R :=
  cond (decide (a.length ≤ 1000000)) (cond (shiftedB (wordsN k (val a' * 2 ^ n.toNat)) (wordsN k (val a' / 2 ^ n.toNat)) a n) κ (some [(.mine, .p (.bool false))])) none
theorem shifts_ev (xs : List Int) (n : Int) : evFn shiftsE Try.f11 [.r .u64 8 xs, .p (.int .i64 n)] =
    shiftsK 1 ((xs.drop 0).take 1) [xs.getD 0 0] n
      (shiftsK 2 ((xs.drop 0).take 2) [xs.getD 0 0, xs.getD 1 0] n
        (shiftsK 4 ((xs.drop 0).take 4) [xs.getD 0 0, xs.getD 1 0, xs.getD 2 0, xs.getD 3 0] n
          (cond (decide (xs.length ≤ 1000000)) (some [(.mine, .p (.bool (shiftedB (wordsN 8 (val xs * 2 ^ n.toNat)) (wordsN 8 (val xs / 2 ^ n.toNat)) xs n)))]) none))) := by kernel_rfl
theorem shiftedB_eq (k : Nat) (a : List Int) (n : Int) (ha : a.length = k) (ra : inR .u64 a) (hk : k ≤ 8) : shiftedB (wordsN k (val a * 2 ^ n.toNat)) (wordsN k (val a / 2 ^ n.toNat)) a n = true := by
  have h1 := val_lt ra
  rw [ha] at h1
  have e : (clip n).toNat = if 600 < n.toNat then 600 else n.toNat := by
    unfold clip
    split <;> split <;> split <;> omega
  have hd : val a / 2 ^ n.toNat < 18446744073709551616 ^ k := Nat.lt_of_le_of_lt (Nat.div_le_self _ _) h1
  unfold shiftedB
  rw [val_wordsN, val_wordsN, ha, e, Nat.mod_eq_of_lt hd]
  by_cases h : 600 < n.toNat
  · rw [if_pos h]
    have hz : ∀ m, 600 ≤ m → val a * 2 ^ m % 18446744073709551616 ^ k = 0 ∧ val a / 2 ^ m = 0 := by
      intro m hm
      constructor
      · rw [pow64, show m = 64 * k + (m - 64 * k) from by omega, Nat.pow_add, Nat.mul_left_comm, Nat.mul_mod_right]
      · refine Nat.div_eq_of_lt (Nat.lt_of_lt_of_le h1 ?_)
        rw [pow64]
        exact Nat.pow_le_pow_right (by decide) (by omega)
    rw [(hz n.toNat (by omega)).1, (hz n.toNat (by omega)).2, (hz 600 (by omega)).1, (hz 600 (by omega)).2]
    rfl
  · rw [if_neg h, decide_eq_true rfl, decide_eq_true rfl]
    rfl
theorem shiftsK_eq (k : Nat) (a : List Int) (n : Int) (κ : R) (ha : a.length = k) (ra : inR .u64 a) (hk : k ≤ 8) : shiftsK k a a n κ = κ := by
  unfold shiftsK
  rw [decide_eq_true (by omega), cond_true, shiftedB_eq k a n ha ra hk]
  rfl
theorem shifts_true {w : World} {vs : List Value} (xs : List Int) (n : Int) (hds : all2 (DR w) [.r .u64 8 xs, .p (.int .i64 n)] vs) : evFn shiftsE Try.f11 [.r .u64 8 xs, .p (.int .i64 n)] = some [(.mine, .p (.bool true))] := by
  have hw := all_wf _ _ hds
  obtain ⟨hx, rx⟩ := wfR hw (xs := xs) (n := 8) (by simp)
  rw [shifts_ev, List.drop_zero, ← take_1 hx, ← take_2 hx, ← take_4 hx, shiftsK_eq 1 _ _ _ (by simp; omega) (inR_take rx _) (by decide), shiftsK_eq 2 _ _ _ (by simp; omega) (inR_take rx _) (by decide),
    shiftsK_eq 4 _ _ _ (by simp; omega) (inR_take rx _) (by decide), shiftedB_eq 8 xs n hx rx (by decide), decide_eq_true (by omega), cond_true]
theorem shifts_call {w : World} {ds : List D} {vs : List Value} {res : List (Own × D)} (hds : all2 (DR w) ds vs) (he : evFn shiftsE Try.f11 ds = some res) : CallTo Try.prog 11 w vs res := call_mk T mixed Try.func11 (by kernel_rfl) (fns := [(22, awake01C), (55, lShl1C), (56, lShl2C), (57, lShl4C), (58, lShl8C), (59, lShr1C), (60, lShr2C), (61, lShr4C), (62, lShr8C), (25, twoC), (27, fourC), (63, shiftedC)]) (lps := []) (live := []) (out := []) (fuel := 0) (give := (fun _ => false)) ⟨awake01_fn, lShl1_fn, lShl2_fn, lShl4_fn, lShl8_fn, lShr1_fn, lShr2_fn, lShr4_fn, lShr8_fn, two_fn, four_fn, shifted_fn, trivial⟩ trivial hds he
end
end Go.Proofs.Ytmjbikbakkbajaa.Vm
