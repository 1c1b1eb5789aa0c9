/-
  The law LimbsSubs is true. The statement itself is proved in CalZLimbsSubs.
-/
import Derived.Test.YtmjbikbakkbajaaCalV
import Derived.Test.YtmjbikbakkbajaaCalLSub1
import Derived.Test.YtmjbikbakkbajaaCalLSub2
import Derived.Test.YtmjbikbakkbajaaCalLSub4
import Derived.Test.YtmjbikbakkbajaaCalLSub8
import Derived.Test.YtmjbikbakkbajaaCalLCmp1
import Derived.Test.YtmjbikbakkbajaaCalLCmp2
import Derived.Test.YtmjbikbakkbajaaCalLCmp4
import Derived.Test.YtmjbikbakkbajaaCalLCmp8
namespace Go.Proofs.Ytmjbikbakkbajaa.Vm
open Go Go.Vm
noncomputable section
def subsE : Env := mkE ty [(22, awake01C), (36, lSub1C), (37, lSub2C), (38, lSub4C), (39, lSub8C), (40, lCmp1C), (42, lCmp2C), (43, lCmp4C), (44, lCmp8C), (41, cmpC), (25, twoC), (27, fourC), (45, takenC)] [] [] [] 0 (fun _ => false)
def fls : R := some [(.mine, .p (.bool false))]
def subsC (a b a' b' : List Int) (κ : R) : R := cond (cmpI (val a') (val b') == cmpI (val a) (val b)) κ fls
def subV (k : Nat) (a b : List Int) : List Int := wordsN k (val a + (18446744073709551616 ^ k - val b))
def subB (a b : List Int) : Int := ((if val a < val b then 1 else 0 : Nat) : Int)
def subsK (k : Nat) (a b a' b' : List Int) (κ : R) : R := cond (decide (a.length ≤ 1000000 ∧ b.length ≤ a.length)) (cond (takenB (subV k a' b') (subB a' b') a b) κ fls) none
theorem subs_ev (xs ys : List Int) : evFn subsE Try.f8 [.r .u64 8 xs, .r .u64 8 ys] =
    subsC ((xs.drop 0).take 1) ((ys.drop 0).take 1) [xs.getD 0 0] [ys.getD 0 0]
    (subsC ((xs.drop 0).take 2) ((ys.drop 0).take 2) [xs.getD 0 0, xs.getD 1 0] [ys.getD 0 0, ys.getD 1 0]
    (subsC ((xs.drop 0).take 4) ((ys.drop 0).take 4) [xs.getD 0 0, xs.getD 1 0, xs.getD 2 0, xs.getD 3 0] [ys.getD 0 0, ys.getD 1 0, ys.getD 2 0, ys.getD 3 0]
    (subsC xs ys xs ys
    (subsK 1 ((xs.drop 0).take 1) ((ys.drop 0).take 1) [xs.getD 0 0] [ys.getD 0 0]
    (subsK 2 ((xs.drop 0).take 2) ((ys.drop 0).take 2) [xs.getD 0 0, xs.getD 1 0] [ys.getD 0 0, ys.getD 1 0]
    (subsK 4 ((xs.drop 0).take 4) ((ys.drop 0).take 4) [xs.getD 0 0, xs.getD 1 0, xs.getD 2 0, xs.getD 3 0] [ys.getD 0 0, ys.getD 1 0, ys.getD 2 0, ys.getD 3 0]
    (cond (decide (xs.length ≤ 1000000 ∧ ys.length ≤ xs.length)) (some [(.mine, .p (.bool (takenB (subV 8 xs ys) (subB xs ys) xs ys)))]) none))))))) := by kernel_rfl
theorem subsC_eq (a b : List Int) (κ : R) : subsC a b a b κ = κ := by
  unfold subsC
  rw [beq_self_eq_true]
  rfl
theorem takenB_eq (k : Nat) (a b : List Int) (ha : a.length = k) (hb : b.length = k) (ra : inR .u64 a) (rb : inR .u64 b) : takenB (subV k a b) (subB a b) a b = true := by
  have h1 := val_lt ra
  have h2 := val_lt rb
  rw [ha] at h1
  rw [hb] at h2
  unfold takenB subV subB
  rw [val_wordsN, ha]
  by_cases hlt : val a < val b
  · rw [if_pos hlt, if_pos hlt, decide_eq_true hlt, Nat.mod_eq_of_lt (by omega), decide_eq_true (by omega)]
    rfl
  · rw [if_neg hlt, if_neg hlt, decide_eq_false hlt]
    have e : val a + (18446744073709551616 ^ k - val b) = val a - val b + 18446744073709551616 ^ k := by omega
    rw [e, Nat.add_mod_right, Nat.mod_eq_of_lt (by omega), decide_eq_true rfl]
    rfl
theorem subsK_eq (k : Nat) (a b : List Int) (κ : R) (ha : a.length = k) (hb : b.length = k) (hk : k ≤ 8) (ra : inR .u64 a) (rb : inR .u64 b) : subsK k a b a b κ = κ := by
  unfold subsK
  rw [decide_eq_true (by omega), cond_true, takenB_eq k a b ha hb ra rb]
  rfl
theorem subs_true {w : World} {vs : List Value} (xs ys : List Int) (hds : all2 (DR w) [.r .u64 8 xs, .r .u64 8 ys] vs) : evFn subsE Try.f8 [.r .u64 8 xs, .r .u64 8 ys] = some [(.mine, .p (.bool true))] := by
  have hw := all_wf _ _ hds
  obtain ⟨hx, rx⟩ := wfR hw (xs := xs) (n := 8) (by simp)
  obtain ⟨hy, ry⟩ := wfR hw (xs := ys) (n := 8) (by simp)
  rw [subs_ev, List.drop_zero, List.drop_zero, ← take_1 hx, ← take_1 hy, ← take_2 hx, ← take_2 hy, ← take_4 hx, ← take_4 hy, subsC_eq, subsC_eq, subsC_eq, subsC_eq,
    subsK_eq 1 _ _ _ (by simp; omega) (by simp; omega) (by decide) (inR_take rx _) (inR_take ry _), subsK_eq 2 _ _ _ (by simp; omega) (by simp; omega) (by decide) (inR_take rx _) (inR_take ry _),
    subsK_eq 4 _ _ _ (by simp; omega) (by simp; omega) (by decide) (inR_take rx _) (inR_take ry _), takenB_eq 8 xs ys hx hy rx ry, decide_eq_true (by omega), cond_true]
theorem subs_call {w : World} {ds : List D} {vs : List Value} {res : List (Own × D)} (hds : all2 (DR w) ds vs) (he : evFn subsE Try.f8 ds = some res) : CallTo Try.prog 8 w vs res := call_mk T mixed Try.func8 (by kernel_rfl) (fns := [(22, awake01C), (36, lSub1C), (37, lSub2C), (38, lSub4C), (39, lSub8C), (40, lCmp1C), (42, lCmp2C), (43, lCmp4C), (44, lCmp8C), (41, cmpC), (25, twoC), (27, fourC), (45, takenC)]) (lps := []) (live := []) (out := []) (fuel := 0) (give := (fun _ => false)) ⟨awake01_fn, lSub1_fn, lSub2_fn, lSub4_fn, lSub8_fn, lCmp1_fn, lCmp2_fn, lCmp4_fn, lCmp8_fn, cmp_fn, two_fn, four_fn, taken_fn, trivial⟩ trivial hds he
end
end Go.Proofs.Ytmjbikbakkbajaa.Vm
