/-
  The law BinaryUnpacks, evaluated. No statement is proved here.
-/
import Derived.Test.YtmjbikbakkbajaaCalC2
namespace Go.Proofs.Ytmjbikbakkbajaa.Vm
open Go Go.Vm
noncomputable section
def unpacksE : Env := mkE ty [(64, awake05C), (65, bUnpackC), (66, rUnpackC)] [] [] [] 0 (fun _ => false)
theorem unpacks_ev (n : Int) (b : List Int) : evFn unpacksE Try.f13 [.p (.int .i64 n), .r .u64 4 b] =
    cond (decide (1 ≤ n ∧ n ≤ 6))
      (cond (decide (((bitlen (val b) : Nat) : Int) ≤ widthI n))
        (cond (decide (1 ≤ n ∧ n ≤ 6)) (cond (decide (((bitlen (val b) : Nat) : Int) ≤ widthI n)) (cond (eqD (uDat n (val b)) (uDat n (val b))) (rb true) (rb false)) (cond (eqD (uDat n (val b)) zeroDatum) (rb false) (rb false))) (cond (eqD (uDat n (val b)) zeroDatum) (rb false) (rb false)))
        (cond (decide (1 ≤ n ∧ n ≤ 6)) (cond (decide (((bitlen (val b) : Nat) : Int) ≤ widthI n)) (cond (eqD zeroDatum (uDat n (val b))) (rb false) (rb false)) (rb true)) (rb true)))
      (cond (decide (1 ≤ n ∧ n ≤ 6)) (cond (decide (((bitlen (val b) : Nat) : Int) ≤ widthI n)) (cond (eqD zeroDatum (uDat n (val b))) (rb false) (rb false)) (rb true)) (rb true)) := by kernel_rfl
theorem unpacks_true {w : World} {vs : List Value} (n : Int) (b : List Int) (_ : all2 (DR w) [.p (.int .i64 n), .r .u64 4 b] vs) : evFn unpacksE Try.f13 [.p (.int .i64 n), .r .u64 4 b] = some [(.mine, .p (.bool true))] := by
  rw [unpacks_ev]
  have e : eqD (uDat n (val b)) (uDat n (val b)) = true := eqD_refl ..
  rw [e]
  cases decide (1 ≤ n ∧ n ≤ 6)
  · rfl
  · cases decide (((bitlen (val b) : Nat) : Int) ≤ widthI n) <;> rfl
theorem unpacks_call {w : World} {ds : List D} {vs : List Value} {res : List (Own × D)} (hds : all2 (DR w) ds vs) (he : evFn unpacksE Try.f13 ds = some res) : CallTo Try.prog 13 w vs res := call_mk T mixed Try.func13 (by kernel_rfl) (fns := [(64, awake05C), (65, bUnpackC), (66, rUnpackC)]) (lps := []) (live := []) (out := []) (fuel := 0) (give := (fun _ => false)) ⟨awake05_fn, bUnpack_fn, rUnpack_fn, trivial⟩ trivial hds he
end
end Go.Proofs.Ytmjbikbakkbajaa.Vm
