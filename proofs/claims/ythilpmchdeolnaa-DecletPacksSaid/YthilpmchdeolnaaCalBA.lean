/-
  Interchange formats: what the laws of package law05 share. No statement is proved here.
-/
import Derived.Test.YthilpmchdeolnaaCalB4
namespace Go.Proofs.Ythilpmchdeolnaa.Vm
open Go Go.Vm
noncomputable section
def awake05E : Env := mkE ty [(9, bUnpackC)] [] [] [] 0 (fun _ => false)
def awake05C : FnC := fun ds κ => match ds with
  | [] => κ [(.mine, .p (.bool true))]
  | _ => none
theorem awake05_ev : evFn awake05E Try.f8 [] = some [(.mine, .p (.bool true))] := by kernel_rfl
theorem awake05_he : ∀ ds κ r, (∀ d ∈ ds, d.wf) → awake05C ds κ = some r → ∃ res, κ res = some r ∧ evFn awake05E Try.f8 ds = some res := fun ds κ r hw h => by
  unfold awake05C at h
  split at h
  case h_2 => cases h
  exact ⟨_, h, awake05_ev⟩
theorem awake05_fn : FnOK Try.prog 8 awake05C := fnOK_mk T mixed Try.func8 (by kernel_rfl) (fns := [(9, bUnpackC)]) (lps := []) (live := []) (out := []) (fuel := 0) (give := (fun _ => false)) ⟨bUnpack_fn, trivial⟩ trivial awake05_he

def eqD (xs ys : List Value) : Bool := (eqCells xs ys).getD false
theorem eqD_refl (c x : Int) (s q : Bool) (f : List Int) : eqD (datumCells c s q x f) (datumCells c s q x f) = true := by
  simp [eqD, eqCells, datumCells]
theorem lo4 {a : Nat} (h : a < 2 ^ 256) : val (wordsN 4 a) = a := by rw [val4, Nat.mod_eq_of_lt h]
theorem words_val4 {b : List Int} (hb : inR .u64 b) (hl : b.length = 4) : wordsN 4 (val b) = b := by rw [← hl, wordsN_val hb]
theorem uF_lt {m e B : Nat} (hm : m + 1 ≤ 256) : uF m e B < 2 ^ 256 := by
  have p1 : uT m B < 2 ^ m := Nat.mod_lt _ (Nat.two_pow_pos _)
  refine lt256 (k := m + 1) ?_ hm
  rw [Nat.pow_succ]
  unfold uF
  cases uN m e B
  · rw [cond_false]
    have := Nat.mod_le (uT m B) (2 ^ (m - 1))
    omega
  · rw [cond_true]
    cases decide (0 < uX m e B)
    · rw [cond_false]; omega
    · rw [cond_true]; omega
end
end Go.Proofs.Ythilpmchdeolnaa.Vm
