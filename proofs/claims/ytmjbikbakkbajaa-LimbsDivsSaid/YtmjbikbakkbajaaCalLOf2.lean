/-
  What limbs.Of at width 2 comes to: a walk. No statement is proved here. (Printed by limbs.py of this session.)
-/
import Derived.Test.YtmjbikbakkbajaaCalK
namespace Go.Proofs.Ytmjbikbakkbajaa.Vm
open Go Go.Vm
noncomputable section
def of2C : FnC := fun ds κ => match ds with
  | [.p (.int .u64 x)] => κ [(.mine, .r .u64 2 (wordsN 2 x.toNat))]
  | _ => none
def of2E : Env := mkE ty [] [] [] [] 0 (fun _ => false)
theorem of2_ev (x : Int) : evFn of2E Try.f51 [.p (.int .u64 x)] = some [(.mine, .r .u64 2 [x, 0])] := by kernel_rfl
theorem of2_he : ∀ ds κ r, (∀ d ∈ ds, d.wf) → of2C ds κ = some r → ∃ res, κ res = some r ∧ evFn of2E Try.f51 ds = some res := fun ds κ r hw h => by
  unfold of2C at h
  split at h
  case h_2 => cases h
  rename_i x
  refine ⟨_, h, (of2_ev x).trans ?_⟩
  have hx := wfU hw (x := x) (by simp)
  have e : x :: List.replicate (2 - 1) 0 = wordsN 2 x.toNat := wordsN_eq (by
    intro y hy
    rcases List.mem_cons.1 hy with rfl | hy
    · exact u64_iff.2 hx
    · exact inR_rep _ y hy) (by simp) (by simp only [val, val_zeros]; omega)
  rw [← e]
  rfl
theorem of2_fn : FnOK Try.prog 51 of2C := fnOK_mk T mixed Try.func51 (by kernel_rfl) (fns := []) (lps := []) (live := []) (out := []) (fuel := 0) (give := (fun _ => false)) trivial trivial of2_he
end
end Go.Proofs.Ytmjbikbakkbajaa.Vm
