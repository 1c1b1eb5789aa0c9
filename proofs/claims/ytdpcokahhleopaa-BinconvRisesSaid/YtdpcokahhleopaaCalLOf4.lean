/-
  What limbs.Of at width 4 comes to: a walk. No statement is proved here. (Printed by limbs.py of this session.)
-/
import Derived.Test.YtdpcokahhleopaaCalK
namespace Go.Proofs.Ytdpcokahhleopaa.Vm
open Go Go.Vm
noncomputable section
def of4C : FnC := fun ds κ => match ds with
  | [.p (.int .u64 x)] => κ [(.mine, .r .u64 4 (wordsN 4 x.toNat))]
  | _ => none
def of4E : Env := mkE ty [] [] [] [] 0 (fun _ => false)
theorem of4_ev (x : Int) : evFn of4E Try.f106 [.p (.int .u64 x)] = some [(.mine, .r .u64 4 [x, 0, 0, 0])] := by kernel_rfl
theorem of4_he : ∀ ds κ r, (∀ d ∈ ds, d.wf) → of4C ds κ = some r → ∃ res, κ res = some r ∧ evFn of4E Try.f106 ds = some res := fun ds κ r hw h => by
  unfold of4C at h
  split at h
  case h_2 => cases h
  rename_i x
  refine ⟨_, h, (of4_ev x).trans ?_⟩
  have hx := wfU hw (x := x) (by simp)
  have e : x :: List.replicate (4 - 1) 0 = wordsN 4 x.toNat := wordsN_eq (by
    intro y hy
    rcases List.mem_cons.1 hy with rfl | hy
    · exact u64_iff.2 hx
    · exact inR_rep _ y hy) (by simp) (by simp only [val, val_zeros]; omega)
  rw [← e]
  rfl
theorem of4_fn : FnOK Try.prog 106 of4C := fnOK_mk T mixed Try.func106 (by kernel_rfl) (fns := []) (lps := []) (live := []) (out := []) (fuel := 0) (give := (fun _ => false)) trivial trivial of4_he
end
end Go.Proofs.Ytdpcokahhleopaa.Vm
