/-
  The seat's types, bound up for the evaluator. No statement is proved here.
-/
import Derived.Test.YtmjbikbakkbajaaVmTy
import Derived.Test.YtmjbikbakkbajaaCal1

namespace Go.Proofs.Ytmjbikbakkbajaa.Vm
open Go Go.Vm
noncomputable section

def T : Tys Try.prog := ⟨ty, tyOK, eqOK⟩
theorem mixed : Try.prog.follows .mixedOrders = true := by kernel_rfl
end
end Go.Proofs.Ytmjbikbakkbajaa.Vm
