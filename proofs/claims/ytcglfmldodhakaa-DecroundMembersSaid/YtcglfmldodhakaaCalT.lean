/-
  The seat's types, bound up for the evaluator. No statement is proved here.
-/
import Derived.Test.YtcglfmldodhakaaVmTy
import Derived.Test.YtcglfmldodhakaaCal1

namespace Go.Proofs.Ytcglfmldodhakaa.Vm
open Go Go.Vm
noncomputable section

def T : Tys Try.prog := ⟨ty, tyOK, eqOK⟩
theorem mixed : Try.prog.follows .mixedOrders = true := by kernel_rfl
end
end Go.Proofs.Ytcglfmldodhakaa.Vm
