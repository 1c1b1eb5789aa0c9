/-
  The seat's types, bound up for the evaluator. No statement is proved here.
-/
import Derived.Test.YtdpcokahhleopaaVmTy
import Derived.Test.YtdpcokahhleopaaCal1

namespace Go.Proofs.Ytdpcokahhleopaa.Vm
open Go Go.Vm
noncomputable section

def T : Tys Try.prog := ⟨ty, tyOK, eqOK⟩
theorem mixed : Try.prog.follows .mixedOrders = true := by kernel_rfl
end
end Go.Proofs.Ytdpcokahhleopaa.Vm
