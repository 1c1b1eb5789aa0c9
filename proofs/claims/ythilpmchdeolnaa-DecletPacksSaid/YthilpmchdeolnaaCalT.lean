/-
  The seat's types, bound up for the evaluator. No statement is proved here.
-/
import Derived.Test.YthilpmchdeolnaaVmTy
import Derived.Test.YthilpmchdeolnaaCal1

namespace Go.Proofs.Ythilpmchdeolnaa.Vm
open Go Go.Vm
noncomputable section

def T : Tys Try.prog := ⟨ty, tyOK, eqOK⟩
theorem mixed : Try.prog.follows .mixedOrders = true := by kernel_rfl
end
end Go.Proofs.Ythilpmchdeolnaa.Vm
