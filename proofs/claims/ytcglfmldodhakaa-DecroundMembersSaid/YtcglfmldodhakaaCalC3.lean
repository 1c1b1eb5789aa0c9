/-
  ref05.Is and ref05.Pack. No statement is proved here.
-/
import Derived.Test.YtcglfmldodhakaaCalC1
import Derived.Test.YtcglfmldodhakaaCalX
namespace Go.Proofs.Ytcglfmldodhakaa.Vm
open Go Go.Vm
noncomputable section
set_option linter.unusedVariables false
theorem val_one (a : Int) : val [a] = a.toNat := rfl
end
end Go.Proofs.Ytcglfmldodhakaa.Vm
