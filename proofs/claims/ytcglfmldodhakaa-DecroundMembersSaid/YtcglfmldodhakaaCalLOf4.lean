/-
  What limbs.Of at width 4 comes to: a walk. No statement is proved here. (Printed by limbs.py of this session.)
-/
import Derived.Test.YtcglfmldodhakaaCalK
namespace Go.Proofs.Ytcglfmldodhakaa.Vm
open Go Go.Vm
noncomputable section
def of4C : FnC := fun ds κ => match ds with
  | [.p (.int .u64 x)] => κ [(.mine, .r .u64 4 (wordsN 4 x.toNat))]
  | _ => none
end
end Go.Proofs.Ytcglfmldodhakaa.Vm
