/-
  What limbs.Bit at width 4 comes to: a walk. No statement is proved here. (Printed by limbs.py of this session.)
-/
import Derived.Test.YtcglfmldodhakaaCalK
namespace Go.Proofs.Ytcglfmldodhakaa.Vm
open Go Go.Vm
noncomputable section
def lBit4C : FnC := fun ds κ => match ds with
  | [.r .u64 4 xs, .p (.int .i64 n)] => κ [(.mine, .p (.int .u64 (if n < 0 then 0 else ((val xs / 2 ^ n.toNat % 2 : Nat) : Int))))]
  | _ => none
end
end Go.Proofs.Ytcglfmldodhakaa.Vm
