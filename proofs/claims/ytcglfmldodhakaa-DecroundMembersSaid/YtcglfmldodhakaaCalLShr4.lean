/-
  What limbs.Shr at width 4 comes to: a walk. No statement is proved here. (Printed by limbs.py of this session.)
-/
import Derived.Test.YtcglfmldodhakaaCalK
namespace Go.Proofs.Ytcglfmldodhakaa.Vm
open Go Go.Vm
noncomputable section
def lShr4C : FnC := fun ds κ => match ds with
  | [.r .u64 4 xs, .p (.int .i64 n)] => κ [(.mine, .r .u64 4 (wordsN 4 (val xs / 2 ^ n.toNat)))]
  | _ => none
def lShr4L : LpC := lpC 60 [2, 4, 5, 6, 7, 8] fun vs m κ => match vs, m with
  | [.o (.a 0 0), .o (.a 1 0), .o (.a 2 0), .o (.p (.int .i64 w)), .o (.p (.int .u64 r)), .o (.p (.int .i64 i))], [(.mine, .w .u64 4 xs), (.mine, .w .u64 4 zs), (.mine, .w .u64 4 out)] =>
    cond (decide (0 ≤ w ∧ w < 1152921504606846976 ∧ r < 64 ∧ i = 0 ∧ val out = 0)) (κ (.exit 0) (lay 60 [4, 5] [.o (.a 0 0), .o (.a 1 0)]) [(.mine, .w .u64 4 zs), (.mine, .w .u64 4 (wordsN 4 (val xs / 2 ^ (64 * w.toNat + r.toNat))))]) none
  | _, _ => none
end
end Go.Proofs.Ytcglfmldodhakaa.Vm
