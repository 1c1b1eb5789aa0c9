/-
  What limbs.Sub at width 4 comes to: a walk. No statement is proved here. (Printed by limbs.py of this session.)
-/
import Derived.Test.YtcglfmldodhakaaCalK
namespace Go.Proofs.Ytcglfmldodhakaa.Vm
open Go Go.Vm
noncomputable section
def lSub4C : FnC := fun ds κ => match ds with
  | [.r .u64 4 xs, .r .u64 4 ys] => κ [(.mine, .r .u64 4 (wordsN 4 (val xs + (18446744073709551616 ^ 4 - val ys)))), (.mine, .p (.int .u64 ((if val xs < val ys then 1 else 0 : Nat) : Int)))]
  | _ => none
def lSub4L : LpC := lpC 29 [2, 3, 4, 6, 9, 10] fun vs m κ => match vs, m with
  | [.o (.a 0 0), .o (.a 1 0), .o (.a 2 0), .o (.p (.int .u64 c)), .o (.p (.int .i64 n)), .o (.p (.int .i64 i))], [(.mine, .w .u64 4 xs), (.mine, .w .u64 4 ys), (.mine, .w .u64 4 zs)] =>
    cond (decide (c = 0 ∧ n = 4 ∧ i = 0)) (κ (.exit 0) (lay 29 [2, 4, 6] [.o (.a 0 0), .o (.a 1 0), .o (.p (.int .u64 ((if val xs < val ys then 1 else 0 : Nat) : Int)))]) [(.mine, .w .u64 4 (wordsN 4 (val xs + (18446744073709551616 ^ 4 - val ys)))), (.mine, .w .u64 4 zs)]) none
  | _, _ => none
def lSub4St (c n i : Int) : List V := lay 29 [2, 3, 4, 6, 9, 10] [.o (.a 0 0), .o (.a 1 0), .o (.a 2 0), .o (.p (.int .u64 c)), .o (.p (.int .i64 n)), .o (.p (.int .i64 i))]
end
end Go.Proofs.Ytcglfmldodhakaa.Vm
