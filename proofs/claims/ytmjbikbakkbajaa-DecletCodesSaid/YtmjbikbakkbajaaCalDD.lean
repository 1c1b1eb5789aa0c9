/-
  The law DecletCodes, evaluated. No statement is proved here.
-/
import Derived.Test.YtmjbikbakkbajaaCalDC
namespace Go.Proofs.Ytmjbikbakkbajaa.Vm
open Go Go.Vm
theorem codes_ev (n d : Int) : evFn codesE Try.f4 [.p (.int .i64 n), .p (.int .i64 d)] =
    cond (within n 999 (encI n) 0 == within n 999 (encI n) 0)
      (cond (within n 999 0 3 == within n 999 0 3)
        (cond (within d 1023 (decI d) 0 == within d 1023 (decI d) 0)
          (cond (within d 1023 0 3 == within d 1023 0 3)
            (some [(.mine, .p (.bool (canB d == canB d)))])
            (some [(.mine, .p (.bool (false)))]))
          (some [(.mine, .p (.bool (false)))]))
        (some [(.mine, .p (.bool (false)))]))
      (some [(.mine, .p (.bool (false)))]) := by kernel_rfl
theorem codes_true {w : World} {vs : List Value} (n d : Int) (_ : all2 (DR w) [D.p (.int .i64 n), D.p (.int .i64 d)] vs) : evFn codesE Try.f4 [.p (.int .i64 n), .p (.int .i64 d)] = some [(.mine, .p (.bool true))] := by
  rw [codes_ev, beq_self_eq_true, cond_true, beq_self_eq_true, cond_true, beq_self_eq_true, cond_true, beq_self_eq_true, cond_true, beq_self_eq_true]
end Go.Proofs.Ytmjbikbakkbajaa.Vm
