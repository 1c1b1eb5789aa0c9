/-
  The types of this seat, as the evaluator knows them. Printed by a program of this session (tygen2.py). No statement is proved here.
-/
import Derived.Test.YtmjbikbakkbajaaVm2
import Derived.Test.YtmjbikbakkbajaaChecked
import Derived.KernelRfl
namespace Go.Proofs.Ytmjbikbakkbajaa.Vm
open Go Go.Vm

noncomputable def ty : TypeId → Option Ty
  | 3 => some (.i .i64)
  | 4 => some (.b)
  | 5 => some (.i .u8)
  | 9 => some (.str)
  | 23 => some (.i .i64)
  | 26 => some (.i .u64)
  | 30 => some (.i .u64)
  | 31 => some (.arr 8 .u64)
  | 32 => some (.arr 1 .u64)
  | 35 => some (.arr 2 .u64)
  | 39 => some (.arr 4 .u64)
  | 46 => some (.sl 30)
  | 73 => some (.arr 4 .u64)
  | 82 => some (.arr 3 .i64)
  | _ => none

theorem td3 : TdOK Try.prog 3 (.i .i64) := ⟨by kernel_rfl, by kernel_rfl, by kernel_rfl, 8, by kernel_rfl, by decide⟩
theorem eq3 : EqOK Try.prog 3 (.i .i64) := trivial
theorem td4 : TdOK Try.prog 4 (.b) := ⟨by kernel_rfl, by kernel_rfl, show Try.prog.underlying 4 = some .bool from by kernel_rfl⟩
theorem eq4 : EqOK Try.prog 4 (.b) := trivial
theorem td5 : TdOK Try.prog 5 (.i .u8) := ⟨by kernel_rfl, by kernel_rfl, by kernel_rfl, 1, by kernel_rfl, by decide⟩
theorem eq5 : EqOK Try.prog 5 (.i .u8) := trivial
theorem td9 : TdOK Try.prog 9 (.str) := ⟨by kernel_rfl, by kernel_rfl, show Try.prog.underlying 9 = some .string from by kernel_rfl⟩
theorem eq9 : EqOK Try.prog 9 (.str) := trivial
theorem td23 : TdOK Try.prog 23 (.i .i64) := ⟨by kernel_rfl, by kernel_rfl, by kernel_rfl, 8, by kernel_rfl, by decide⟩
theorem eq23 : EqOK Try.prog 23 (.i .i64) := trivial
theorem td26 : TdOK Try.prog 26 (.i .u64) := ⟨by kernel_rfl, by kernel_rfl, by kernel_rfl, 8, by kernel_rfl, by decide⟩
theorem eq26 : EqOK Try.prog 26 (.i .u64) := trivial
theorem td30 : TdOK Try.prog 30 (.i .u64) := ⟨by kernel_rfl, by kernel_rfl, by kernel_rfl, 8, by kernel_rfl, by decide⟩
theorem eq30 : EqOK Try.prog 30 (.i .u64) := trivial
theorem td31 : TdOK Try.prog 31 (.arr 8 .u64) := ⟨by kernel_rfl, by kernel_rfl, by decide, 30, by kernel_rfl, by kernel_rfl, by kernel_rfl⟩
theorem eq31 : EqOK Try.prog 31 (.arr 8 .u64) := eqOK_arr (e := 30) (by kernel_rfl) (by kernel_rfl) (by kernel_rfl) (by kernel_rfl)
theorem td32 : TdOK Try.prog 32 (.arr 1 .u64) := ⟨by kernel_rfl, by kernel_rfl, by decide, 30, by kernel_rfl, by kernel_rfl, by kernel_rfl⟩
theorem eq32 : EqOK Try.prog 32 (.arr 1 .u64) := eqOK_arr (e := 30) (by kernel_rfl) (by kernel_rfl) (by kernel_rfl) (by kernel_rfl)
theorem td35 : TdOK Try.prog 35 (.arr 2 .u64) := ⟨by kernel_rfl, by kernel_rfl, by decide, 30, by kernel_rfl, by kernel_rfl, by kernel_rfl⟩
theorem eq35 : EqOK Try.prog 35 (.arr 2 .u64) := eqOK_arr (e := 30) (by kernel_rfl) (by kernel_rfl) (by kernel_rfl) (by kernel_rfl)
theorem td39 : TdOK Try.prog 39 (.arr 4 .u64) := ⟨by kernel_rfl, by kernel_rfl, by decide, 30, by kernel_rfl, by kernel_rfl, by kernel_rfl⟩
theorem eq39 : EqOK Try.prog 39 (.arr 4 .u64) := eqOK_arr (e := 30) (by kernel_rfl) (by kernel_rfl) (by kernel_rfl) (by kernel_rfl)
theorem td46 : TdOK Try.prog 46 (.sl 30) := ⟨by kernel_rfl, by kernel_rfl, show Try.prog.underlying 46 = some (.slice 30) from by kernel_rfl⟩
theorem eq46 : EqOK Try.prog 46 (.sl 30) := trivial
theorem td73 : TdOK Try.prog 73 (.arr 4 .u64) := ⟨by kernel_rfl, by kernel_rfl, by decide, 30, by kernel_rfl, by kernel_rfl, by kernel_rfl⟩
theorem eq73 : EqOK Try.prog 73 (.arr 4 .u64) := eqOK_arr (e := 30) (by kernel_rfl) (by kernel_rfl) (by kernel_rfl) (by kernel_rfl)
theorem td82 : TdOK Try.prog 82 (.arr 3 .i64) := ⟨by kernel_rfl, by kernel_rfl, by decide, 3, by kernel_rfl, by kernel_rfl, by kernel_rfl⟩
theorem eq82 : EqOK Try.prog 82 (.arr 3 .i64) := eqOK_arr (e := 3) (by kernel_rfl) (by kernel_rfl) (by kernel_rfl) (by kernel_rfl)

theorem tyOK : ∀ t td, ty t = some td → TdOK Try.prog t td := by
  intro t td h
  unfold ty at h
  split at h
  · cases h; exact td3
  · cases h; exact td4
  · cases h; exact td5
  · cases h; exact td9
  · cases h; exact td23
  · cases h; exact td26
  · cases h; exact td30
  · cases h; exact td31
  · cases h; exact td32
  · cases h; exact td35
  · cases h; exact td39
  · cases h; exact td46
  · cases h; exact td73
  · cases h; exact td82
  · cases h
theorem eqOK : ∀ t td, ty t = some td → EqOK Try.prog t td := by
  intro t td h
  unfold ty at h
  split at h
  · cases h; exact eq3
  · cases h; exact eq4
  · cases h; exact eq5
  · cases h; exact eq9
  · cases h; exact eq23
  · cases h; exact eq26
  · cases h; exact eq30
  · cases h; exact eq31
  · cases h; exact eq32
  · cases h; exact eq35
  · cases h; exact eq39
  · cases h; exact eq46
  · cases h; exact eq73
  · cases h; exact eq82
  · cases h
end Go.Proofs.Ytmjbikbakkbajaa.Vm
