/-
  The types of this seat, as the evaluator knows them. Printed by a program of this session (tygen3.py). No statement is proved here.
-/
import Derived.Test.YthilpmchdeolnaaVm3
import Derived.Test.YthilpmchdeolnaaChecked
import Derived.KernelRfl
namespace Go.Proofs.Ythilpmchdeolnaa.Vm
open Go Go.Vm

noncomputable def ty : TypeId → Option Ty
  | 2 => some (.i .i64)
  | 3 => some (.i .i64)
  | 4 => some (.b)
  | 5 => some (.i .u8)
  | 6 => some (.i .u8)
  | 9 => some (.str)
  | 10 => some (.str)
  | 11 => some (.str)
  | 12 => some (.i .u64)
  | 21 => some (.i .i32)
  | 22 => some (.i .u64)
  | 23 => some (.arr 4 .u64)
  | 24 => some (.arr 4 .u64)
  | 26 => some (.st [.int .i64 0, .bool false, .bool false, .int .i64 0, .int .u64 0, .int .u64 0, .int .u64 0, .int .u64 0] [(0, 3), (1, 4), (2, 4), (3, 3), (4, 24)])
  | 28 => some (.i .i64)
  | 34 => some (.i .u64)
  | 40 => some (.sl 22)
  | 45 => some (.st [.int .i64 0, .string ByteArray.empty, .int .i64 0, .int .i64 0, .int .i64 0, .int .i64 0, .int .i64 0, .int .i64 0, .int .i64 0, .bool false] [(0, 3), (1, 9), (2, 3), (3, 3), (4, 3), (5, 3), (6, 3), (7, 3), (8, 3), (9, 4)])
  | 55 => some (.st [.int .i64 0, .string ByteArray.empty, .int .i64 0, .int .i64 0, .int .i64 0, .int .i64 0, .int .i64 0, .int .i64 0, .int .i64 0, .bool false] [(0, 3), (1, 9), (2, 3), (3, 3), (4, 3), (5, 3), (6, 3), (7, 3), (8, 3), (9, 4)])
  | 87 => some (.arr 3 .i64)
  | 89 => some (.sl 45)
  | 104 => some (.i .u32)
  | 105 => some (.i .u8)
  | 106 => some (.i .u8)
  | 109 => some (.i .i32)
  | 110 => some (.i .i32)
  | _ => none

theorem td2 : TdOK Try.prog 2 (.i .i64) := ⟨by kernel_rfl, by kernel_rfl, by kernel_rfl, 8, by kernel_rfl, by decide⟩
theorem eq2 : EqOK Try.prog 2 (.i .i64) := trivial
theorem td3 : TdOK Try.prog 3 (.i .i64) := ⟨by kernel_rfl, by kernel_rfl, by kernel_rfl, 8, by kernel_rfl, by decide⟩
theorem eq3 : EqOK Try.prog 3 (.i .i64) := trivial
theorem td4 : TdOK Try.prog 4 (.b) := ⟨by kernel_rfl, by kernel_rfl, show Try.prog.underlying 4 = some .bool from by kernel_rfl⟩
theorem eq4 : EqOK Try.prog 4 (.b) := trivial
theorem td5 : TdOK Try.prog 5 (.i .u8) := ⟨by kernel_rfl, by kernel_rfl, by kernel_rfl, 1, by kernel_rfl, by decide⟩
theorem eq5 : EqOK Try.prog 5 (.i .u8) := trivial
theorem td6 : TdOK Try.prog 6 (.i .u8) := ⟨by kernel_rfl, by kernel_rfl, by kernel_rfl, 1, by kernel_rfl, by decide⟩
theorem eq6 : EqOK Try.prog 6 (.i .u8) := trivial
theorem td9 : TdOK Try.prog 9 (.str) := ⟨by kernel_rfl, by kernel_rfl, show Try.prog.underlying 9 = some .string from by kernel_rfl⟩
theorem eq9 : EqOK Try.prog 9 (.str) := trivial
theorem td10 : TdOK Try.prog 10 (.str) := ⟨by kernel_rfl, by kernel_rfl, show Try.prog.underlying 10 = some .string from by kernel_rfl⟩
theorem eq10 : EqOK Try.prog 10 (.str) := trivial
theorem td11 : TdOK Try.prog 11 (.str) := ⟨by kernel_rfl, by kernel_rfl, show Try.prog.underlying 11 = some .string from by kernel_rfl⟩
theorem eq11 : EqOK Try.prog 11 (.str) := trivial
theorem td12 : TdOK Try.prog 12 (.i .u64) := ⟨by kernel_rfl, by kernel_rfl, by kernel_rfl, 8, by kernel_rfl, by decide⟩
theorem eq12 : EqOK Try.prog 12 (.i .u64) := trivial
theorem td21 : TdOK Try.prog 21 (.i .i32) := ⟨by kernel_rfl, by kernel_rfl, by kernel_rfl, 4, by kernel_rfl, by decide⟩
theorem eq21 : EqOK Try.prog 21 (.i .i32) := trivial
theorem td22 : TdOK Try.prog 22 (.i .u64) := ⟨by kernel_rfl, by kernel_rfl, by kernel_rfl, 8, by kernel_rfl, by decide⟩
theorem eq22 : EqOK Try.prog 22 (.i .u64) := trivial
theorem td23 : TdOK Try.prog 23 (.arr 4 .u64) := ⟨by kernel_rfl, by kernel_rfl, by decide, 22, by kernel_rfl, by kernel_rfl, by kernel_rfl⟩
theorem eq23 : EqOK Try.prog 23 (.arr 4 .u64) := eqOK_arr (e := 22) (by kernel_rfl) (by kernel_rfl) (by kernel_rfl) (by kernel_rfl)
theorem td24 : TdOK Try.prog 24 (.arr 4 .u64) := ⟨by kernel_rfl, by kernel_rfl, by decide, 22, by kernel_rfl, by kernel_rfl, by kernel_rfl⟩
theorem eq24 : EqOK Try.prog 24 (.arr 4 .u64) := eqOK_arr (e := 22) (by kernel_rfl) (by kernel_rfl) (by kernel_rfl) (by kernel_rfl)
theorem td26 : TdOK Try.prog 26 (.st [.int .i64 0, .bool false, .bool false, .int .i64 0, .int .u64 0, .int .u64 0, .int .u64 0, .int .u64 0] [(0, 3), (1, 4), (2, 4), (3, 3), (4, 24)]) := ⟨by kernel_rfl, by kernel_rfl, by kernel_rfl, by kernel_rfl⟩
theorem eq26 : EqOK Try.prog 26 (.st [.int .i64 0, .bool false, .bool false, .int .i64 0, .int .u64 0, .int .u64 0, .int .u64 0, .int .u64 0] [(0, 3), (1, 4), (2, 4), (3, 3), (4, 24)]) := by
  refine eqOK_st (m := 4) (D := 4) (by kernel_rfl) (by kernel_rfl) (by decide) fun xs hw hl => ?_
  obtain ⟨a0, l0, rfl, g0⟩ := likeZ_int hl
  obtain ⟨a1, l1, rfl, g1⟩ := likeZ_bool g0
  obtain ⟨a2, l2, rfl, g2⟩ := likeZ_bool g1
  obtain ⟨a3, l3, rfl, g3⟩ := likeZ_int g2
  obtain ⟨a4, l4, rfl, g4⟩ := likeZ_int g3
  obtain ⟨a5, l5, rfl, g5⟩ := likeZ_int g4
  obtain ⟨a6, l6, rfl, g6⟩ := likeZ_int g5
  obtain ⟨a7, l7, rfl, g7⟩ := likeZ_int g6
  obtain rfl := likeZ_nil g7
  have w0 := lit_wf (hw (.int .i64 a0) (by simp))
  have w3 := lit_wf (hw (.int .i64 a3) (by simp))
  have w4 := lit_wf (hw (.int .u64 a4) (by simp))
  have w5 := lit_wf (hw (.int .u64 a5) (by simp))
  have w6 := lit_wf (hw (.int .u64 a6) (by simp))
  have w7 := lit_wf (hw (.int .u64 a7) (by simp))
  have hu : Try.prog.underlying 26 = some (.struct (match Try.prog.underlying 26 with | some (.struct F) => F | _ => #[])) := by kernel_rfl
  refine ⟨by kernel_rfl, Vm.keyLits_struct hu (by kernel_rfl) (by kernel_rfl) (fls := [(3, 0, 1), (4, 1, 1), (4, 2, 1), (3, 3, 1), (24, 4, 4)]) (by kernel_rfl) rfl ?_⟩
  exact ⟨Vm.keyLits_int (by kernel_rfl) w0, Vm.keyLits_bool (by kernel_rfl), Vm.keyLits_bool (by kernel_rfl), Vm.keyLits_int (by kernel_rfl) w3, Vm.keyLits_arr (e := 22) (xs := [a4, a5, a6, a7]) (by kernel_rfl) (by kernel_rfl) (by kernel_rfl) (by kernel_rfl) rfl (List.forall_mem_cons.mpr ⟨w4, List.forall_mem_cons.mpr ⟨w5, List.forall_mem_cons.mpr ⟨w6, List.forall_mem_cons.mpr ⟨w7, List.forall_mem_nil _⟩⟩⟩⟩), trivial⟩
theorem td28 : TdOK Try.prog 28 (.i .i64) := ⟨by kernel_rfl, by kernel_rfl, by kernel_rfl, 8, by kernel_rfl, by decide⟩
theorem eq28 : EqOK Try.prog 28 (.i .i64) := trivial
theorem td34 : TdOK Try.prog 34 (.i .u64) := ⟨by kernel_rfl, by kernel_rfl, by kernel_rfl, 8, by kernel_rfl, by decide⟩
theorem eq34 : EqOK Try.prog 34 (.i .u64) := trivial
theorem td40 : TdOK Try.prog 40 (.sl 22) := ⟨by kernel_rfl, by kernel_rfl, show Try.prog.underlying 40 = some (.slice 22) from by kernel_rfl⟩
theorem eq40 : EqOK Try.prog 40 (.sl 22) := trivial
theorem td45 : TdOK Try.prog 45 (.st [.int .i64 0, .string ByteArray.empty, .int .i64 0, .int .i64 0, .int .i64 0, .int .i64 0, .int .i64 0, .int .i64 0, .int .i64 0, .bool false] [(0, 3), (1, 9), (2, 3), (3, 3), (4, 3), (5, 3), (6, 3), (7, 3), (8, 3), (9, 4)]) := ⟨by kernel_rfl, by kernel_rfl, by kernel_rfl, by kernel_rfl⟩
theorem eq45 : EqOK Try.prog 45 (.st [.int .i64 0, .string ByteArray.empty, .int .i64 0, .int .i64 0, .int .i64 0, .int .i64 0, .int .i64 0, .int .i64 0, .int .i64 0, .bool false] [(0, 3), (1, 9), (2, 3), (3, 3), (4, 3), (5, 3), (6, 3), (7, 3), (8, 3), (9, 4)]) := by
  refine eqOK_st (m := 4) (D := 4) (by kernel_rfl) (by kernel_rfl) (by decide) fun xs hw hl => ?_
  obtain ⟨a0, l0, rfl, g0⟩ := likeZ_int hl
  obtain ⟨a1, l1, rfl, g1⟩ := likeZ_str g0
  obtain ⟨a2, l2, rfl, g2⟩ := likeZ_int g1
  obtain ⟨a3, l3, rfl, g3⟩ := likeZ_int g2
  obtain ⟨a4, l4, rfl, g4⟩ := likeZ_int g3
  obtain ⟨a5, l5, rfl, g5⟩ := likeZ_int g4
  obtain ⟨a6, l6, rfl, g6⟩ := likeZ_int g5
  obtain ⟨a7, l7, rfl, g7⟩ := likeZ_int g6
  obtain ⟨a8, l8, rfl, g8⟩ := likeZ_int g7
  obtain ⟨a9, l9, rfl, g9⟩ := likeZ_bool g8
  obtain rfl := likeZ_nil g9
  have w0 := lit_wf (hw (.int .i64 a0) (by simp))
  have w1 := str_wf (hw (.string a1) (by simp))
  have w2 := lit_wf (hw (.int .i64 a2) (by simp))
  have w3 := lit_wf (hw (.int .i64 a3) (by simp))
  have w4 := lit_wf (hw (.int .i64 a4) (by simp))
  have w5 := lit_wf (hw (.int .i64 a5) (by simp))
  have w6 := lit_wf (hw (.int .i64 a6) (by simp))
  have w7 := lit_wf (hw (.int .i64 a7) (by simp))
  have w8 := lit_wf (hw (.int .i64 a8) (by simp))
  have hu : Try.prog.underlying 45 = some (.struct (match Try.prog.underlying 45 with | some (.struct F) => F | _ => #[])) := by kernel_rfl
  refine ⟨by kernel_rfl, Vm.keyLits_struct hu (by kernel_rfl) (by kernel_rfl) (fls := [(3, 0, 1), (9, 1, 1), (3, 2, 1), (3, 3, 1), (3, 4, 1), (3, 5, 1), (3, 6, 1), (3, 7, 1), (3, 8, 1), (4, 9, 1)]) (by kernel_rfl) rfl ?_⟩
  exact ⟨Vm.keyLits_int (by kernel_rfl) w0, Vm.keyLits_str (by kernel_rfl) w1, Vm.keyLits_int (by kernel_rfl) w2, Vm.keyLits_int (by kernel_rfl) w3, Vm.keyLits_int (by kernel_rfl) w4, Vm.keyLits_int (by kernel_rfl) w5, Vm.keyLits_int (by kernel_rfl) w6, Vm.keyLits_int (by kernel_rfl) w7, Vm.keyLits_int (by kernel_rfl) w8, Vm.keyLits_bool (by kernel_rfl), trivial⟩
theorem td55 : TdOK Try.prog 55 (.st [.int .i64 0, .string ByteArray.empty, .int .i64 0, .int .i64 0, .int .i64 0, .int .i64 0, .int .i64 0, .int .i64 0, .int .i64 0, .bool false] [(0, 3), (1, 9), (2, 3), (3, 3), (4, 3), (5, 3), (6, 3), (7, 3), (8, 3), (9, 4)]) := ⟨by kernel_rfl, by kernel_rfl, by kernel_rfl, by kernel_rfl⟩
theorem eq55 : EqOK Try.prog 55 (.st [.int .i64 0, .string ByteArray.empty, .int .i64 0, .int .i64 0, .int .i64 0, .int .i64 0, .int .i64 0, .int .i64 0, .int .i64 0, .bool false] [(0, 3), (1, 9), (2, 3), (3, 3), (4, 3), (5, 3), (6, 3), (7, 3), (8, 3), (9, 4)]) := by
  refine eqOK_st (m := 4) (D := 4) (by kernel_rfl) (by kernel_rfl) (by decide) fun xs hw hl => ?_
  obtain ⟨a0, l0, rfl, g0⟩ := likeZ_int hl
  obtain ⟨a1, l1, rfl, g1⟩ := likeZ_str g0
  obtain ⟨a2, l2, rfl, g2⟩ := likeZ_int g1
  obtain ⟨a3, l3, rfl, g3⟩ := likeZ_int g2
  obtain ⟨a4, l4, rfl, g4⟩ := likeZ_int g3
  obtain ⟨a5, l5, rfl, g5⟩ := likeZ_int g4
  obtain ⟨a6, l6, rfl, g6⟩ := likeZ_int g5
  obtain ⟨a7, l7, rfl, g7⟩ := likeZ_int g6
  obtain ⟨a8, l8, rfl, g8⟩ := likeZ_int g7
  obtain ⟨a9, l9, rfl, g9⟩ := likeZ_bool g8
  obtain rfl := likeZ_nil g9
  have w0 := lit_wf (hw (.int .i64 a0) (by simp))
  have w1 := str_wf (hw (.string a1) (by simp))
  have w2 := lit_wf (hw (.int .i64 a2) (by simp))
  have w3 := lit_wf (hw (.int .i64 a3) (by simp))
  have w4 := lit_wf (hw (.int .i64 a4) (by simp))
  have w5 := lit_wf (hw (.int .i64 a5) (by simp))
  have w6 := lit_wf (hw (.int .i64 a6) (by simp))
  have w7 := lit_wf (hw (.int .i64 a7) (by simp))
  have w8 := lit_wf (hw (.int .i64 a8) (by simp))
  have hu : Try.prog.underlying 55 = some (.struct (match Try.prog.underlying 55 with | some (.struct F) => F | _ => #[])) := by kernel_rfl
  refine ⟨by kernel_rfl, Vm.keyLits_struct hu (by kernel_rfl) (by kernel_rfl) (fls := [(3, 0, 1), (9, 1, 1), (3, 2, 1), (3, 3, 1), (3, 4, 1), (3, 5, 1), (3, 6, 1), (3, 7, 1), (3, 8, 1), (4, 9, 1)]) (by kernel_rfl) rfl ?_⟩
  exact ⟨Vm.keyLits_int (by kernel_rfl) w0, Vm.keyLits_str (by kernel_rfl) w1, Vm.keyLits_int (by kernel_rfl) w2, Vm.keyLits_int (by kernel_rfl) w3, Vm.keyLits_int (by kernel_rfl) w4, Vm.keyLits_int (by kernel_rfl) w5, Vm.keyLits_int (by kernel_rfl) w6, Vm.keyLits_int (by kernel_rfl) w7, Vm.keyLits_int (by kernel_rfl) w8, Vm.keyLits_bool (by kernel_rfl), trivial⟩
theorem td87 : TdOK Try.prog 87 (.arr 3 .i64) := ⟨by kernel_rfl, by kernel_rfl, by decide, 3, by kernel_rfl, by kernel_rfl, by kernel_rfl⟩
theorem eq87 : EqOK Try.prog 87 (.arr 3 .i64) := eqOK_arr (e := 3) (by kernel_rfl) (by kernel_rfl) (by kernel_rfl) (by kernel_rfl)
theorem td89 : TdOK Try.prog 89 (.sl 45) := ⟨by kernel_rfl, by kernel_rfl, show Try.prog.underlying 89 = some (.slice 45) from by kernel_rfl⟩
theorem eq89 : EqOK Try.prog 89 (.sl 45) := trivial
theorem td104 : TdOK Try.prog 104 (.i .u32) := ⟨by kernel_rfl, by kernel_rfl, by kernel_rfl, 4, by kernel_rfl, by decide⟩
theorem eq104 : EqOK Try.prog 104 (.i .u32) := trivial
theorem td105 : TdOK Try.prog 105 (.i .u8) := ⟨by kernel_rfl, by kernel_rfl, by kernel_rfl, 1, by kernel_rfl, by decide⟩
theorem eq105 : EqOK Try.prog 105 (.i .u8) := trivial
theorem td106 : TdOK Try.prog 106 (.i .u8) := ⟨by kernel_rfl, by kernel_rfl, by kernel_rfl, 1, by kernel_rfl, by decide⟩
theorem eq106 : EqOK Try.prog 106 (.i .u8) := trivial
theorem td109 : TdOK Try.prog 109 (.i .i32) := ⟨by kernel_rfl, by kernel_rfl, by kernel_rfl, 4, by kernel_rfl, by decide⟩
theorem eq109 : EqOK Try.prog 109 (.i .i32) := trivial
theorem td110 : TdOK Try.prog 110 (.i .i32) := ⟨by kernel_rfl, by kernel_rfl, by kernel_rfl, 4, by kernel_rfl, by decide⟩
theorem eq110 : EqOK Try.prog 110 (.i .i32) := trivial

theorem tyOK : ∀ t td, ty t = some td → TdOK Try.prog t td := by
  intro t td h
  unfold ty at h
  split at h
  · cases h; exact td2
  · cases h; exact td3
  · cases h; exact td4
  · cases h; exact td5
  · cases h; exact td6
  · cases h; exact td9
  · cases h; exact td10
  · cases h; exact td11
  · cases h; exact td12
  · cases h; exact td21
  · cases h; exact td22
  · cases h; exact td23
  · cases h; exact td24
  · cases h; exact td26
  · cases h; exact td28
  · cases h; exact td34
  · cases h; exact td40
  · cases h; exact td45
  · cases h; exact td55
  · cases h; exact td87
  · cases h; exact td89
  · cases h; exact td104
  · cases h; exact td105
  · cases h; exact td106
  · cases h; exact td109
  · cases h; exact td110
  · cases h
theorem eqOK : ∀ t td, ty t = some td → EqOK Try.prog t td := by
  intro t td h
  unfold ty at h
  split at h
  · cases h; exact eq2
  · cases h; exact eq3
  · cases h; exact eq4
  · cases h; exact eq5
  · cases h; exact eq6
  · cases h; exact eq9
  · cases h; exact eq10
  · cases h; exact eq11
  · cases h; exact eq12
  · cases h; exact eq21
  · cases h; exact eq22
  · cases h; exact eq23
  · cases h; exact eq24
  · cases h; exact eq26
  · cases h; exact eq28
  · cases h; exact eq34
  · cases h; exact eq40
  · cases h; exact eq45
  · cases h; exact eq55
  · cases h; exact eq87
  · cases h; exact eq89
  · cases h; exact eq104
  · cases h; exact eq105
  · cases h; exact eq106
  · cases h; exact eq109
  · cases h; exact eq110
  · cases h
end Go.Proofs.Ythilpmchdeolnaa.Vm
