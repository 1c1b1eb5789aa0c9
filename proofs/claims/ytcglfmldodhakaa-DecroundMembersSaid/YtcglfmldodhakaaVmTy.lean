/-
  The types of this seat, as the evaluator knows them. Printed by a program of this session (tygen3.py). No statement is proved here.
-/
import Derived.Test.YtcglfmldodhakaaVm3
import Derived.Test.YtcglfmldodhakaaChecked
import Derived.KernelRfl
namespace Go.Proofs.Ytcglfmldodhakaa.Vm
open Go Go.Vm

noncomputable def ty : TypeId → Option Ty
  | 2 => some (.i .i64)
  | 3 => some (.i .i64)
  | 4 => some (.b)
  | 5 => some (.i .u8)
  | 6 => some (.i .u8)
  | 9 => some (.str)
  | 10 => some (.str)
  | 11 => some (.str)
  | 12 => some (.i .u64)
  | 21 => some (.i .i32)
  | 22 => some (.sl 26)
  | 24 => some (.st [.int .i64 0, .int .i64 0] [(0, 3), (1, 3)])
  | 26 => some (.i .u64)
  | 27 => some (.arr 4 .u64)
  | 28 => some (.arr 4 .u64)
  | 30 => some (.st [.int .i64 0, .bool false, .bool false, .int .i64 0, .int .u64 0, .int .u64 0, .int .u64 0, .int .u64 0] [(0, 3), (1, 4), (2, 4), (3, 3), (4, 28)])
  | 31 => some (.i .i64)
  | 39 => some (.st [.int .i64 0, .string ByteArray.empty, .int .i64 0, .int .i64 0, .int .i64 0, .int .i64 0, .int .i64 0, .int .i64 0, .int .i64 0, .bool false] [(0, 3), (1, 9), (2, 3), (3, 3), (4, 3), (5, 3), (6, 3), (7, 3), (8, 3), (9, 4)])
  | 52 => some (.ar 5 [.int .i64 0, .bool false, .bool false, .int .i64 0, .int .u64 0, .int .u64 0, .int .u64 0, .int .u64 0, .int .i64 0, .bool false, .bool false, .int .i64 0, .int .u64 0, .int .u64 0, .int .u64 0, .int .u64 0, .int .i64 0, .bool false, .bool false, .int .i64 0, .int .u64 0, .int .u64 0, .int .u64 0, .int .u64 0, .int .i64 0, .bool false, .bool false, .int .i64 0, .int .u64 0, .int .u64 0, .int .u64 0, .int .u64 0, .int .i64 0, .bool false, .bool false, .int .i64 0, .int .u64 0, .int .u64 0, .int .u64 0, .int .u64 0] 30)
  | 59 => some (.st [.int .i64 0, .string ByteArray.empty, .int .i64 0, .int .i64 0, .int .i64 0, .int .i64 0, .int .i64 0, .int .i64 0, .int .i64 0, .bool false] [(0, 3), (1, 9), (2, 3), (3, 3), (4, 3), (5, 3), (6, 3), (7, 3), (8, 3), (9, 4)])
  | 79 => some (.i .u64)
  | 104 => some (.sl 59)
  | 115 => some (.arr 3 .i64)
  | 125 => some (.i .u32)
  | 126 => some (.i .u8)
  | 127 => some (.i .u8)
  | 130 => some (.i .i32)
  | 131 => some (.i .i32)
  | _ => none

theorem td2 : TdOK Try.prog 2 (.i .i64) := ⟨by kernel_rfl, by kernel_rfl, by kernel_rfl, 8, by kernel_rfl, by decide⟩
theorem eq2 : EqOK Try.prog 2 (.i .i64) := trivial
theorem td3 : TdOK Try.prog 3 (.i .i64) := ⟨by kernel_rfl, by kernel_rfl, by kernel_rfl, 8, by kernel_rfl, by decide⟩
theorem eq3 : EqOK Try.prog 3 (.i .i64) := trivial
theorem td4 : TdOK Try.prog 4 (.b) := ⟨by kernel_rfl, by kernel_rfl, show Try.prog.underlying 4 = some .bool from by kernel_rfl⟩
theorem eq4 : EqOK Try.prog 4 (.b) := trivial
theorem td5 : TdOK Try.prog 5 (.i .u8) := ⟨by kernel_rfl, by kernel_rfl, by kernel_rfl, 1, by kernel_rfl, by decide⟩
theorem eq5 : EqOK Try.prog 5 (.i .u8) := trivial
theorem td6 : TdOK Try.prog 6 (.i .u8) := ⟨by kernel_rfl, by kernel_rfl, by kernel_rfl, 1, by kernel_rfl, by decide⟩
theorem eq6 : EqOK Try.prog 6 (.i .u8) := trivial
theorem td9 : TdOK Try.prog 9 (.str) := ⟨by kernel_rfl, by kernel_rfl, show Try.prog.underlying 9 = some .string from by kernel_rfl⟩
theorem eq9 : EqOK Try.prog 9 (.str) := trivial
theorem td10 : TdOK Try.prog 10 (.str) := ⟨by kernel_rfl, by kernel_rfl, show Try.prog.underlying 10 = some .string from by kernel_rfl⟩
theorem eq10 : EqOK Try.prog 10 (.str) := trivial
theorem td11 : TdOK Try.prog 11 (.str) := ⟨by kernel_rfl, by kernel_rfl, show Try.prog.underlying 11 = some .string from by kernel_rfl⟩
theorem eq11 : EqOK Try.prog 11 (.str) := trivial
theorem td12 : TdOK Try.prog 12 (.i .u64) := ⟨by kernel_rfl, by kernel_rfl, by kernel_rfl, 8, by kernel_rfl, by decide⟩
theorem eq12 : EqOK Try.prog 12 (.i .u64) := trivial
theorem td21 : TdOK Try.prog 21 (.i .i32) := ⟨by kernel_rfl, by kernel_rfl, by kernel_rfl, 4, by kernel_rfl, by decide⟩
theorem eq21 : EqOK Try.prog 21 (.i .i32) := trivial
theorem td22 : TdOK Try.prog 22 (.sl 26) := ⟨by kernel_rfl, by kernel_rfl, show Try.prog.underlying 22 = some (.slice 26) from by kernel_rfl⟩
theorem eq22 : EqOK Try.prog 22 (.sl 26) := trivial
theorem td24 : TdOK Try.prog 24 (.st [.int .i64 0, .int .i64 0] [(0, 3), (1, 3)]) := ⟨by kernel_rfl, by kernel_rfl, by kernel_rfl, by kernel_rfl⟩
theorem eq24 : EqOK Try.prog 24 (.st [.int .i64 0, .int .i64 0] [(0, 3), (1, 3)]) := by
  refine eqOK_st (m := 4) (D := 4) (by kernel_rfl) (by kernel_rfl) (by decide) fun xs hw hl => ?_
  obtain ⟨a0, l0, rfl, g0⟩ := likeZ_int hl
  obtain ⟨a1, l1, rfl, g1⟩ := likeZ_int g0
  obtain rfl := likeZ_nil g1
  have w0 := lit_wf (hw (.int .i64 a0) (by simp))
  have w1 := lit_wf (hw (.int .i64 a1) (by simp))
  have hu : Try.prog.underlying 24 = some (.struct (match Try.prog.underlying 24 with | some (.struct F) => F | _ => #[])) := by kernel_rfl
  refine ⟨by kernel_rfl, Vm.keyLits_struct hu (by kernel_rfl) (by kernel_rfl) (fls := [(3, 0, 1), (3, 1, 1)]) (by kernel_rfl) rfl ?_⟩
  exact ⟨Vm.keyLits_int (by kernel_rfl) w0, Vm.keyLits_int (by kernel_rfl) w1, trivial⟩
theorem td26 : TdOK Try.prog 26 (.i .u64) := ⟨by kernel_rfl, by kernel_rfl, by kernel_rfl, 8, by kernel_rfl, by decide⟩
theorem eq26 : EqOK Try.prog 26 (.i .u64) := trivial
theorem td27 : TdOK Try.prog 27 (.arr 4 .u64) := ⟨by kernel_rfl, by kernel_rfl, by decide, 26, by kernel_rfl, by kernel_rfl, by kernel_rfl⟩
theorem eq27 : EqOK Try.prog 27 (.arr 4 .u64) := eqOK_arr (e := 26) (by kernel_rfl) (by kernel_rfl) (by kernel_rfl) (by kernel_rfl)
theorem td28 : TdOK Try.prog 28 (.arr 4 .u64) := ⟨by kernel_rfl, by kernel_rfl, by decide, 26, by kernel_rfl, by kernel_rfl, by kernel_rfl⟩
theorem eq28 : EqOK Try.prog 28 (.arr 4 .u64) := eqOK_arr (e := 26) (by kernel_rfl) (by kernel_rfl) (by kernel_rfl) (by kernel_rfl)
theorem td30 : TdOK Try.prog 30 (.st [.int .i64 0, .bool false, .bool false, .int .i64 0, .int .u64 0, .int .u64 0, .int .u64 0, .int .u64 0] [(0, 3), (1, 4), (2, 4), (3, 3), (4, 28)]) := ⟨by kernel_rfl, by kernel_rfl, by kernel_rfl, by kernel_rfl⟩
theorem eq30 : EqOK Try.prog 30 (.st [.int .i64 0, .bool false, .bool false, .int .i64 0, .int .u64 0, .int .u64 0, .int .u64 0, .int .u64 0] [(0, 3), (1, 4), (2, 4), (3, 3), (4, 28)]) := by
  refine eqOK_st (m := 4) (D := 4) (by kernel_rfl) (by kernel_rfl) (by decide) fun xs hw hl => ?_
  obtain ⟨a0, l0, rfl, g0⟩ := likeZ_int hl
  obtain ⟨a1, l1, rfl, g1⟩ := likeZ_bool g0
  obtain ⟨a2, l2, rfl, g2⟩ := likeZ_bool g1
  obtain ⟨a3, l3, rfl, g3⟩ := likeZ_int g2
  obtain ⟨a4, l4, rfl, g4⟩ := likeZ_int g3
  obtain ⟨a5, l5, rfl, g5⟩ := likeZ_int g4
  obtain ⟨a6, l6, rfl, g6⟩ := likeZ_int g5
  obtain ⟨a7, l7, rfl, g7⟩ := likeZ_int g6
  obtain rfl := likeZ_nil g7
  have w0 := lit_wf (hw (.int .i64 a0) (by simp))
  have w3 := lit_wf (hw (.int .i64 a3) (by simp))
  have w4 := lit_wf (hw (.int .u64 a4) (by simp))
  have w5 := lit_wf (hw (.int .u64 a5) (by simp))
  have w6 := lit_wf (hw (.int .u64 a6) (by simp))
  have w7 := lit_wf (hw (.int .u64 a7) (by simp))
  have hu : Try.prog.underlying 30 = some (.struct (match Try.prog.underlying 30 with | some (.struct F) => F | _ => #[])) := by kernel_rfl
  refine ⟨by kernel_rfl, Vm.keyLits_struct hu (by kernel_rfl) (by kernel_rfl) (fls := [(3, 0, 1), (4, 1, 1), (4, 2, 1), (3, 3, 1), (28, 4, 4)]) (by kernel_rfl) rfl ?_⟩
  exact ⟨Vm.keyLits_int (by kernel_rfl) w0, Vm.keyLits_bool (by kernel_rfl), Vm.keyLits_bool (by kernel_rfl), Vm.keyLits_int (by kernel_rfl) w3, Vm.keyLits_arr (e := 26) (xs := [a4, a5, a6, a7]) (by kernel_rfl) (by kernel_rfl) (by kernel_rfl) (by kernel_rfl) rfl (List.forall_mem_cons.mpr ⟨w4, List.forall_mem_cons.mpr ⟨w5, List.forall_mem_cons.mpr ⟨w6, List.forall_mem_cons.mpr ⟨w7, List.forall_mem_nil _⟩⟩⟩⟩), trivial⟩
theorem td31 : TdOK Try.prog 31 (.i .i64) := ⟨by kernel_rfl, by kernel_rfl, by kernel_rfl, 8, by kernel_rfl, by decide⟩
theorem eq31 : EqOK Try.prog 31 (.i .i64) := trivial
theorem td39 : TdOK Try.prog 39 (.st [.int .i64 0, .string ByteArray.empty, .int .i64 0, .int .i64 0, .int .i64 0, .int .i64 0, .int .i64 0, .int .i64 0, .int .i64 0, .bool false] [(0, 3), (1, 9), (2, 3), (3, 3), (4, 3), (5, 3), (6, 3), (7, 3), (8, 3), (9, 4)]) := ⟨by kernel_rfl, by kernel_rfl, by kernel_rfl, by kernel_rfl⟩
theorem eq39 : EqOK Try.prog 39 (.st [.int .i64 0, .string ByteArray.empty, .int .i64 0, .int .i64 0, .int .i64 0, .int .i64 0, .int .i64 0, .int .i64 0, .int .i64 0, .bool false] [(0, 3), (1, 9), (2, 3), (3, 3), (4, 3), (5, 3), (6, 3), (7, 3), (8, 3), (9, 4)]) := by
  refine eqOK_st (m := 4) (D := 4) (by kernel_rfl) (by kernel_rfl) (by decide) fun xs hw hl => ?_
  obtain ⟨a0, l0, rfl, g0⟩ := likeZ_int hl
  obtain ⟨a1, l1, rfl, g1⟩ := likeZ_str g0
  obtain ⟨a2, l2, rfl, g2⟩ := likeZ_int g1
  obtain ⟨a3, l3, rfl, g3⟩ := likeZ_int g2
  obtain ⟨a4, l4, rfl, g4⟩ := likeZ_int g3
  obtain ⟨a5, l5, rfl, g5⟩ := likeZ_int g4
  obtain ⟨a6, l6, rfl, g6⟩ := likeZ_int g5
  obtain ⟨a7, l7, rfl, g7⟩ := likeZ_int g6
  obtain ⟨a8, l8, rfl, g8⟩ := likeZ_int g7
  obtain ⟨a9, l9, rfl, g9⟩ := likeZ_bool g8
  obtain rfl := likeZ_nil g9
  have w0 := lit_wf (hw (.int .i64 a0) (by simp))
  have w1 := str_wf (hw (.string a1) (by simp))
  have w2 := lit_wf (hw (.int .i64 a2) (by simp))
  have w3 := lit_wf (hw (.int .i64 a3) (by simp))
  have w4 := lit_wf (hw (.int .i64 a4) (by simp))
  have w5 := lit_wf (hw (.int .i64 a5) (by simp))
  have w6 := lit_wf (hw (.int .i64 a6) (by simp))
  have w7 := lit_wf (hw (.int .i64 a7) (by simp))
  have w8 := lit_wf (hw (.int .i64 a8) (by simp))
  have hu : Try.prog.underlying 39 = some (.struct (match Try.prog.underlying 39 with | some (.struct F) => F | _ => #[])) := by kernel_rfl
  refine ⟨by kernel_rfl, Vm.keyLits_struct hu (by kernel_rfl) (by kernel_rfl) (fls := [(3, 0, 1), (9, 1, 1), (3, 2, 1), (3, 3, 1), (3, 4, 1), (3, 5, 1), (3, 6, 1), (3, 7, 1), (3, 8, 1), (4, 9, 1)]) (by kernel_rfl) rfl ?_⟩
  exact ⟨Vm.keyLits_int (by kernel_rfl) w0, Vm.keyLits_str (by kernel_rfl) w1, Vm.keyLits_int (by kernel_rfl) w2, Vm.keyLits_int (by kernel_rfl) w3, Vm.keyLits_int (by kernel_rfl) w4, Vm.keyLits_int (by kernel_rfl) w5, Vm.keyLits_int (by kernel_rfl) w6, Vm.keyLits_int (by kernel_rfl) w7, Vm.keyLits_int (by kernel_rfl) w8, Vm.keyLits_bool (by kernel_rfl), trivial⟩
theorem td52 : TdOK Try.prog 52 (.ar 5 [.int .i64 0, .bool false, .bool false, .int .i64 0, .int .u64 0, .int .u64 0, .int .u64 0, .int .u64 0, .int .i64 0, .bool false, .bool false, .int .i64 0, .int .u64 0, .int .u64 0, .int .u64 0, .int .u64 0, .int .i64 0, .bool false, .bool false, .int .i64 0, .int .u64 0, .int .u64 0, .int .u64 0, .int .u64 0, .int .i64 0, .bool false, .bool false, .int .i64 0, .int .u64 0, .int .u64 0, .int .u64 0, .int .u64 0, .int .i64 0, .bool false, .bool false, .int .i64 0, .int .u64 0, .int .u64 0, .int .u64 0, .int .u64 0] 30) := ⟨by kernel_rfl, by kernel_rfl, by kernel_rfl, by kernel_rfl⟩
theorem eq52 : EqOK Try.prog 52 (.ar 5 [.int .i64 0, .bool false, .bool false, .int .i64 0, .int .u64 0, .int .u64 0, .int .u64 0, .int .u64 0, .int .i64 0, .bool false, .bool false, .int .i64 0, .int .u64 0, .int .u64 0, .int .u64 0, .int .u64 0, .int .i64 0, .bool false, .bool false, .int .i64 0, .int .u64 0, .int .u64 0, .int .u64 0, .int .u64 0, .int .i64 0, .bool false, .bool false, .int .i64 0, .int .u64 0, .int .u64 0, .int .u64 0, .int .u64 0, .int .i64 0, .bool false, .bool false, .int .i64 0, .int .u64 0, .int .u64 0, .int .u64 0, .int .u64 0] 30) := trivial
theorem td59 : TdOK Try.prog 59 (.st [.int .i64 0, .string ByteArray.empty, .int .i64 0, .int .i64 0, .int .i64 0, .int .i64 0, .int .i64 0, .int .i64 0, .int .i64 0, .bool false] [(0, 3), (1, 9), (2, 3), (3, 3), (4, 3), (5, 3), (6, 3), (7, 3), (8, 3), (9, 4)]) := ⟨by kernel_rfl, by kernel_rfl, by kernel_rfl, by kernel_rfl⟩
theorem eq59 : EqOK Try.prog 59 (.st [.int .i64 0, .string ByteArray.empty, .int .i64 0, .int .i64 0, .int .i64 0, .int .i64 0, .int .i64 0, .int .i64 0, .int .i64 0, .bool false] [(0, 3), (1, 9), (2, 3), (3, 3), (4, 3), (5, 3), (6, 3), (7, 3), (8, 3), (9, 4)]) := by
  refine eqOK_st (m := 4) (D := 4) (by kernel_rfl) (by kernel_rfl) (by decide) fun xs hw hl => ?_
  obtain ⟨a0, l0, rfl, g0⟩ := likeZ_int hl
  obtain ⟨a1, l1, rfl, g1⟩ := likeZ_str g0
  obtain ⟨a2, l2, rfl, g2⟩ := likeZ_int g1
  obtain ⟨a3, l3, rfl, g3⟩ := likeZ_int g2
  obtain ⟨a4, l4, rfl, g4⟩ := likeZ_int g3
  obtain ⟨a5, l5, rfl, g5⟩ := likeZ_int g4
  obtain ⟨a6, l6, rfl, g6⟩ := likeZ_int g5
  obtain ⟨a7, l7, rfl, g7⟩ := likeZ_int g6
  obtain ⟨a8, l8, rfl, g8⟩ := likeZ_int g7
  obtain ⟨a9, l9, rfl, g9⟩ := likeZ_bool g8
  obtain rfl := likeZ_nil g9
  have w0 := lit_wf (hw (.int .i64 a0) (by simp))
  have w1 := str_wf (hw (.string a1) (by simp))
  have w2 := lit_wf (hw (.int .i64 a2) (by simp))
  have w3 := lit_wf (hw (.int .i64 a3) (by simp))
  have w4 := lit_wf (hw (.int .i64 a4) (by simp))
  have w5 := lit_wf (hw (.int .i64 a5) (by simp))
  have w6 := lit_wf (hw (.int .i64 a6) (by simp))
  have w7 := lit_wf (hw (.int .i64 a7) (by simp))
  have w8 := lit_wf (hw (.int .i64 a8) (by simp))
  have hu : Try.prog.underlying 59 = some (.struct (match Try.prog.underlying 59 with | some (.struct F) => F | _ => #[])) := by kernel_rfl
  refine ⟨by kernel_rfl, Vm.keyLits_struct hu (by kernel_rfl) (by kernel_rfl) (fls := [(3, 0, 1), (9, 1, 1), (3, 2, 1), (3, 3, 1), (3, 4, 1), (3, 5, 1), (3, 6, 1), (3, 7, 1), (3, 8, 1), (4, 9, 1)]) (by kernel_rfl) rfl ?_⟩
  exact ⟨Vm.keyLits_int (by kernel_rfl) w0, Vm.keyLits_str (by kernel_rfl) w1, Vm.keyLits_int (by kernel_rfl) w2, Vm.keyLits_int (by kernel_rfl) w3, Vm.keyLits_int (by kernel_rfl) w4, Vm.keyLits_int (by kernel_rfl) w5, Vm.keyLits_int (by kernel_rfl) w6, Vm.keyLits_int (by kernel_rfl) w7, Vm.keyLits_int (by kernel_rfl) w8, Vm.keyLits_bool (by kernel_rfl), trivial⟩
theorem td79 : TdOK Try.prog 79 (.i .u64) := ⟨by kernel_rfl, by kernel_rfl, by kernel_rfl, 8, by kernel_rfl, by decide⟩
theorem eq79 : EqOK Try.prog 79 (.i .u64) := trivial
theorem td104 : TdOK Try.prog 104 (.sl 59) := ⟨by kernel_rfl, by kernel_rfl, show Try.prog.underlying 104 = some (.slice 59) from by kernel_rfl⟩
theorem eq104 : EqOK Try.prog 104 (.sl 59) := trivial
theorem td115 : TdOK Try.prog 115 (.arr 3 .i64) := ⟨by kernel_rfl, by kernel_rfl, by decide, 3, by kernel_rfl, by kernel_rfl, by kernel_rfl⟩
theorem eq115 : EqOK Try.prog 115 (.arr 3 .i64) := eqOK_arr (e := 3) (by kernel_rfl) (by kernel_rfl) (by kernel_rfl) (by kernel_rfl)
theorem td125 : TdOK Try.prog 125 (.i .u32) := ⟨by kernel_rfl, by kernel_rfl, by kernel_rfl, 4, by kernel_rfl, by decide⟩
theorem eq125 : EqOK Try.prog 125 (.i .u32) := trivial
theorem td126 : TdOK Try.prog 126 (.i .u8) := ⟨by kernel_rfl, by kernel_rfl, by kernel_rfl, 1, by kernel_rfl, by decide⟩
theorem eq126 : EqOK Try.prog 126 (.i .u8) := trivial
theorem td127 : TdOK Try.prog 127 (.i .u8) := ⟨by kernel_rfl, by kernel_rfl, by kernel_rfl, 1, by kernel_rfl, by decide⟩
theorem eq127 : EqOK Try.prog 127 (.i .u8) := trivial
theorem td130 : TdOK Try.prog 130 (.i .i32) := ⟨by kernel_rfl, by kernel_rfl, by kernel_rfl, 4, by kernel_rfl, by decide⟩
theorem eq130 : EqOK Try.prog 130 (.i .i32) := trivial
theorem td131 : TdOK Try.prog 131 (.i .i32) := ⟨by kernel_rfl, by kernel_rfl, by kernel_rfl, 4, by kernel_rfl, by decide⟩
theorem eq131 : EqOK Try.prog 131 (.i .i32) := trivial

theorem tyOK : ∀ t td, ty t = some td → TdOK Try.prog t td := by
  intro t td h
  unfold ty at h
  split at h
  · cases h; exact td2
  · cases h; exact td3
  · cases h; exact td4
  · cases h; exact td5
  · cases h; exact td6
  · cases h; exact td9
  · cases h; exact td10
  · cases h; exact td11
  · cases h; exact td12
  · cases h; exact td21
  · cases h; exact td22
  · cases h; exact td24
  · cases h; exact td26
  · cases h; exact td27
  · cases h; exact td28
  · cases h; exact td30
  · cases h; exact td31
  · cases h; exact td39
  · cases h; exact td52
  · cases h; exact td59
  · cases h; exact td79
  · cases h; exact td104
  · cases h; exact td115
  · cases h; exact td125
  · cases h; exact td126
  · cases h; exact td127
  · cases h; exact td130
  · cases h; exact td131
  · cases h
theorem eqOK : ∀ t td, ty t = some td → EqOK Try.prog t td := by
  intro t td h
  unfold ty at h
  split at h
  · cases h; exact eq2
  · cases h; exact eq3
  · cases h; exact eq4
  · cases h; exact eq5
  · cases h; exact eq6
  · cases h; exact eq9
  · cases h; exact eq10
  · cases h; exact eq11
  · cases h; exact eq12
  · cases h; exact eq21
  · cases h; exact eq22
  · cases h; exact eq24
  · cases h; exact eq26
  · cases h; exact eq27
  · cases h; exact eq28
  · cases h; exact eq30
  · cases h; exact eq31
  · cases h; exact eq39
  · cases h; exact eq52
  · cases h; exact eq59
  · cases h; exact eq79
  · cases h; exact eq104
  · cases h; exact eq115
  · cases h; exact eq125
  · cases h; exact eq126
  · cases h; exact eq127
  · cases h; exact eq130
  · cases h; exact eq131
  · cases h
end Go.Proofs.Ytcglfmldodhakaa.Vm
