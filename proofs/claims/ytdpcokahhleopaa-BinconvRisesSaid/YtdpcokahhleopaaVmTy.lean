/-
  The types of this seat, as the evaluator knows them. Printed by a program of this session (tygen3.py). No statement is proved here.
-/
import Derived.Test.YtdpcokahhleopaaVm3
import Derived.Test.YtdpcokahhleopaaChecked
import Derived.KernelRfl
namespace Go.Proofs.Ytdpcokahhleopaa.Vm
open Go Go.Vm

noncomputable def ty : TypeId → Option Ty
  | 2 => some (.i .i64)
  | 3 => some (.i .i64)
  | 4 => some (.b)
  | 5 => some (.i .u8)
  | 6 => some (.i .u8)
  | 9 => some (.str)
  | 10 => some (.str)
  | 11 => some (.str)
  | 12 => some (.i .u64)
  | 21 => some (.i .i32)
  | 22 => some (.sl 25)
  | 25 => some (.i .u64)
  | 26 => some (.arr 4 .u64)
  | 27 => some (.arr 4 .u64)
  | 28 => some (.i .i64)
  | 34 => some (.ar 5 [.int .u64 0, .int .u64 0, .int .u64 0, .int .u64 0, .int .u64 0, .int .u64 0, .int .u64 0, .int .u64 0, .int .u64 0, .int .u64 0, .int .u64 0, .int .u64 0, .int .u64 0, .int .u64 0, .int .u64 0, .int .u64 0, .int .u64 0, .int .u64 0, .int .u64 0, .int .u64 0] 27)
  | 39 => some (.st [.int .i64 0, .bool false, .bool false, .int .i64 0, .int .u64 0, .int .u64 0, .int .u64 0, .int .u64 0] [(0, 3), (1, 4), (2, 4), (3, 3), (4, 27)])
  | 59 => some (.st [.int .i64 0, .string ByteArray.empty, .int .i64 0, .int .i64 0, .int .i64 0, .int .i64 0, .int .i64 0, .int .i64 0, .int .i64 0, .bool false] [(0, 3), (1, 9), (2, 3), (3, 3), (4, 3), (5, 3), (6, 3), (7, 3), (8, 3), (9, 4)])
  | 76 => some (.st [.int .i64 0, .string ByteArray.empty, .int .i64 0, .int .i64 0, .int .i64 0, .int .i64 0, .int .i64 0, .int .i64 0, .int .i64 0, .bool false] [(0, 3), (1, 9), (2, 3), (3, 3), (4, 3), (5, 3), (6, 3), (7, 3), (8, 3), (9, 4)])
  | 80 => some (.i .u64)
  | 110 => some (.sl 59)
  | 137 => some (.i .u32)
  | 138 => some (.i .u8)
  | 139 => some (.i .u8)
  | 142 => some (.i .i32)
  | 143 => some (.i .i32)
  | _ => none

theorem td2 : TdOK Try.prog 2 (.i .i64) := ⟨by kernel_rfl, by kernel_rfl, by kernel_rfl, 8, by kernel_rfl, by decide⟩
theorem eq2 : EqOK Try.prog 2 (.i .i64) := trivial
theorem td3 : TdOK Try.prog 3 (.i .i64) := ⟨by kernel_rfl, by kernel_rfl, by kernel_rfl, 8, by kernel_rfl, by decide⟩
theorem eq3 : EqOK Try.prog 3 (.i .i64) := trivial
theorem td4 : TdOK Try.prog 4 (.b) := ⟨by kernel_rfl, by kernel_rfl, show Try.prog.underlying 4 = some .bool from by kernel_rfl⟩
theorem eq4 : EqOK Try.prog 4 (.b) := trivial
theorem td5 : TdOK Try.prog 5 (.i .u8) := ⟨by kernel_rfl, by kernel_rfl, by kernel_rfl, 1, by kernel_rfl, by decide⟩
theorem eq5 : EqOK Try.prog 5 (.i .u8) := trivial
theorem td6 : TdOK Try.prog 6 (.i .u8) := ⟨by kernel_rfl, by kernel_rfl, by kernel_rfl, 1, by kernel_rfl, by decide⟩
theorem eq6 : EqOK Try.prog 6 (.i .u8) := trivial
theorem td9 : TdOK Try.prog 9 (.str) := ⟨by kernel_rfl, by kernel_rfl, show Try.prog.underlying 9 = some .string from by kernel_rfl⟩
theorem eq9 : EqOK Try.prog 9 (.str) := trivial
theorem td10 : TdOK Try.prog 10 (.str) := ⟨by kernel_rfl, by kernel_rfl, show Try.prog.underlying 10 = some .string from by kernel_rfl⟩
theorem eq10 : EqOK Try.prog 10 (.str) := trivial
theorem td11 : TdOK Try.prog 11 (.str) := ⟨by kernel_rfl, by kernel_rfl, show Try.prog.underlying 11 = some .string from by kernel_rfl⟩
theorem eq11 : EqOK Try.prog 11 (.str) := trivial
theorem td12 : TdOK Try.prog 12 (.i .u64) := ⟨by kernel_rfl, by kernel_rfl, by kernel_rfl, 8, by kernel_rfl, by decide⟩
theorem eq12 : EqOK Try.prog 12 (.i .u64) := trivial
theorem td21 : TdOK Try.prog 21 (.i .i32) := ⟨by kernel_rfl, by kernel_rfl, by kernel_rfl, 4, by kernel_rfl, by decide⟩
theorem eq21 : EqOK Try.prog 21 (.i .i32) := trivial
theorem td22 : TdOK Try.prog 22 (.sl 25) := ⟨by kernel_rfl, by kernel_rfl, show Try.prog.underlying 22 = some (.slice 25) from by kernel_rfl⟩
theorem eq22 : EqOK Try.prog 22 (.sl 25) := trivial
theorem td25 : TdOK Try.prog 25 (.i .u64) := ⟨by kernel_rfl, by kernel_rfl, by kernel_rfl, 8, by kernel_rfl, by decide⟩
theorem eq25 : EqOK Try.prog 25 (.i .u64) := trivial
theorem td26 : TdOK Try.prog 26 (.arr 4 .u64) := ⟨by kernel_rfl, by kernel_rfl, by decide, 25, by kernel_rfl, by kernel_rfl, by kernel_rfl⟩
theorem eq26 : EqOK Try.prog 26 (.arr 4 .u64) := eqOK_arr (e := 25) (by kernel_rfl) (by kernel_rfl) (by kernel_rfl) (by kernel_rfl)
theorem td27 : TdOK Try.prog 27 (.arr 4 .u64) := ⟨by kernel_rfl, by kernel_rfl, by decide, 25, by kernel_rfl, by kernel_rfl, by kernel_rfl⟩
theorem eq27 : EqOK Try.prog 27 (.arr 4 .u64) := eqOK_arr (e := 25) (by kernel_rfl) (by kernel_rfl) (by kernel_rfl) (by kernel_rfl)
theorem td28 : TdOK Try.prog 28 (.i .i64) := ⟨by kernel_rfl, by kernel_rfl, by kernel_rfl, 8, by kernel_rfl, by decide⟩
theorem eq28 : EqOK Try.prog 28 (.i .i64) := trivial
theorem td34 : TdOK Try.prog 34 (.ar 5 [.int .u64 0, .int .u64 0, .int .u64 0, .int .u64 0, .int .u64 0, .int .u64 0, .int .u64 0, .int .u64 0, .int .u64 0, .int .u64 0, .int .u64 0, .int .u64 0, .int .u64 0, .int .u64 0, .int .u64 0, .int .u64 0, .int .u64 0, .int .u64 0, .int .u64 0, .int .u64 0] 27) := ⟨by kernel_rfl, by kernel_rfl, by kernel_rfl, by kernel_rfl⟩
theorem eq34 : EqOK Try.prog 34 (.ar 5 [.int .u64 0, .int .u64 0, .int .u64 0, .int .u64 0, .int .u64 0, .int .u64 0, .int .u64 0, .int .u64 0, .int .u64 0, .int .u64 0, .int .u64 0, .int .u64 0, .int .u64 0, .int .u64 0, .int .u64 0, .int .u64 0, .int .u64 0, .int .u64 0, .int .u64 0, .int .u64 0] 27) := trivial
theorem td39 : TdOK Try.prog 39 (.st [.int .i64 0, .bool false, .bool false, .int .i64 0, .int .u64 0, .int .u64 0, .int .u64 0, .int .u64 0] [(0, 3), (1, 4), (2, 4), (3, 3), (4, 27)]) := ⟨by kernel_rfl, by kernel_rfl, by kernel_rfl, by kernel_rfl⟩
theorem eq39 : EqOK Try.prog 39 (.st [.int .i64 0, .bool false, .bool false, .int .i64 0, .int .u64 0, .int .u64 0, .int .u64 0, .int .u64 0] [(0, 3), (1, 4), (2, 4), (3, 3), (4, 27)]) := by
  refine eqOK_st (m := 4) (D := 4) (by kernel_rfl) (by kernel_rfl) (by decide) fun xs hw hl => ?_
  obtain ⟨a0, l0, rfl, g0⟩ := likeZ_int hl
  obtain ⟨a1, l1, rfl, g1⟩ := likeZ_bool g0
  obtain ⟨a2, l2, rfl, g2⟩ := likeZ_bool g1
  obtain ⟨a3, l3, rfl, g3⟩ := likeZ_int g2
  obtain ⟨a4, l4, rfl, g4⟩ := likeZ_int g3
  obtain ⟨a5, l5, rfl, g5⟩ := likeZ_int g4
  obtain ⟨a6, l6, rfl, g6⟩ := likeZ_int g5
  obtain ⟨a7, l7, rfl, g7⟩ := likeZ_int g6
  obtain rfl := likeZ_nil g7
  have w0 := lit_wf (hw (.int .i64 a0) (by simp))
  have w3 := lit_wf (hw (.int .i64 a3) (by simp))
  have w4 := lit_wf (hw (.int .u64 a4) (by simp))
  have w5 := lit_wf (hw (.int .u64 a5) (by simp))
  have w6 := lit_wf (hw (.int .u64 a6) (by simp))
  have w7 := lit_wf (hw (.int .u64 a7) (by simp))
  have hu : Try.prog.underlying 39 = some (.struct (match Try.prog.underlying 39 with | some (.struct F) => F | _ => #[])) := by kernel_rfl
  refine ⟨by kernel_rfl, Vm.keyLits_struct hu (by kernel_rfl) (by kernel_rfl) (fls := [(3, 0, 1), (4, 1, 1), (4, 2, 1), (3, 3, 1), (27, 4, 4)]) (by kernel_rfl) rfl ?_⟩
  exact ⟨Vm.keyLits_int (by kernel_rfl) w0, Vm.keyLits_bool (by kernel_rfl), Vm.keyLits_bool (by kernel_rfl), Vm.keyLits_int (by kernel_rfl) w3, Vm.keyLits_arr (e := 25) (xs := [a4, a5, a6, a7]) (by kernel_rfl) (by kernel_rfl) (by kernel_rfl) (by kernel_rfl) rfl (List.forall_mem_cons.mpr ⟨w4, List.forall_mem_cons.mpr ⟨w5, List.forall_mem_cons.mpr ⟨w6, List.forall_mem_cons.mpr ⟨w7, List.forall_mem_nil _⟩⟩⟩⟩), trivial⟩
theorem td59 : TdOK Try.prog 59 (.st [.int .i64 0, .string ByteArray.empty, .int .i64 0, .int .i64 0, .int .i64 0, .int .i64 0, .int .i64 0, .int .i64 0, .int .i64 0, .bool false] [(0, 3), (1, 9), (2, 3), (3, 3), (4, 3), (5, 3), (6, 3), (7, 3), (8, 3), (9, 4)]) := ⟨by kernel_rfl, by kernel_rfl, by kernel_rfl, by kernel_rfl⟩
theorem eq59 : EqOK Try.prog 59 (.st [.int .i64 0, .string ByteArray.empty, .int .i64 0, .int .i64 0, .int .i64 0, .int .i64 0, .int .i64 0, .int .i64 0, .int .i64 0, .bool false] [(0, 3), (1, 9), (2, 3), (3, 3), (4, 3), (5, 3), (6, 3), (7, 3), (8, 3), (9, 4)]) := by
  refine eqOK_st (m := 4) (D := 4) (by kernel_rfl) (by kernel_rfl) (by decide) fun xs hw hl => ?_
  obtain ⟨a0, l0, rfl, g0⟩ := likeZ_int hl
  obtain ⟨a1, l1, rfl, g1⟩ := likeZ_str g0
  obtain ⟨a2, l2, rfl, g2⟩ := likeZ_int g1
  obtain ⟨a3, l3, rfl, g3⟩ := likeZ_int g2
  obtain ⟨a4, l4, rfl, g4⟩ := likeZ_int g3
  obtain ⟨a5, l5, rfl, g5⟩ := likeZ_int g4
  obtain ⟨a6, l6, rfl, g6⟩ := likeZ_int g5
  obtain ⟨a7, l7, rfl, g7⟩ := likeZ_int g6
  obtain ⟨a8, l8, rfl, g8⟩ := likeZ_int g7
  obtain ⟨a9, l9, rfl, g9⟩ := likeZ_bool g8
  obtain rfl := likeZ_nil g9
  have w0 := lit_wf (hw (.int .i64 a0) (by simp))
  have w1 := str_wf (hw (.string a1) (by simp))
  have w2 := lit_wf (hw (.int .i64 a2) (by simp))
  have w3 := lit_wf (hw (.int .i64 a3) (by simp))
  have w4 := lit_wf (hw (.int .i64 a4) (by simp))
  have w5 := lit_wf (hw (.int .i64 a5) (by simp))
  have w6 := lit_wf (hw (.int .i64 a6) (by simp))
  have w7 := lit_wf (hw (.int .i64 a7) (by simp))
  have w8 := lit_wf (hw (.int .i64 a8) (by simp))
  have hu : Try.prog.underlying 59 = some (.struct (match Try.prog.underlying 59 with | some (.struct F) => F | _ => #[])) := by kernel_rfl
  refine ⟨by kernel_rfl, Vm.keyLits_struct hu (by kernel_rfl) (by kernel_rfl) (fls := [(3, 0, 1), (9, 1, 1), (3, 2, 1), (3, 3, 1), (3, 4, 1), (3, 5, 1), (3, 6, 1), (3, 7, 1), (3, 8, 1), (4, 9, 1)]) (by kernel_rfl) rfl ?_⟩
  exact ⟨Vm.keyLits_int (by kernel_rfl) w0, Vm.keyLits_str (by kernel_rfl) w1, Vm.keyLits_int (by kernel_rfl) w2, Vm.keyLits_int (by kernel_rfl) w3, Vm.keyLits_int (by kernel_rfl) w4, Vm.keyLits_int (by kernel_rfl) w5, Vm.keyLits_int (by kernel_rfl) w6, Vm.keyLits_int (by kernel_rfl) w7, Vm.keyLits_int (by kernel_rfl) w8, Vm.keyLits_bool (by kernel_rfl), trivial⟩
theorem td76 : TdOK Try.prog 76 (.st [.int .i64 0, .string ByteArray.empty, .int .i64 0, .int .i64 0, .int .i64 0, .int .i64 0, .int .i64 0, .int .i64 0, .int .i64 0, .bool false] [(0, 3), (1, 9), (2, 3), (3, 3), (4, 3), (5, 3), (6, 3), (7, 3), (8, 3), (9, 4)]) := ⟨by kernel_rfl, by kernel_rfl, by kernel_rfl, by kernel_rfl⟩
theorem eq76 : EqOK Try.prog 76 (.st [.int .i64 0, .string ByteArray.empty, .int .i64 0, .int .i64 0, .int .i64 0, .int .i64 0, .int .i64 0, .int .i64 0, .int .i64 0, .bool false] [(0, 3), (1, 9), (2, 3), (3, 3), (4, 3), (5, 3), (6, 3), (7, 3), (8, 3), (9, 4)]) := by
  refine eqOK_st (m := 4) (D := 4) (by kernel_rfl) (by kernel_rfl) (by decide) fun xs hw hl => ?_
  obtain ⟨a0, l0, rfl, g0⟩ := likeZ_int hl
  obtain ⟨a1, l1, rfl, g1⟩ := likeZ_str g0
  obtain ⟨a2, l2, rfl, g2⟩ := likeZ_int g1
  obtain ⟨a3, l3, rfl, g3⟩ := likeZ_int g2
  obtain ⟨a4, l4, rfl, g4⟩ := likeZ_int g3
  obtain ⟨a5, l5, rfl, g5⟩ := likeZ_int g4
  obtain ⟨a6, l6, rfl, g6⟩ := likeZ_int g5
  obtain ⟨a7, l7, rfl, g7⟩ := likeZ_int g6
  obtain ⟨a8, l8, rfl, g8⟩ := likeZ_int g7
  obtain ⟨a9, l9, rfl, g9⟩ := likeZ_bool g8
  obtain rfl := likeZ_nil g9
  have w0 := lit_wf (hw (.int .i64 a0) (by simp))
  have w1 := str_wf (hw (.string a1) (by simp))
  have w2 := lit_wf (hw (.int .i64 a2) (by simp))
  have w3 := lit_wf (hw (.int .i64 a3) (by simp))
  have w4 := lit_wf (hw (.int .i64 a4) (by simp))
  have w5 := lit_wf (hw (.int .i64 a5) (by simp))
  have w6 := lit_wf (hw (.int .i64 a6) (by simp))
  have w7 := lit_wf (hw (.int .i64 a7) (by simp))
  have w8 := lit_wf (hw (.int .i64 a8) (by simp))
  have hu : Try.prog.underlying 76 = some (.struct (match Try.prog.underlying 76 with | some (.struct F) => F | _ => #[])) := by kernel_rfl
  refine ⟨by kernel_rfl, Vm.keyLits_struct hu (by kernel_rfl) (by kernel_rfl) (fls := [(3, 0, 1), (9, 1, 1), (3, 2, 1), (3, 3, 1), (3, 4, 1), (3, 5, 1), (3, 6, 1), (3, 7, 1), (3, 8, 1), (4, 9, 1)]) (by kernel_rfl) rfl ?_⟩
  exact ⟨Vm.keyLits_int (by kernel_rfl) w0, Vm.keyLits_str (by kernel_rfl) w1, Vm.keyLits_int (by kernel_rfl) w2, Vm.keyLits_int (by kernel_rfl) w3, Vm.keyLits_int (by kernel_rfl) w4, Vm.keyLits_int (by kernel_rfl) w5, Vm.keyLits_int (by kernel_rfl) w6, Vm.keyLits_int (by kernel_rfl) w7, Vm.keyLits_int (by kernel_rfl) w8, Vm.keyLits_bool (by kernel_rfl), trivial⟩
theorem td80 : TdOK Try.prog 80 (.i .u64) := ⟨by kernel_rfl, by kernel_rfl, by kernel_rfl, 8, by kernel_rfl, by decide⟩
theorem eq80 : EqOK Try.prog 80 (.i .u64) := trivial
theorem td110 : TdOK Try.prog 110 (.sl 59) := ⟨by kernel_rfl, by kernel_rfl, show Try.prog.underlying 110 = some (.slice 59) from by kernel_rfl⟩
theorem eq110 : EqOK Try.prog 110 (.sl 59) := trivial
theorem td137 : TdOK Try.prog 137 (.i .u32) := ⟨by kernel_rfl, by kernel_rfl, by kernel_rfl, 4, by kernel_rfl, by decide⟩
theorem eq137 : EqOK Try.prog 137 (.i .u32) := trivial
theorem td138 : TdOK Try.prog 138 (.i .u8) := ⟨by kernel_rfl, by kernel_rfl, by kernel_rfl, 1, by kernel_rfl, by decide⟩
theorem eq138 : EqOK Try.prog 138 (.i .u8) := trivial
theorem td139 : TdOK Try.prog 139 (.i .u8) := ⟨by kernel_rfl, by kernel_rfl, by kernel_rfl, 1, by kernel_rfl, by decide⟩
theorem eq139 : EqOK Try.prog 139 (.i .u8) := trivial
theorem td142 : TdOK Try.prog 142 (.i .i32) := ⟨by kernel_rfl, by kernel_rfl, by kernel_rfl, 4, by kernel_rfl, by decide⟩
theorem eq142 : EqOK Try.prog 142 (.i .i32) := trivial
theorem td143 : TdOK Try.prog 143 (.i .i32) := ⟨by kernel_rfl, by kernel_rfl, by kernel_rfl, 4, by kernel_rfl, by decide⟩
theorem eq143 : EqOK Try.prog 143 (.i .i32) := trivial

theorem tyOK : ∀ t td, ty t = some td → TdOK Try.prog t td := by
  intro t td h
  unfold ty at h
  split at h
  · cases h; exact td2
  · cases h; exact td3
  · cases h; exact td4
  · cases h; exact td5
  · cases h; exact td6
  · cases h; exact td9
  · cases h; exact td10
  · cases h; exact td11
  · cases h; exact td12
  · cases h; exact td21
  · cases h; exact td22
  · cases h; exact td25
  · cases h; exact td26
  · cases h; exact td27
  · cases h; exact td28
  · cases h; exact td34
  · cases h; exact td39
  · cases h; exact td59
  · cases h; exact td76
  · cases h; exact td80
  · cases h; exact td110
  · cases h; exact td137
  · cases h; exact td138
  · cases h; exact td139
  · cases h; exact td142
  · cases h; exact td143
  · cases h
theorem eqOK : ∀ t td, ty t = some td → EqOK Try.prog t td := by
  intro t td h
  unfold ty at h
  split at h
  · cases h; exact eq2
  · cases h; exact eq3
  · cases h; exact eq4
  · cases h; exact eq5
  · cases h; exact eq6
  · cases h; exact eq9
  · cases h; exact eq10
  · cases h; exact eq11
  · cases h; exact eq12
  · cases h; exact eq21
  · cases h; exact eq22
  · cases h; exact eq25
  · cases h; exact eq26
  · cases h; exact eq27
  · cases h; exact eq28
  · cases h; exact eq34
  · cases h; exact eq39
  · cases h; exact eq59
  · cases h; exact eq76
  · cases h; exact eq80
  · cases h; exact eq110
  · cases h; exact eq137
  · cases h; exact eq138
  · cases h; exact eq139
  · cases h; exact eq142
  · cases h; exact eq143
  · cases h
end Go.Proofs.Ytdpcokahhleopaa.Vm
