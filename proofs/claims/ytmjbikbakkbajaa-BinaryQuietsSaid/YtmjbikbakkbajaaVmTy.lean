/-
  The types of this seat, as the evaluator knows them. Printed by a program of this session (tygen3.py). No statement is proved here.
-/
import Derived.Test.YtmjbikbakkbajaaVm3
import Derived.Test.YtmjbikbakkbajaaChecked
import Derived.KernelRfl
namespace Go.Proofs.Ytmjbikbakkbajaa.Vm
open Go Go.Vm

noncomputable def ty : TypeId → Option Ty
  | 2 => some (.i .i64)
  | 3 => some (.i .i64)
  | 4 => some (.b)
  | 5 => some (.i .u8)
  | 6 => some (.i .u8)
  | 9 => some (.str)
  | 10 => some (.str)
  | 11 => some (.str)
  | 12 => some (.i .u64)
  | 21 => some (.i .i32)
  | 23 => some (.i .i64)
  | 26 => some (.i .u64)
  | 30 => some (.i .u64)
  | 31 => some (.arr 8 .u64)
  | 32 => some (.arr 1 .u64)
  | 35 => some (.arr 2 .u64)
  | 39 => some (.arr 4 .u64)
  | 46 => some (.sl 30)
  | 73 => some (.arr 4 .u64)
  | 75 => some (.st [.int .i64 0, .bool false, .bool false, .int .i64 0, .int .u64 0, .int .u64 0, .int .u64 0, .int .u64 0] [(0, 3), (1, 4), (2, 4), (3, 3), (4, 73)])
  | 82 => some (.arr 3 .i64)
  | 97 => some (.st [.int .i64 0, .string ByteArray.empty, .int .i64 0, .int .i64 0, .int .i64 0, .int .i64 0, .int .i64 0, .int .i64 0, .int .i64 0, .bool false] [(0, 3), (1, 9), (2, 3), (3, 3), (4, 3), (5, 3), (6, 3), (7, 3), (8, 3), (9, 4)])
  | 104 => some (.st [.int .i64 0, .string ByteArray.empty, .int .i64 0, .int .i64 0, .int .i64 0, .int .i64 0, .int .i64 0, .int .i64 0, .int .i64 0, .bool false] [(0, 3), (1, 9), (2, 3), (3, 3), (4, 3), (5, 3), (6, 3), (7, 3), (8, 3), (9, 4)])
  | 118 => some (.sl 97)
  | 133 => some (.i .u32)
  | 134 => some (.i .u8)
  | 135 => some (.i .u8)
  | 138 => some (.i .i32)
  | 139 => some (.i .i32)
  | _ => none

theorem td2 : TdOK Try.prog 2 (.i .i64) := ⟨by kernel_rfl, by kernel_rfl, by kernel_rfl, 8, by kernel_rfl, by decide⟩
theorem eq2 : EqOK Try.prog 2 (.i .i64) := trivial
theorem td3 : TdOK Try.prog 3 (.i .i64) := ⟨by kernel_rfl, by kernel_rfl, by kernel_rfl, 8, by kernel_rfl, by decide⟩
theorem eq3 : EqOK Try.prog 3 (.i .i64) := trivial
theorem td4 : TdOK Try.prog 4 (.b) := ⟨by kernel_rfl, by kernel_rfl, show Try.prog.underlying 4 = some .bool from by kernel_rfl⟩
theorem eq4 : EqOK Try.prog 4 (.b) := trivial
theorem td5 : TdOK Try.prog 5 (.i .u8) := ⟨by kernel_rfl, by kernel_rfl, by kernel_rfl, 1, by kernel_rfl, by decide⟩
theorem eq5 : EqOK Try.prog 5 (.i .u8) := trivial
theorem td6 : TdOK Try.prog 6 (.i .u8) := ⟨by kernel_rfl, by kernel_rfl, by kernel_rfl, 1, by kernel_rfl, by decide⟩
theorem eq6 : EqOK Try.prog 6 (.i .u8) := trivial
theorem td9 : TdOK Try.prog 9 (.str) := ⟨by kernel_rfl, by kernel_rfl, show Try.prog.underlying 9 = some .string from by kernel_rfl⟩
theorem eq9 : EqOK Try.prog 9 (.str) := trivial
theorem td10 : TdOK Try.prog 10 (.str) := ⟨by kernel_rfl, by kernel_rfl, show Try.prog.underlying 10 = some .string from by kernel_rfl⟩
theorem eq10 : EqOK Try.prog 10 (.str) := trivial
theorem td11 : TdOK Try.prog 11 (.str) := ⟨by kernel_rfl, by kernel_rfl, show Try.prog.underlying 11 = some .string from by kernel_rfl⟩
theorem eq11 : EqOK Try.prog 11 (.str) := trivial
theorem td12 : TdOK Try.prog 12 (.i .u64) := ⟨by kernel_rfl, by kernel_rfl, by kernel_rfl, 8, by kernel_rfl, by decide⟩
theorem eq12 : EqOK Try.prog 12 (.i .u64) := trivial
theorem td21 : TdOK Try.prog 21 (.i .i32) := ⟨by kernel_rfl, by kernel_rfl, by kernel_rfl, 4, by kernel_rfl, by decide⟩
theorem eq21 : EqOK Try.prog 21 (.i .i32) := trivial
theorem td23 : TdOK Try.prog 23 (.i .i64) := ⟨by kernel_rfl, by kernel_rfl, by kernel_rfl, 8, by kernel_rfl, by decide⟩
theorem eq23 : EqOK Try.prog 23 (.i .i64) := trivial
theorem td26 : TdOK Try.prog 26 (.i .u64) := ⟨by kernel_rfl, by kernel_rfl, by kernel_rfl, 8, by kernel_rfl, by decide⟩
theorem eq26 : EqOK Try.prog 26 (.i .u64) := trivial
theorem td30 : TdOK Try.prog 30 (.i .u64) := ⟨by kernel_rfl, by kernel_rfl, by kernel_rfl, 8, by kernel_rfl, by decide⟩
theorem eq30 : EqOK Try.prog 30 (.i .u64) := trivial
theorem td31 : TdOK Try.prog 31 (.arr 8 .u64) := ⟨by kernel_rfl, by kernel_rfl, by decide, 30, by kernel_rfl, by kernel_rfl, by kernel_rfl⟩
theorem eq31 : EqOK Try.prog 31 (.arr 8 .u64) := eqOK_arr (e := 30) (by kernel_rfl) (by kernel_rfl) (by kernel_rfl) (by kernel_rfl)
theorem td32 : TdOK Try.prog 32 (.arr 1 .u64) := ⟨by kernel_rfl, by kernel_rfl, by decide, 30, by kernel_rfl, by kernel_rfl, by kernel_rfl⟩
theorem eq32 : EqOK Try.prog 32 (.arr 1 .u64) := eqOK_arr (e := 30) (by kernel_rfl) (by kernel_rfl) (by kernel_rfl) (by kernel_rfl)
theorem td35 : TdOK Try.prog 35 (.arr 2 .u64) := ⟨by kernel_rfl, by kernel_rfl, by decide, 30, by kernel_rfl, by kernel_rfl, by kernel_rfl⟩
theorem eq35 : EqOK Try.prog 35 (.arr 2 .u64) := eqOK_arr (e := 30) (by kernel_rfl) (by kernel_rfl) (by kernel_rfl) (by kernel_rfl)
theorem td39 : TdOK Try.prog 39 (.arr 4 .u64) := ⟨by kernel_rfl, by kernel_rfl, by decide, 30, by kernel_rfl, by kernel_rfl, by kernel_rfl⟩
theorem eq39 : EqOK Try.prog 39 (.arr 4 .u64) := eqOK_arr (e := 30) (by kernel_rfl) (by kernel_rfl) (by kernel_rfl) (by kernel_rfl)
theorem td46 : TdOK Try.prog 46 (.sl 30) := ⟨by kernel_rfl, by kernel_rfl, show Try.prog.underlying 46 = some (.slice 30) from by kernel_rfl⟩
theorem eq46 : EqOK Try.prog 46 (.sl 30) := trivial
theorem td73 : TdOK Try.prog 73 (.arr 4 .u64) := ⟨by kernel_rfl, by kernel_rfl, by decide, 30, by kernel_rfl, by kernel_rfl, by kernel_rfl⟩
theorem eq73 : EqOK Try.prog 73 (.arr 4 .u64) := eqOK_arr (e := 30) (by kernel_rfl) (by kernel_rfl) (by kernel_rfl) (by kernel_rfl)
theorem td75 : TdOK Try.prog 75 (.st [.int .i64 0, .bool false, .bool false, .int .i64 0, .int .u64 0, .int .u64 0, .int .u64 0, .int .u64 0] [(0, 3), (1, 4), (2, 4), (3, 3), (4, 73)]) := ⟨by kernel_rfl, by kernel_rfl, by kernel_rfl, by kernel_rfl⟩
theorem eq75 : EqOK Try.prog 75 (.st [.int .i64 0, .bool false, .bool false, .int .i64 0, .int .u64 0, .int .u64 0, .int .u64 0, .int .u64 0] [(0, 3), (1, 4), (2, 4), (3, 3), (4, 73)]) := by
  refine eqOK_st (m := 4) (D := 4) (by kernel_rfl) (by kernel_rfl) (by decide) fun xs hw hl => ?_
  obtain ⟨a0, l0, rfl, g0⟩ := likeZ_int hl
  obtain ⟨a1, l1, rfl, g1⟩ := likeZ_bool g0
  obtain ⟨a2, l2, rfl, g2⟩ := likeZ_bool g1
  obtain ⟨a3, l3, rfl, g3⟩ := likeZ_int g2
  obtain ⟨a4, l4, rfl, g4⟩ := likeZ_int g3
  obtain ⟨a5, l5, rfl, g5⟩ := likeZ_int g4
  obtain ⟨a6, l6, rfl, g6⟩ := likeZ_int g5
  obtain ⟨a7, l7, rfl, g7⟩ := likeZ_int g6
  obtain rfl := likeZ_nil g7
  have w0 := lit_wf (hw (.int .i64 a0) (by simp))
  have w3 := lit_wf (hw (.int .i64 a3) (by simp))
  have w4 := lit_wf (hw (.int .u64 a4) (by simp))
  have w5 := lit_wf (hw (.int .u64 a5) (by simp))
  have w6 := lit_wf (hw (.int .u64 a6) (by simp))
  have w7 := lit_wf (hw (.int .u64 a7) (by simp))
  have hu : Try.prog.underlying 75 = some (.struct (match Try.prog.underlying 75 with | some (.struct F) => F | _ => #[])) := by kernel_rfl
  refine ⟨by kernel_rfl, Vm.keyLits_struct hu (by kernel_rfl) (by kernel_rfl) (fls := [(3, 0, 1), (4, 1, 1), (4, 2, 1), (3, 3, 1), (73, 4, 4)]) (by kernel_rfl) rfl ?_⟩
  exact ⟨Vm.keyLits_int (by kernel_rfl) w0, Vm.keyLits_bool (by kernel_rfl), Vm.keyLits_bool (by kernel_rfl), Vm.keyLits_int (by kernel_rfl) w3, Vm.keyLits_arr (e := 30) (xs := [a4, a5, a6, a7]) (by kernel_rfl) (by kernel_rfl) (by kernel_rfl) (by kernel_rfl) rfl (List.forall_mem_cons.mpr ⟨w4, List.forall_mem_cons.mpr ⟨w5, List.forall_mem_cons.mpr ⟨w6, List.forall_mem_cons.mpr ⟨w7, List.forall_mem_nil _⟩⟩⟩⟩), trivial⟩
theorem td82 : TdOK Try.prog 82 (.arr 3 .i64) := ⟨by kernel_rfl, by kernel_rfl, by decide, 3, by kernel_rfl, by kernel_rfl, by kernel_rfl⟩
theorem eq82 : EqOK Try.prog 82 (.arr 3 .i64) := eqOK_arr (e := 3) (by kernel_rfl) (by kernel_rfl) (by kernel_rfl) (by kernel_rfl)
theorem td97 : TdOK Try.prog 97 (.st [.int .i64 0, .string ByteArray.empty, .int .i64 0, .int .i64 0, .int .i64 0, .int .i64 0, .int .i64 0, .int .i64 0, .int .i64 0, .bool false] [(0, 3), (1, 9), (2, 3), (3, 3), (4, 3), (5, 3), (6, 3), (7, 3), (8, 3), (9, 4)]) := ⟨by kernel_rfl, by kernel_rfl, by kernel_rfl, by kernel_rfl⟩
theorem eq97 : EqOK Try.prog 97 (.st [.int .i64 0, .string ByteArray.empty, .int .i64 0, .int .i64 0, .int .i64 0, .int .i64 0, .int .i64 0, .int .i64 0, .int .i64 0, .bool false] [(0, 3), (1, 9), (2, 3), (3, 3), (4, 3), (5, 3), (6, 3), (7, 3), (8, 3), (9, 4)]) := by
  refine eqOK_st (m := 4) (D := 4) (by kernel_rfl) (by kernel_rfl) (by decide) fun xs hw hl => ?_
  obtain ⟨a0, l0, rfl, g0⟩ := likeZ_int hl
  obtain ⟨a1, l1, rfl, g1⟩ := likeZ_str g0
  obtain ⟨a2, l2, rfl, g2⟩ := likeZ_int g1
  obtain ⟨a3, l3, rfl, g3⟩ := likeZ_int g2
  obtain ⟨a4, l4, rfl, g4⟩ := likeZ_int g3
  obtain ⟨a5, l5, rfl, g5⟩ := likeZ_int g4
  obtain ⟨a6, l6, rfl, g6⟩ := likeZ_int g5
  obtain ⟨a7, l7, rfl, g7⟩ := likeZ_int g6
  obtain ⟨a8, l8, rfl, g8⟩ := likeZ_int g7
  obtain ⟨a9, l9, rfl, g9⟩ := likeZ_bool g8
  obtain rfl := likeZ_nil g9
  have w0 := lit_wf (hw (.int .i64 a0) (by simp))
  have w1 := str_wf (hw (.string a1) (by simp))
  have w2 := lit_wf (hw (.int .i64 a2) (by simp))
  have w3 := lit_wf (hw (.int .i64 a3) (by simp))
  have w4 := lit_wf (hw (.int .i64 a4) (by simp))
  have w5 := lit_wf (hw (.int .i64 a5) (by simp))
  have w6 := lit_wf (hw (.int .i64 a6) (by simp))
  have w7 := lit_wf (hw (.int .i64 a7) (by simp))
  have w8 := lit_wf (hw (.int .i64 a8) (by simp))
  have hu : Try.prog.underlying 97 = some (.struct (match Try.prog.underlying 97 with | some (.struct F) => F | _ => #[])) := by kernel_rfl
  refine ⟨by kernel_rfl, Vm.keyLits_struct hu (by kernel_rfl) (by kernel_rfl) (fls := [(3, 0, 1), (9, 1, 1), (3, 2, 1), (3, 3, 1), (3, 4, 1), (3, 5, 1), (3, 6, 1), (3, 7, 1), (3, 8, 1), (4, 9, 1)]) (by kernel_rfl) rfl ?_⟩
  exact ⟨Vm.keyLits_int (by kernel_rfl) w0, Vm.keyLits_str (by kernel_rfl) w1, Vm.keyLits_int (by kernel_rfl) w2, Vm.keyLits_int (by kernel_rfl) w3, Vm.keyLits_int (by kernel_rfl) w4, Vm.keyLits_int (by kernel_rfl) w5, Vm.keyLits_int (by kernel_rfl) w6, Vm.keyLits_int (by kernel_rfl) w7, Vm.keyLits_int (by kernel_rfl) w8, Vm.keyLits_bool (by kernel_rfl), trivial⟩
theorem td104 : TdOK Try.prog 104 (.st [.int .i64 0, .string ByteArray.empty, .int .i64 0, .int .i64 0, .int .i64 0, .int .i64 0, .int .i64 0, .int .i64 0, .int .i64 0, .bool false] [(0, 3), (1, 9), (2, 3), (3, 3), (4, 3), (5, 3), (6, 3), (7, 3), (8, 3), (9, 4)]) := ⟨by kernel_rfl, by kernel_rfl, by kernel_rfl, by kernel_rfl⟩
theorem eq104 : EqOK Try.prog 104 (.st [.int .i64 0, .string ByteArray.empty, .int .i64 0, .int .i64 0, .int .i64 0, .int .i64 0, .int .i64 0, .int .i64 0, .int .i64 0, .bool false] [(0, 3), (1, 9), (2, 3), (3, 3), (4, 3), (5, 3), (6, 3), (7, 3), (8, 3), (9, 4)]) := by
  refine eqOK_st (m := 4) (D := 4) (by kernel_rfl) (by kernel_rfl) (by decide) fun xs hw hl => ?_
  obtain ⟨a0, l0, rfl, g0⟩ := likeZ_int hl
  obtain ⟨a1, l1, rfl, g1⟩ := likeZ_str g0
  obtain ⟨a2, l2, rfl, g2⟩ := likeZ_int g1
  obtain ⟨a3, l3, rfl, g3⟩ := likeZ_int g2
  obtain ⟨a4, l4, rfl, g4⟩ := likeZ_int g3
  obtain ⟨a5, l5, rfl, g5⟩ := likeZ_int g4
  obtain ⟨a6, l6, rfl, g6⟩ := likeZ_int g5
  obtain ⟨a7, l7, rfl, g7⟩ := likeZ_int g6
  obtain ⟨a8, l8, rfl, g8⟩ := likeZ_int g7
  obtain ⟨a9, l9, rfl, g9⟩ := likeZ_bool g8
  obtain rfl := likeZ_nil g9
  have w0 := lit_wf (hw (.int .i64 a0) (by simp))
  have w1 := str_wf (hw (.string a1) (by simp))
  have w2 := lit_wf (hw (.int .i64 a2) (by simp))
  have w3 := lit_wf (hw (.int .i64 a3) (by simp))
  have w4 := lit_wf (hw (.int .i64 a4) (by simp))
  have w5 := lit_wf (hw (.int .i64 a5) (by simp))
  have w6 := lit_wf (hw (.int .i64 a6) (by simp))
  have w7 := lit_wf (hw (.int .i64 a7) (by simp))
  have w8 := lit_wf (hw (.int .i64 a8) (by simp))
  have hu : Try.prog.underlying 104 = some (.struct (match Try.prog.underlying 104 with | some (.struct F) => F | _ => #[])) := by kernel_rfl
  refine ⟨by kernel_rfl, Vm.keyLits_struct hu (by kernel_rfl) (by kernel_rfl) (fls := [(3, 0, 1), (9, 1, 1), (3, 2, 1), (3, 3, 1), (3, 4, 1), (3, 5, 1), (3, 6, 1), (3, 7, 1), (3, 8, 1), (4, 9, 1)]) (by kernel_rfl) rfl ?_⟩
  exact ⟨Vm.keyLits_int (by kernel_rfl) w0, Vm.keyLits_str (by kernel_rfl) w1, Vm.keyLits_int (by kernel_rfl) w2, Vm.keyLits_int (by kernel_rfl) w3, Vm.keyLits_int (by kernel_rfl) w4, Vm.keyLits_int (by kernel_rfl) w5, Vm.keyLits_int (by kernel_rfl) w6, Vm.keyLits_int (by kernel_rfl) w7, Vm.keyLits_int (by kernel_rfl) w8, Vm.keyLits_bool (by kernel_rfl), trivial⟩
theorem td118 : TdOK Try.prog 118 (.sl 97) := ⟨by kernel_rfl, by kernel_rfl, show Try.prog.underlying 118 = some (.slice 97) from by kernel_rfl⟩
theorem eq118 : EqOK Try.prog 118 (.sl 97) := trivial
theorem td133 : TdOK Try.prog 133 (.i .u32) := ⟨by kernel_rfl, by kernel_rfl, by kernel_rfl, 4, by kernel_rfl, by decide⟩
theorem eq133 : EqOK Try.prog 133 (.i .u32) := trivial
theorem td134 : TdOK Try.prog 134 (.i .u8) := ⟨by kernel_rfl, by kernel_rfl, by kernel_rfl, 1, by kernel_rfl, by decide⟩
theorem eq134 : EqOK Try.prog 134 (.i .u8) := trivial
theorem td135 : TdOK Try.prog 135 (.i .u8) := ⟨by kernel_rfl, by kernel_rfl, by kernel_rfl, 1, by kernel_rfl, by decide⟩
theorem eq135 : EqOK Try.prog 135 (.i .u8) := trivial
theorem td138 : TdOK Try.prog 138 (.i .i32) := ⟨by kernel_rfl, by kernel_rfl, by kernel_rfl, 4, by kernel_rfl, by decide⟩
theorem eq138 : EqOK Try.prog 138 (.i .i32) := trivial
theorem td139 : TdOK Try.prog 139 (.i .i32) := ⟨by kernel_rfl, by kernel_rfl, by kernel_rfl, 4, by kernel_rfl, by decide⟩
theorem eq139 : EqOK Try.prog 139 (.i .i32) := trivial

theorem tyOK : ∀ t td, ty t = some td → TdOK Try.prog t td := by
  intro t td h
  unfold ty at h
  split at h
  · cases h; exact td2
  · cases h; exact td3
  · cases h; exact td4
  · cases h; exact td5
  · cases h; exact td6
  · cases h; exact td9
  · cases h; exact td10
  · cases h; exact td11
  · cases h; exact td12
  · cases h; exact td21
  · cases h; exact td23
  · cases h; exact td26
  · cases h; exact td30
  · cases h; exact td31
  · cases h; exact td32
  · cases h; exact td35
  · cases h; exact td39
  · cases h; exact td46
  · cases h; exact td73
  · cases h; exact td75
  · cases h; exact td82
  · cases h; exact td97
  · cases h; exact td104
  · cases h; exact td118
  · cases h; exact td133
  · cases h; exact td134
  · cases h; exact td135
  · cases h; exact td138
  · cases h; exact td139
  · cases h
theorem eqOK : ∀ t td, ty t = some td → EqOK Try.prog t td := by
  intro t td h
  unfold ty at h
  split at h
  · cases h; exact eq2
  · cases h; exact eq3
  · cases h; exact eq4
  · cases h; exact eq5
  · cases h; exact eq6
  · cases h; exact eq9
  · cases h; exact eq10
  · cases h; exact eq11
  · cases h; exact eq12
  · cases h; exact eq21
  · cases h; exact eq23
  · cases h; exact eq26
  · cases h; exact eq30
  · cases h; exact eq31
  · cases h; exact eq32
  · cases h; exact eq35
  · cases h; exact eq39
  · cases h; exact eq46
  · cases h; exact eq73
  · cases h; exact eq75
  · cases h; exact eq82
  · cases h; exact eq97
  · cases h; exact eq104
  · cases h; exact eq118
  · cases h; exact eq133
  · cases h; exact eq134
  · cases h; exact eq135
  · cases h; exact eq138
  · cases h; exact eq139
  · cases h
end Go.Proofs.Ytmjbikbakkbajaa.Vm
