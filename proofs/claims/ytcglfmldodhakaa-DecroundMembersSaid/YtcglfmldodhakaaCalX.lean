/-
  A datum handed to a law. No statement is proved here.
-/
import Derived.Test.YtcglfmldodhakaaCalB3
namespace Go.Proofs.Ytcglfmldodhakaa.Vm
open Go Go.Vm Go.ChangeShapes Go.WideShapes Go.RowKit
variable {P : Program} {w : World} {r : Reach} {base : Nat}
theorem arg_datum {t i b e : TypeId} {F : Array Field} {v : Value} (ht : P.underlying t = some (.struct F)) (hc : P.cellTypes P.depth t = some [i, b, b, i, e, e, e, e]) (hs : P.cellsOf t = 8)
    (hi : P.underlying i = some (.int .i64)) (hb : P.underlying b = some .bool) (he : P.underlying e = some (.int .u64)) (h : Value.okWide P w r base t v) : ∃ c s q x f, f.length = 4 ∧ DR w (.g (datumCells c s q x f)) v := by
  simp only [Value.okWide, ht] at h
  obtain ⟨cs, rfl, hsz, ts, hts, _, hall⟩ := h
  rw [hc] at hts
  cases hts
  obtain ⟨l⟩ := cs
  simp only [List.size_toArray] at hsz
  rw [hs] at hsz
  match l, hsz, hall with
  | [v0, v1, v2, v3, v4, v5, v6, v7], _, hall =>
    obtain ⟨_, h0, g0⟩ := hall 0 v0 rfl; cases h0
    obtain ⟨_, h1, g1⟩ := hall 1 v1 rfl; cases h1
    obtain ⟨_, h2, g2⟩ := hall 2 v2 rfl; cases h2
    obtain ⟨_, h3, g3⟩ := hall 3 v3 rfl; cases h3
    obtain ⟨_, h4, g4⟩ := hall 4 v4 rfl; cases h4
    obtain ⟨_, h5, g5⟩ := hall 5 v5 rfl; cases h5
    obtain ⟨_, h6, g6⟩ := hall 6 v6 rfl; cases h6
    obtain ⟨_, h7, g7⟩ := hall 7 v7 rfl; cases h7
    obtain ⟨c, rfl, w0⟩ := cell_int hi g0
    obtain ⟨s, rfl⟩ := cell_bool hb g1
    obtain ⟨q, rfl⟩ := cell_bool hb g2
    obtain ⟨x, rfl, w3⟩ := cell_int hi g3
    obtain ⟨a0, rfl, w4⟩ := cell_int he g4
    obtain ⟨a1, rfl, w5⟩ := cell_int he g5
    obtain ⟨a2, rfl, w6⟩ := cell_int he g6
    obtain ⟨a3, rfl, w7⟩ := cell_int he g7
    refine ⟨c, s, q, x, [a0, a1, a2, a3], rfl, rfl, ?_⟩
    intro v hv
    simp only [datumCells, List.getD_cons_zero, List.getD_cons_succ, List.mem_cons, List.not_mem_nil, or_false] at hv
    rcases hv with rfl | rfl | rfl | rfl | rfl | rfl | rfl | rfl
    · exact w0
    · rfl
    · rfl
    · exact w3
    · exact w4
    · exact w5
    · exact w6
    · exact w7
theorem datum_wf {c x : Int} {s q : Bool} {f : List Int} (hl : f.length = 4) (h : wfL (datumCells c s q x f)) : inR .u64 f := by
  rw [len4 hl]
  intro y hy
  simp only [List.mem_cons, List.not_mem_nil, or_false] at hy
  rcases hy with rfl | rfl | rfl | rfl <;> exact (by simpa [wfB, IntKind.u64] using h (.int .u64 _) (by simp [datumCells]))
end Go.Proofs.Ytcglfmldodhakaa.Vm
