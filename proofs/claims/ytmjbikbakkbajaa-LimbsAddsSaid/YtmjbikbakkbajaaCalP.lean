/-
  From a law's arguments, as they are read, to what the evaluator takes. No statement is proved here.
-/
import Derived.Test.YtmjbikbakkbajaaCalB
import Derived.OpenShut
import Derived.ChangeOld
import Derived.SizedLaws
import Derived.Carry
namespace Go.Vm
open Go.ChangeShapes Go.WideShapes Go.RowKit
variable {P : Program} {w : World} {r : Reach} {base : Nat}

/-- One cell. -/
theorem cell_int {u : TypeId} {k : IntKind} {v : Value} (hu : P.underlying u = some (.int k)) (h : Cell.okWide P w r base u v) : ∃ n, v = .int k n ∧ wfB (.int k n) = true := by
  simp only [Cell.okWide, hu] at h
  cases v with
  | int k' n =>
    simp only [Cell.ok, hu] at h
    obtain ⟨rfl, h1, h2⟩ := h
    exact ⟨n, rfl, by simp [wfB, h1, h2]⟩
  | _ => simp [Cell.ok, hu] at h
theorem cell_bool {u : TypeId} {v : Value} (hu : P.underlying u = some .bool) (h : Cell.okWide P w r base u v) : ∃ b, v = .bool b := by
  simp only [Cell.okWide, hu] at h
  cases v <;> simp_all [Cell.ok]
theorem arg_int {t : TypeId} {k : IntKind} {v : Value} (ht : P.underlying t = some (.int k)) (h : Value.okWide P w r base t v) : ∃ n, DR w (.p (.int k n)) v := by
  simp only [Value.okWide, ht] at h
  obtain ⟨n, rfl, hw⟩ := cell_int ht h
  exact ⟨n, rfl, hw⟩
theorem arg_bool {t : TypeId} {v : Value} (ht : P.underlying t = some .bool) (h : Value.okWide P w r base t v) : ∃ b, DR w (.p (.bool b)) v := by
  simp only [Value.okWide, ht] at h
  obtain ⟨n, rfl⟩ := cell_bool ht h
  exact ⟨n, rfl, rfl⟩
theorem cells_ints {k : IntKind} : ∀ (l : List Value), (∀ v ∈ l, ∃ n, v = .int k n ∧ wfB (.int k n) = true) → ∃ xs : List Int, l = xs.map (Value.int k) ∧ inR k xs
  | [], _ => ⟨[], rfl, fun _ h => by cases h⟩
  | v :: l, h => by
    obtain ⟨n, rfl, hn⟩ := h v (by simp)
    obtain ⟨xs, rfl, hx⟩ := cells_ints l fun v hv => h v (by simp [hv])
    exact ⟨n :: xs, rfl, fun y hy => by
      rcases List.mem_cons.1 hy with rfl | hy
      · exact hn
      · exact hx y hy⟩
theorem arg_arr {t e : TypeId} {k : IntKind} {n : Nat} {v : Value} (ht : P.underlying t = some (.array n e)) (he : P.underlying e = some (.int k)) (hc : P.cellTypes P.depth t = some (List.replicate n e)) (hs : P.cellsOf t = n) (hn : n ≤ lim)
    (h : Value.okWide P w r base t v) : ∃ xs, DR w (.r k n xs) v := by
  simp only [Value.okWide, ht] at h
  obtain ⟨cs, rfl, hsz, ts, hts, _, hall⟩ := h
  rw [hc] at hts
  cases hts
  obtain ⟨xs, hxs, hR⟩ := cells_ints (k := k) cs.toList fun v hv => by
    obtain ⟨i, hi⟩ := List.getElem?_of_mem hv
    obtain ⟨u, hu, hcell⟩ := hall i v (by simpa using hi)
    have : u = e := by
      have := (List.getElem?_eq_some_iff.1 hu).2
      simpa using this.symm
    subst this
    exact cell_int he hcell
  refine ⟨xs, ?_, ?_, hn, hR⟩
  · rw [← hxs]
  · have := congrArg List.length hxs
    simp at this
    omega
/-- What a law's call comes to: true. -/
theorem res_true {w w' : World} {vs : List Value} {q : Prop} {rs : List Value} (h : all2 (ResOK w w' vs q) [(Own.mine, D.p (.bool true))] rs) : rs = [.bool true] := by
  match rs, h with
  | [x], ⟨⟨⟨h1, _⟩, _⟩, _⟩ => rw [h1]
end Go.Vm
