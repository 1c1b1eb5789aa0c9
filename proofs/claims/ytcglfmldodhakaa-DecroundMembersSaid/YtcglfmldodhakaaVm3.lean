/-
  Structs that are compared: their cells as letters. Plain lemmas: no statement is proved here.
-/
import Derived.Test.YtcglfmldodhakaaVm2
import Derived.ChangeSlices
namespace Go.Vm
variable {P : Program}

theorem likeZ_int {k : IntKind} {z : Int} {zs xs : List Value} (h : likeZ (.int k z :: zs) xs = true) : ∃ n l, xs = .int k n :: l ∧ likeZ zs l = true := by
  match xs, h with
  | .int k' n :: l, h =>
    simp only [likeZ, Bool.and_eq_true, decide_eq_true_eq] at h
    obtain ⟨rfl, h⟩ := h
    exact ⟨n, l, rfl, h⟩
theorem likeZ_bool {b : Bool} {zs xs : List Value} (h : likeZ (.bool b :: zs) xs = true) : ∃ n l, xs = .bool n :: l ∧ likeZ zs l = true := by
  match xs, h with
  | .bool n :: l, h => exact ⟨n, l, rfl, h⟩
theorem likeZ_str {b : ByteArray} {zs xs : List Value} (h : likeZ (.string b :: zs) xs = true) : ∃ n l, xs = .string n :: l ∧ likeZ zs l = true := by
  match xs, h with
  | .string n :: l, h => exact ⟨n, l, rfl, h⟩
theorem likeZ_nil {xs : List Value} (h : likeZ [] xs = true) : xs = [] := by
  match xs, h with
  | [], _ => rfl
theorem lit_wf {k : IntKind} {n : Int} (h : wfB (.int k n) = true) : (Lit.int k n).wf = true := by
  simp only [wfB, Bool.and_eq_true, decide_eq_true_eq] at h
  simp [Lit.wf, h]
theorem str_wf {s : ByteArray} (h : wfB (.string s) = true) : s.size ≤ maxLen := by
  have h1 : s.size ≤ lim := by simpa [wfB] using h
  have h2 : lim ≤ maxLen := by decide
  omega
theorem keyLits_int {t : TypeId} {k : IntKind} {d : Nat} {n : Int} (ht : P.underlying t = some (.int k)) (hw : (Lit.int k n).wf = true) : P.keyLits (d + 1) t [.int k n] = some ([Value.int k n].map litOf) := by
  simp [Program.keyLits, ht, hw, litOf]
theorem keyLits_bool {t : TypeId} {d : Nat} {b : Bool} (ht : P.underlying t = some .bool) : P.keyLits (d + 1) t [.bool b] = some ([Value.bool b].map litOf) := by
  simp [Program.keyLits, ht, litOf]
theorem keyLits_str {t : TypeId} {d : Nat} {s : ByteArray} (ht : P.underlying t = some .string) (hw : s.size ≤ maxLen) : P.keyLits (d + 1) t [.string s] = some ([Value.string s].map litOf) := by
  simp [Program.keyLits, ht, hw, litOf]
theorem keyLits_arr {t e : TypeId} {k : IntKind} {d n : Nat} {xs : List Int} (ht : P.underlying t = some (.array n e)) (he : P.underlying e = some (.int k)) (hs : P.cellsOf t = n) (hse : P.cellsOf e = 1) (hl : xs.length = n) (hw : ∀ x ∈ xs, (Lit.int k x).wf = true) :
    P.keyLits (d + 2) t (xs.map (Value.int k)) = some ((xs.map (Value.int k)).map litOf) := by
  have h1 : (List.range n).mapM (fun i => P.keyLits (d + 1) e (((xs.map (Value.int k)).drop (i * P.cellsOf e)).take (P.cellsOf e))) = some ((List.range n).map fun i => [Lit.int k (xs.getD i 0)]) := by
    refine Go.ChangeShapes.mapM_range_of n fun i hi => ?_
    have hi' : i < xs.length := by omega
    have e1 : ((xs.map (Value.int k)).drop (i * P.cellsOf e)).take (P.cellsOf e) = [Value.int k (xs.getD i 0)] := by
      rw [hse, Nat.mul_one, List.drop_eq_getElem_cons (by simpa using hi')]
      simp [List.getElem?_eq_getElem hi']
    rw [e1]
    have hm : xs.getD i 0 ∈ xs := by simp [List.getElem?_eq_getElem hi']
    exact keyLits_int he (hw _ hm)
  have h2 : ((List.range n).map fun i => [Lit.int k (xs.getD i 0)]).flatten = xs.map (Lit.int k) := by
    subst hl
    have e : ∀ (l : List Nat), (l.map fun i => [Lit.int k (xs.getD i 0)]).flatten = l.map fun i => Lit.int k (xs.getD i 0) := by
      intro l
      induction l with
      | nil => rfl
      | cons a l ih => rw [List.map_cons, List.flatten_cons, ih]; rfl
    rw [e]
    apply List.ext_getElem
    · simp
    · intro i g1 g2
      have hi : i < xs.length := by simpa using g2
      rw [List.getElem_map, List.getElem_range, List.getElem_map]
      simp [List.getElem?_eq_getElem hi]
  unfold Program.keyLits
  simp only [ht]
  have hlen : (xs.map (Value.int k)).length = P.cellsOf t := by simp [hl, hs]
  rw [if_pos hlen]
  have h3 : ((List.range n).mapM fun i => P.keyLits (d + 1) e (((xs.map (Value.int k)).drop (i * P.cellsOf e)).take (P.cellsOf e))).map List.flatten = some (xs.map (Lit.int k)) := by
    rw [h1, Option.map_some, h2]
  rw [List.map_map]
  exact h3
/-- A struct's fields, each read out of its cells. -/
def fldOK (P : Program) (d : Nat) (cs : List Value) : List (TypeId × Nat × Nat) → Prop
  | [] => True
  | q :: l => P.keyLits d q.1 ((cs.drop q.2.1).take q.2.2) = some (((cs.drop q.2.1).take q.2.2).map litOf) ∧ fldOK P d cs l
theorem keyLits_struct {t : TypeId} {F : Array Field} {d : Nat} {cs : List Value} {fls : List (TypeId × Nat × Nat)} (hu : P.underlying t = some (.struct F)) (hlen : (cs.length == P.cellsOf t) = true) (hn : F.all (·.name != "_") = true)
    (hf : (F.toList.map fun f => (f.type, f.offset, P.cellsOf f.type)) = fls) (hc : (fls.map fun q => ((cs.drop q.2.1).take q.2.2).map litOf).flatten = cs.map litOf) (h : fldOK P d cs fls) : P.keyLits (d + 1) t cs = some (cs.map litOf) := by
  have key : ∀ (l : List Field), fldOK P d cs (l.map fun f => (f.type, f.offset, P.cellsOf f.type)) →
      l.mapM (fun f => P.keyLits d f.type ((cs.drop f.offset).take (P.cellsOf f.type))) = some ((l.map fun f => (f.type, f.offset, P.cellsOf f.type)).map fun q => ((cs.drop q.2.1).take q.2.2).map litOf) := by
    intro l
    induction l with
    | nil => intro _; rfl
    | cons f l ih =>
      intro h
      rw [List.mapM_cons, h.1, ih h.2]
      rfl
  unfold Program.keyLits
  have hl : cs.length = P.cellsOf t := by simpa using hlen
  have k1 := key F.toList (by rw [hf]; exact h)
  rw [hf] at k1
  have k2 : (F.toList.mapM fun f => P.keyLits d f.type ((cs.drop f.offset).take (P.cellsOf f.type))).map List.flatten = some (cs.map litOf) := by
    rw [k1, Option.map_some, hc]
  cases cs with
  | nil =>
    simp only [hu]
    rw [if_pos ⟨hl, hn⟩]
    exact k2
  | cons c cs =>
    simp only [hu]
    rw [if_pos ⟨hl, hn⟩]
    exact k2
end Go.Vm
