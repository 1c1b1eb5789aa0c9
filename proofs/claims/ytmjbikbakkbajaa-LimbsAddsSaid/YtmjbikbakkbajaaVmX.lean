/-
  '==' of arrays of whole numbers and of plain structs. No statement is proved here.
-/
import Derived.Test.YtmjbikbakkbajaaVmB
import Derived.DeepKeys
namespace Go.Vm
variable {P : Program}

theorem all_range_int : ∀ (xs ys : List Int), xs.length = ys.length → ((List.range xs.length).all fun i => xs.getD i 0 == ys.getD i 0) = decide (xs = ys)
  | [], [], _ => rfl
  | x :: xs, y :: ys, h => by
    have ih := all_range_int xs ys (by simpa using h)
    rw [List.length_cons, List.range_succ_eq_map, List.all_cons, List.all_map]
    simp only [List.getD_cons_zero, Function.comp_def, List.getD_cons_succ, ih]
    by_cases e : x = y <;> simp [e]
  | [], _ :: _, h => by simp at h
  | _ :: _, [], h => by simp at h

theorem eqOK_arr {t e : TypeId} {n : Nat} {k : IntKind} (hg : P.eqGuardType P.depth t = false) (ht : P.underlying t = some (.array n e)) (he : P.underlying e = some (.int k)) (hs : (P.info? e).map (·.size) = some 1) : EqOK P t (.arr n k) := by
  refine ⟨hg, fun w xs ys hx hy => ?_⟩
  have hsz : ∀ w, (sizeOf e).run P w = .ok 1 w := by
    intro w
    cases hq : P.info? e with
    | none => simp [hq] at hs
    | some i =>
      have : i.size = 1 := by simpa [hq] using hs
      simp [sizeOf, typeInfo, hq, this]
  rw [← all_range_int xs ys (hx.trans hy.symm), hx, List.range_eq_range', Op.equalIn]
  simp only [Sem.run_bind, run_underlying ht, Result.andThen_ok, hsz, Std.Legacy.Range.forIn_eq_forIn_range', Std.Legacy.Range.size, Nat.sub_zero, Nat.add_sub_cancel, Nat.div_one]
  have hl : ∀ i ∈ List.range' 0 n 1, i < n := fun i hi => by simpa using (List.mem_range'_1.1 hi).2
  generalize List.range' 0 n 1 = l at hl ⊢
  induction l with
  | nil => simp
  | cons i l ih =>
    have hi : i < n := hl i (by simp)
    have px : (part e (xs.map (Value.int k)).toArray (i * 1)).run P w = .ok (.int k (xs.getD i 0)) w := by
      simp [part, isAgg, run_underlying he, List.getD, List.getElem?_eq_getElem (show i < xs.length by omega)]
    have py : (part e (ys.map (Value.int k)).toArray (i * 1)).run P w = .ok (.int k (ys.getD i 0)) w := by
      simp [part, isAgg, run_underlying he, List.getD, List.getElem?_eq_getElem (show i < ys.length by omega)]
    have pe : (Op.equalIn 9999 e (.int k (xs.getD i 0)) (.int k (ys.getD i 0))).run P w = .ok (xs.getD i 0 == ys.getD i 0) w :=
      run_equalIn_int w 9998 e k k _ _ he
    simp only [List.forIn_cons, Sem.run_bind, px, py, pe, Result.andThen_ok, List.all_cons]
    cases hb : (xs.getD i 0 == ys.getD i 0)
    · simp
    · simp only [Bool.not_true, Bool.false_eq_true, if_false, Sem.run_pure, Result.andThen_ok, Bool.true_and]
      exact ih fun j hj => hl j (by simp [hj])

def litOf : Value → Lit
  | .int k n => .int k n
  | .bool b => .bool b
  | .string s => .string s.data.toList
  | _ => .bool false
theorem eqCells_lits : ∀ (zs xs ys : List Value) (b : Bool), likeZ zs xs = true → likeZ zs ys = true → eqCells xs ys = some b → (b = true ↔ xs.map litOf = ys.map litOf)
  | [], [], [], b, _, _, h => by cases h; simp
  | z :: zs, x :: xs, y :: ys, b, hx, hy, h => by
    cases z <;> cases x <;> first | (simp [likeZ] at hx; done) | skip
    all_goals cases y <;> first | (simp [likeZ] at hy; done) | skip
    · rename_i c0 c1 c2
      simp only [likeZ] at hx hy
      unfold eqCells at h
      cases hq : eqCells xs ys with
      | none => rw [hq] at h; cases h
      | some q =>
        rw [hq] at h
        simp only [Option.map_some, Option.some.injEq] at h
        have ih := eqCells_lits zs xs ys q hx hy hq
        simp only [List.map_cons, litOf, List.cons.injEq, Lit.bool.injEq, ← ih, ← h]
        cases c1 <;> cases c2 <;> simp
    · rename_i k0 x0 k1 x1 k2 x2
      simp only [likeZ, Bool.and_eq_true, decide_eq_true_eq] at hx hy
      obtain ⟨rfl, hx⟩ := hx
      obtain ⟨rfl, hy⟩ := hy
      unfold eqCells at h
      rw [if_pos rfl] at h
      cases hq : eqCells xs ys with
      | none => rw [hq] at h; cases h
      | some q =>
        rw [hq] at h
        simp only [Option.map_some, Option.some.injEq] at h
        have ih := eqCells_lits zs xs ys q hx hy hq
        simp only [List.map_cons, litOf, List.cons.injEq, Lit.int.injEq, true_and, ← ih, ← h]
        by_cases e : x1 = x2
        · simp [e]
        · simp [e, beq_eq_false_iff_ne.2 e]
    · rename_i c0 c1 c2
      simp only [likeZ] at hx hy
      unfold eqCells at h
      cases hq : eqCells xs ys with
      | none => rw [hq] at h; cases h
      | some q =>
        rw [hq] at h
        simp only [Option.map_some, Option.some.injEq] at h
        have ih := eqCells_lits zs xs ys q hx hy hq
        simp only [List.map_cons, litOf, List.cons.injEq, Lit.string.injEq, ← ih, ← h]
        obtain ⟨⟨l1⟩⟩ := c1
        obtain ⟨⟨l2⟩⟩ := c2
        have : ((⟨⟨l1⟩⟩ : ByteArray) == ⟨⟨l2⟩⟩) = (l1 == l2) := by
          show ((⟨l1⟩ : Array UInt8) == ⟨l2⟩) = (l1 == l2)
          simp
        rw [this]
        by_cases e : l1 = l2
        · simp [e]
        · simp [e, beq_eq_false_iff_ne.2 e]
  | [], _ :: _, _, _, hx, _, _ => by simp [likeZ] at hx
  | [], [], _ :: _, _, _, hy, _ => by simp [likeZ] at hy
  | z :: _, [], _, _, hx, _, _ => by cases z <;> simp [likeZ] at hx
  | z :: _, _ :: _, [], _, _, hy, _ => by cases z <;> simp [likeZ] at hy

theorem eqOK_st {t : TypeId} {zs : List Value} {fs : List (Nat × TypeId)} {m D : Nat} (hg : P.eqGuardType P.depth t = false) (hk : P.keyTypeAt m t = true) (hm : m ≤ 10000)
    (hl : ∀ xs, wfL xs → likeZ zs xs = true → (Value.agg xs.toArray).formed P t = true ∧ P.keyLits D t xs = some (xs.map litOf)) : EqOK P t (.st zs fs) := by
  refine ⟨hg, fun w xs ys b hwx hwy hx hy hb => ?_⟩
  obtain ⟨fx, kx⟩ := hl xs hwx hx
  obtain ⟨fy, ky⟩ := hl ys hwy hy
  obtain ⟨r, h1, h2⟩ := run_equalIn_deep (10000 - m) m t hk w D D (.agg xs.toArray) (.agg ys.toArray) _ _ fx fy (by simpa [Value.cells] using kx) (by simpa [Value.cells] using ky)
  rw [show 10000 - m + m = 10000 from by omega] at h1
  rw [h1]
  have : r = b := by
    have h3 := eqCells_lits zs xs ys b hx hy hb
    rw [Bool.eq_iff_iff, h2, h3]
  rw [this]
end Go.Vm
