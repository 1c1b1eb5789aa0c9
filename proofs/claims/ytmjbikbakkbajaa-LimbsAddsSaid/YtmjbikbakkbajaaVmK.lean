/-
  The evaluator's answer for code whose order is the text's. No statement is proved here.
-/
import Derived.Test.YtmjbikbakkbajaaVmZ
namespace Go.Vm
open Go.RowKit (Below)
variable {P : Program}

/-- The frame and memory read as they are told. -/
structure St (B : Nat) (w0 : World) (ab : Nat → Prop) (ρ : Nm) (tm : List V) (m : Mem) (a : Act) (w : World) : Prop where
  inv : Inv B w0 ab ρ m w
  len : tm.length = a.tmps.size
  tms : ∀ t, VR ρ m w (getT tm t) (a.tmps.getD t undef)
  defers : a.defers = []

theorem getT_putT (tm : List V) (d : Option Nat) (v : V) (t : Nat) : getT (putT tm d v) t = if d = some t ∧ t < tm.length then v else getT tm t := by
  cases d with
  | none => simp [putT]
  | some d =>
    unfold putT getT
    simp only [List.getD_eq_getElem?_getD]
    by_cases e : d = t
    · subst e
      by_cases hl : d < tm.length
      · rw [List.getElem?_set_self hl, if_pos ⟨rfl, hl⟩]; rfl
      · rw [if_neg (fun h => hl h.2), List.getElem?_eq_none (by simpa using hl), List.getElem?_eq_none (by omega)]
    · rw [List.getElem?_set_ne e, if_neg (fun h => e (Option.some.inj h.1))]
theorem getD_put (a : Act) (d : Option Nat) (v : Value) (t : Nat) : (a.put d v).tmps.getD t undef = if d = some t ∧ t < a.tmps.size then v else a.tmps.getD t undef := by
  cases d with
  | none => simp [Act.put]
  | some d =>
    simp only [Act.put, Array.getD_eq_getD_getElem?]
    by_cases e : d = t
    · subst e
      by_cases hl : d < a.tmps.size
      · rw [Array.getElem?_setIfInBounds_self_of_lt hl, if_pos ⟨rfl, hl⟩]; rfl
      · rw [if_neg (fun h => hl h.2), Array.getElem?_eq_none (by simpa using hl), Array.getElem?_eq_none (by omega)]
    · rw [Array.getElem?_setIfInBounds_ne e, if_neg (fun h => e (Option.some.inj h.1))]
theorem length_putT (tm : List V) (d : Option Nat) (v : V) : (putT tm d v).length = tm.length := by cases d <;> simp [putT]
theorem size_put (a : Act) (d : Option Nat) (v : Value) : (a.put d v).tmps.size = a.tmps.size := by cases d <;> simp [Act.put]
theorem defers_put (a : Act) (d : Option Nat) (v : Value) : (a.put d v).defers = a.defers := by cases d <;> rfl

section
variable {E : Env} {B : Nat} {w0 : World} {ab : Nat → Prop} {ρ : Nm} {tm : List V} {m : Mem} {a : Act} {w : World} {r : List (Own × D)}

theorem St.put {ρ' : Nm} {m' : Mem} {w' : World} {v : V} {rv : Value} (h : St B w0 ab ρ tm m a w) (hI : Inv B w0 ab ρ' m' w') (hk : Keeps ρ m w ρ' m' w') (hv : VR ρ' m' w' v rv) (d : Option Nat) :
    St B w0 ab ρ' (putT tm d v) m' (a.put d rv) w' := by
  refine ⟨hI, by rw [length_putT, size_put, h.len], fun t => ?_, by rw [defers_put, h.defers]⟩
  rw [getT_putT, getD_put, h.len]
  split
  · exact hv
  · exact hk _ _ (h.tms t)
theorem St.opnd (h : St B w0 ab ρ tm m a w) (x : Operand) : VR ρ m w (opnd tm x) (a.eval x) := by
  cases x with
  | tmp t => exact h.tms t
  | const v => exact vr_const v
  | global g => trivial
  | func f => trivial
theorem St.touch (h : St B w0 ab ρ tm m a w) (ns : List Nat) : Touch ρ m w ns := fun n _ s b hb => ⟨h.inv.blk n s b hb, fun hs => by subst hs; exact (h.inv.mine n b hb).1⟩
theorem set_same {α : Type} (l : List α) (t : Nat) (v d : α) (h : l.getD t d = v) : l.set t v = l := by
  by_cases hl : t < l.length
  · apply List.ext_getElem
    · simp
    · intro i h1 h2
      by_cases e : t = i
      · subst e
        simp only [List.getElem_set_self]
        rw [← h, List.getD_eq_getElem?_getD, List.getElem?_eq_getElem hl]
        rfl
      · rw [List.getElem_set_ne e]
  · exact List.set_eq_of_length_le (by omega)

/-- What an operation owes, with what holds of memory. -/
def OwesI (P : Program) (B : Nat) (w0 : World) (ab : Nat → Prop) (ρ : Nm) (m : Mem) (w : World) (o : Oper) (a : Act) (κ : V → Mem → R) (r : List (Own × D)) : Prop :=
  ∃ v m', κ v m' = some r ∧ Does P o a w fun rv w' => ∃ ρ', Inv B w0 ab ρ' m' w' ∧ Keeps ρ m w ρ' m' w' ∧ VR ρ' m' w' v rv

theorem copy_two {ts : List TypeId} {x y : V} {κ : V → Mem → R} (h : builtinK E .copy ts m [x, y] κ = some r) : ∃ t tx, ts = [t, tx] := by
  match ts with
  | [t, tx] => exact ⟨t, tx, rfl⟩
  | [] => cases x with
    | t l => simp [builtinK] at h
    | o v => cases v <;> simp [builtinK] at h
  | [_] => cases x with
    | t l => simp [builtinK] at h
    | o v => cases v <;> simp [builtinK] at h
  | _ :: _ :: _ :: _ => cases x with
    | t l => simp [builtinK] at h
    | o v => cases v <;> simp [builtinK] at h

theorem op_more (hE : EnvOK P E) (hS : St B w0 ab ρ tm m a w) (o : Oper) (hw : writesMore o.op = true) {κ : V → Mem → R} (h : opK E tm m o.op κ = some r) : OwesI P B w0 ab ρ m w o a κ r := by
  obtain ⟨dst, op, ty, pos, after, guard⟩ := o
  dsimp only at *
  cases op
  case call c =>
    obtain ⟨callee, args, ts⟩ := c
    cases callee
    case builtin b =>
      cases b
      case append =>
        simp only [opK] at h
        obtain ⟨l⟩ := args
        obtain ⟨lt⟩ := ts
        match l, lt, h with
        | [s, x], [t, tx], h =>
          simp only [List.map_cons, List.map_nil] at h
          obtain ⟨v, m', h1, h2⟩ := append_owes (dst := dst) (ty := ty) (pos := pos) (after := after) (guard := guard) hE hS.inv s x t tx (hS.opnd s) (hS.opnd x) (hS.touch _) h
          exact ⟨v, m', h1, h2⟩
        | [s, x], [], h => simp [builtinK] at h
        | [s, x], [_], h => simp [builtinK] at h
        | [s, x], _ :: _ :: _ :: _, h => simp [builtinK] at h
        | [], _, h => simp [builtinK] at h
        | [_], _, h => simp [builtinK] at h
        | _ :: _ :: _ :: _, _, h => simp [builtinK] at h
      case copy =>
        simp only [opK] at h
        obtain ⟨l⟩ := args
        obtain ⟨lt⟩ := ts
        match l, lt, h with
        | [s, x], [t, tx], h =>
          simp only [List.map_cons, List.map_nil] at h
          obtain ⟨v, m', h1, h2⟩ := copy_owes (dst := dst) (ty := ty) (pos := pos) (after := after) (guard := guard) hE hS.inv s x t tx (hS.opnd s) (hS.opnd x) (hS.touch _) h
          exact ⟨v, m', h1, h2⟩
        | [s, x], [], h => obtain ⟨_, _, e⟩ := copy_two h; cases e
        | [s, x], [_], h => obtain ⟨_, _, e⟩ := copy_two h; cases e
        | [s, x], _ :: _ :: _ :: _, h => obtain ⟨_, _, e⟩ := copy_two h; cases e
        | [], _, h => simp [builtinK] at h
        | [_], _, h => simp [builtinK] at h
        | _ :: _ :: _ :: _, _, h => simp [builtinK] at h
      all_goals (cases hw)
    all_goals (cases hw)
  all_goals (cases hw)

theorem op_any (hE : EnvOK P E) (hS : St B w0 ab ρ tm m a w) (o : Oper) {κ : V → Mem → R} (h : opK E tm m o.op κ = some r) : OwesI P B w0 ab ρ m w o a κ r := by
  cases hw : writesMore o.op with
  | true => exact op_more hE hS o hw h
  | false =>
    obtain ⟨v, m', h1, h2⟩ := op_owes hE o hw (fun x _ => hS.opnd x) (hS.touch _) h
    exact ⟨v, m', h1, h2.mono fun rv w' ⟨ρ', he⟩ => ⟨ρ', hS.inv.eff he⟩⟩

/-- A block of the call's own is no longer to be written. -/
theorem Inv.lend1 {i : Nat} {b : Blk} (hI : Inv B w0 ab ρ m w) (hm : m[i]? = some (.mine, b)) : Inv B w0 ab ρ (m.set i (.new, b)) w ∧ StLe m (m.set i (.new, b)) := by
  have hi : i < m.length := (List.getElem?_eq_some_iff.1 hm).1
  have get : ∀ {j : Nat} {p : Own × Blk}, (m.set i (Own.new, b))[j]? = some p → (j = i ∧ p = (.new, b)) ∨ (j ≠ i ∧ m[j]? = some p) := by
    intro j p h
    by_cases e : i = j
    · subst e
      rw [List.getElem?_set_self hi] at h
      exact .inl ⟨rfl, (Option.some.inj h).symm⟩
    · rw [List.getElem?_set_ne e] at h
      exact .inr ⟨fun h => e h.symm, h⟩
  refine ⟨⟨hI.below, hI.ble, ?_, ?_, ?_, ?_, ?_, hI.lt, fun j hj => hI.dom j (by simpa using hj), hI.abB, ?_⟩, StLe.set m i .new b (fun h => by cases h) (fun k n xs e => by subst e; unfold blkN; rw [hm])⟩
  · intro j s b' h
    replace h := get h; rcases h with ⟨rfl, h⟩ | ⟨_, h⟩
    · cases h; exact hI.blk j _ _ hm
    · exact hI.blk j s b' h
  · intro j b' h
    replace h := get h; rcases h with ⟨rfl, h⟩ | ⟨_, h⟩
    · cases h
    · exact hI.mine j b' h
  · intro j b1 j' s b' c o o' h h' hd hc hc'
    replace h := get h; rcases h with ⟨rfl, h⟩ | ⟨_, h⟩
    · cases h
    · replace h' := get h'; rcases h' with ⟨rfl, h'⟩ | ⟨_, h'⟩
      · cases h'; exact hI.apart j b1 j' _ _ c o o' h hm hd hc hc'
      · exact hI.apart j b1 j' s b' c o o' h h' hd hc hc'
  · intro j b' h c o hc
    replace h := get h; rcases h with ⟨rfl, h⟩ | ⟨_, h⟩
    · exact (hI.mine j b hm).2 c o hc
    · exact hI.new j b' h c o hc
  · intro j b' h c o hc
    replace h := get h; rcases h with ⟨rfl, h⟩ | ⟨_, h⟩
    · cases h
    · exact hI.old j b' h c o hc
  · intro j b' h
    replace h := get h; rcases h with ⟨rfl, h⟩ | ⟨_, h⟩
    · cases h
    · exact hI.live j b' h
theorem St.lend1 {i : Nat} {b : Blk} (h : St B w0 ab ρ tm m a w) (hm : m[i]? = some (.mine, b)) : St B w0 ab ρ tm (m.set i (.new, b)) a w := by
  obtain ⟨g1, g2⟩ := h.inv.lend1 hm
  exact ⟨g1, h.len, fun t => (h.tms t).mono (fun _ _ _ _ h => ⟨h, rfl⟩) g2, h.defers⟩
theorem St.lendTo : ∀ (l : List V) {m : Mem}, St B w0 ab ρ tm m a w → St B w0 ab ρ tm (lendTo m l) a w
  | [], _, h => h
  | v :: l, m, h => by
    unfold Vm.lendTo
    refine St.lendTo l ?_
    split
    · split
      · rename_i hm; exact h.lend1 hm
      · exact h
    · exact h
theorem St.lend (h : St B w0 ab ρ tm m a w) (o : Op) : St B w0 ab ρ tm (lendK E tm m o) a w := by
  unfold lendK
  split
  · rename_i f args _
    cases E.give f
    · exact h
    · exact h.lendTo _
  · exact h

theorem yielded_of {all : Array Oper} {j d : Nat} {b : Bool} (hd : (all[j]?).bind (·.dst) = some d) (hS : St B w0 ab ρ tm m a w) (hb : getT tm d = .o (.p (.bool b))) : yielded all a.tmps j = some b := by
  have h := hS.tms d
  rw [hb] at h
  have h1 : a.tmps.getD d undef = .bool b := h.1
  have h2 : a.tmps[d]? = some (.bool b) := by
    cases hq : a.tmps[d]? with
    | none => rw [Array.getD_eq_getD_getElem?, hq] at h1; cases h1
    | some v => rw [Array.getD_eq_getD_getElem?, hq] at h1; simp at h1; rw [h1]
  simp [yielded, hd, h2]

theorem yielded_no {all : Array Oper} {j d : Nat} (hd : (all[j]?).bind (·.dst) = some d) (hS : St B w0 ab ρ tm m a w) (hb : getT tm d = .t []) : yielded all a.tmps j = none := by
  have h := hS.tms d
  rw [hb] at h
  obtain ⟨rs, h1, h2⟩ := h
  have h2 : a.tmps[d]? = some (.tuple rs.toArray) ∨ a.tmps[d]? = none := by
    cases hq : a.tmps[d]? with
    | none => exact .inr rfl
    | some v => rw [Array.getD_eq_getD_getElem?, hq] at h1; simp at h1; rw [h1]; exact .inl rfl
  rcases h2 with h2 | h2 <;> simp [yielded, hd, h2]

theorem seq_ops (hE : EnvOK P E) (all : Array Oper) (Q : Exit → Act → World → Prop) {κ : List V → Mem → R} (hκ : ∀ ρ tm m a w, St B w0 ab ρ tm m a w → κ tm m = some r → Q .normal a w) :
    ∀ (rest : List Oper) (i : Nat) (acc : Foots) (ρ : Nm) (tm : List V) (m : Mem) (a : Act) (w : World), St B w0 ab ρ tm m a w → evOps E all none rest i acc tm m κ = some r → wpList P all Q rest a w
  | [], _, _, ρ, tm, m, a, w, hS, h => hκ ρ tm m a w hS h
  | o :: rest, i, acc, ρ, tm, m, a, w, hS, h => by
    have go : ∀ (h : opK E tm (lendK E tm m o.op) o.op (fun v m => evOps E all none rest (i + 1) acc (putT tm o.dst v) m κ) = some r) (K : Act → World → Prop), (∀ a w, wpList P all Q rest a w → K a w) → o.wp P a w K Q := by
      intro h K hK
      have hS' := hS.lend (E := E) o.op
      obtain ⟨v, m', h1, h2⟩ := op_any hE hS' o h
      exact h2 K Q fun rv w' ⟨ρ', g1, g2, g3⟩ => hK _ _ (seq_ops hE all Q hκ rest (i + 1) acc ρ' _ m' _ w' (hS'.put g1 g2 g3 o.dst) h1)
    have pass : ∀ (h : evOps E all none rest (i + 1) acc (putT tm o.dst (.t [])) m κ = some r), wpList P all Q rest (a.put o.dst undef) w := fun h =>
      seq_ops hE all Q hκ rest (i + 1) acc ρ _ m _ w (hS.put (v := .t []) (rv := undef) hS.inv (fun _ _ h => h) ⟨[], rfl, trivial⟩ o.dst) h
    unfold evOps at h
    cases hg : o.guard with
    | none =>
      rw [hg] at h
      exact wpList_plain hg (go h)
    | some q =>
      obtain ⟨j, want⟩ := q
      rw [hg] at h
      simp only at h
      split at h
      case h_2 => cases h
      rename_i d hd
      split at h
      case h_3 => cases h
      case h_2 =>
        rename_i hb
        have hy := yielded_no hd hS hb
        refine wpList_step fun K hK => ?_
        rw [if_neg (by cases want <;> simp [Region.wanted, hg, hy])]
        exact hK _ _ (pass h)
      rename_i b hb
      have hy := yielded_of hd hS hb
      refine wpList_step fun K hK => ?_
      rcases cond_some h with ⟨rfl, h⟩ | ⟨rfl, h⟩
      · rw [set_same tm d _ (.o .u) hb] at h
        cases want
        · rw [if_neg (by simp [Region.wanted, hg, hy])]
          exact hK _ _ (pass h)
        · rw [if_pos (by simp [Region.wanted, hg, hy])]
          exact go h K hK
      · rw [set_same tm d _ (.o .u) hb] at h
        cases want
        · rw [if_pos (by simp [Region.wanted, hg, hy])]
          exact go h K hK
        · rw [if_neg (by simp [Region.wanted, hg, hy])]
          exact hK _ _ (pass h)
end
end Go.Vm
