/-
  What one operation of the evaluator does on the machine: the operations that make, read and write memory. No statement is proved here.
-/
import Derived.Test.YtmjbikbakkbajaaVmC
namespace Go.Vm
open Go.RowKit (Below)
variable {P : Program}

def Blk.inn (cs : Array Value) : Blk → Prop
  | .w k n xs => xs.length = n ∧ n ≤ lim ∧ inR k xs ∧ ∀ (j : Nat) (v : Value), (xs.map (Value.int k))[j]? = some v → cs[j]? = some v
  | .c vs => wfL vs ∧ ∀ (j : Nat) (v : Value), vs[j]? = some v → cs[j]? = some v
  | .dead => False
def nameNew (ρ : Nm) (m : Mem) (w : World) : Nm := fun n => if n = m.length then some (w.heap.size, 0) else ρ n

theorem heap_alloc_at (w : World) (o : Obj) : (w.alloc o).heap[w.heap.size]? = some o := by
  show (w.heap.push o)[w.heap.size]? = _
  simp
theorem bsize_alloc (w : World) (cs : Array Value) (e : TypeId) : bsize (w.alloc (.cells cs e)) w.heap.size = cs.size := by
  unfold bsize
  rw [heap_alloc_at]
theorem rangeAt_alloc (w : World) (cs : Array Value) (e : TypeId) (vs : List Value) (h : ∀ (j : Nat) (v : Value), vs[j]? = some v → cs[j]? = some v) : (w.alloc (.cells cs e)).rangeAt w.heap.size 0 vs := by
  intro j v hv
  unfold World.cell?
  rw [heap_alloc_at]
  simpa using h j v hv

theorem eff_new {ρ : Nm} {m : Mem} {w : World} {fr : List Nat × List Nat} (cs : Array Value) (e : TypeId) (blk : Blk) (v : V) (rv : Value) (hb : blk.inn cs)
    (hv : VR (nameNew ρ m w) (m ++ [(.mine, blk)]) (w.alloc (.cells cs e)) v rv) :
    Eff ρ m w fr v (m ++ [(.mine, blk)]) rv (w.alloc (.cells cs e)) (nameNew ρ m w) := by
  have one : ∀ {j : Nat} {p : Own × Blk}, ([(Own.mine, blk)] : Mem)[j]? = some p → j = 0 ∧ p = (.mine, blk) := by
    intro j p h
    cases j with
    | zero => simp at h; exact ⟨rfl, h.symm⟩
    | succ j => simp at h
  have hn : nameNew ρ m w m.length = some (w.heap.size, 0) := if_pos rfl
  refine Eff.ext _ _ _ _ _ ((Below.refl _ _).alloc (Nat.le_refl _) _) (fun n hn => ?_) ⟨?_, ?_, ?_, ?_, ?_, ?_, ?_⟩ hv
  · unfold nameNew
    rw [if_neg (by simp at hn; omega)]
  · intro j s b h
    obtain ⟨rfl, h⟩ := one h
    cases h
    cases blk with
    | w k n xs => exact ⟨hb.1, hb.2.1, hb.2.2.1, .inr ⟨_, _, hn, rangeAt_alloc w cs e _ hb.2.2.2⟩⟩
    | c vs => exact ⟨hb.1, .inr ⟨_, _, hn, rangeAt_alloc w cs e _ hb.2⟩⟩
    | dead => exact hb.elim
  · intro j b h
    obtain ⟨rfl, _⟩ := one h
    refine ⟨?_, ?_⟩ <;> intro c o hc <;> (rw [Nat.add_zero, hn] at hc; cases hc)
    · exact ⟨rfl, _, _, heap_alloc_at w _⟩
    · exact Nat.le_refl _
  · intro j b j' c o o' h h' _ _
    obtain ⟨rfl, _⟩ := one h
    simp at h'
    omega
  · intro j b h
    obtain ⟨_, h⟩ := one h
    cases h
  · intro j b h
    obtain ⟨_, h⟩ := one h
    cases h
  · intro j s b h
    obtain ⟨_, h⟩ := one h
    cases h
    rintro rfl
    exact hb
  · intro j c o h hc
    have : j = 0 := by simp at h; omega
    subst this
    rw [Nat.add_zero, hn] at hc
    cases hc
    simp

theorem vr_new {ρ : Nm} {m : Mem} {w : World} (cs : Array Value) (e : TypeId) (blk : Blk) : VR (nameNew ρ m w) (m ++ [(.mine, blk)]) (w.alloc (.cells cs e)) (.o (.a m.length 0)) (.pointer (some ⟨w.heap.size, 0, none⟩)) :=
  ⟨by simp, w.heap.size, 0, if_pos rfl, rfl⟩
theorem slr_new {ρ : Nm} {m : Mem} {w : World} (cs : Array Value) (e : TypeId) (blk : Blk) (n cap : Nat) (h1 : n ≤ cap) (h2 : cap ≤ cs.size) (h3 : n ≤ lim) :
    SlR (nameNew ρ m w) (m ++ [(.mine, blk)]) (w.alloc (.cells cs e)) m.length 0 n (.slice (some ⟨w.heap.size, 0, none⟩) n cap) :=
  ⟨by simp, _, _, rfl, h1, h3, .inr ⟨_, _, if_pos rfl, rfl⟩, fun _ => .inr ⟨_, if_pos rfl, rfl, by rw [bsize_alloc]; omega⟩⟩
theorem vr_news {ρ : Nm} {m : Mem} {w : World} (cs : Array Value) (e : TypeId) (k : IntKind) (n cap : Nat) (xs : List Int) (h1 : n ≤ cap) (h2 : cap ≤ cs.size) (h3 : n ≤ lim) :
    VR (nameNew ρ m w) (m ++ [(.mine, .w k n xs)]) (w.alloc (.cells cs e)) (.o (.f m.length)) (.slice (some ⟨w.heap.size, 0, none⟩) n cap) :=
  ⟨by simp, fun n' hn => by
    have : n' = n := by simp [blkN] at hn; exact hn.symm
    subst this
    exact slr_new cs e _ n' cap h1 h2 h3⟩

theorem inR_zero (n : Nat) (k : IntKind) : inR k (List.replicate n 0) := by
  intro x hx
  obtain ⟨_, rfl⟩ := List.mem_replicate.1 hx
  cases k <;> decide
theorem wfL_of_all {vs : List Value} (h : vs.all wfB = true) : wfL vs := fun v hv => List.all_eq_true.1 h v hv

/-- A value's own block. -/
theorem blkOf_inn {ρ : Nm} {m : Mem} {w : World} {v : V0} {rv : Value} {b : Blk} (h : blkOf v = some b) (hv : VR0 ρ m w v rv) : b.inn rv.cells := by
  cases v with
  | p v =>
    obtain ⟨rfl, hw⟩ := hv
    cases h
    have hc : rv.cells = #[rv] := by cases rv <;> first | rfl | cases hw
    refine ⟨fun x hx => by simp at hx; subst hx; exact hw, fun j v hj => ?_⟩
    rw [hc]
    simpa using hj
  | r k n xs =>
    obtain ⟨rfl, h1, h2, h3⟩ := hv
    cases h
    exact ⟨h1, h2, h3, fun j v hj => by simpa [Value.cells] using hj⟩
  | g vs =>
    obtain ⟨rfl, h1⟩ := hv
    cases h
    exact ⟨h1, fun j v hj => by simpa [Value.cells] using hj⟩
  | _ => cases h

section ops
variable {E : Env} {ρ : Nm} {m : Mem} {w : World} {a : Act} {tm : List V} {κ : V → Mem → R} {r : List (Own × D)} {fr : List Nat × List Nat} {dst : Option Tmp} {ty : TypeId} {pos : String} {after : Array Edge} {guard : Option (Nat × Bool)}

theorem zero_vr (hE : EnvOK P E) {t : TypeId} {td : Ty} {v : V0} (ht : E.ty t = some td) (hz : td.zero = some v) : VR0 ρ m w v td.real := by
  have h := hE.ty _ _ ht
  cases td with
  | i k => cases hz; exact ⟨rfl, by cases k <;> decide⟩
  | b => cases hz; exact ⟨rfl, rfl⟩
  | str => cases hz; exact ⟨rfl, rfl⟩
  | arr n k => cases hz; exact ⟨rfl, by simp, h.2.2.1, inR_zero n k⟩
  | st zs fs => cases hz; exact ⟨rfl, wfL_of_all h.2.2.2⟩
  | sl e => cases hz; exact ⟨none, rfl⟩

theorem op_alloc (hE : EnvOK P E) (t : TypeId) (h : opK E tm m (.alloc t) κ = some r) : Owes P ρ m ⟨dst, .alloc t, ty, pos, after, guard⟩ a w fr κ r := by
  simp only [opK] at h
  split at h
  · rename_i v hv
    split at h
    · rename_i b hb
      cases ht : E.ty t with
      | none => rw [ht] at hv; cases hv
      | some td =>
        rw [ht] at hv
        have hz := (hE.ty _ _ ht).2.1
        have hi := blkOf_inn hb (zero_vr (ρ := ρ) (m := m) (w := w) hE ht hv)
        refine ⟨_, _, h, does_value (w' := w.alloc (.cells td.real.cells t)) (rv := .pointer (some ⟨w.heap.size, 0, none⟩)) ?_ ⟨_, eff_new _ t b _ _ hi (vr_new _ t b)⟩⟩
        simp [execOp, Instr.alloc, run_zero' w hz, newVar, newRow]
    · cases h
  · cases h

theorem op_box (t : TypeId) (x : Operand) (hx : VR ρ m w (opnd tm x) (a.eval x)) (h : opK E tm m (.box t x) κ = some r) : Owes P ρ m ⟨dst, .box t x, ty, pos, after, guard⟩ a w fr κ r := by
  simp only [opK] at h
  split at h
  · rename_i td v ht hv
    split at h
    · rename_i b hb
      obtain ⟨_, h⟩ := cond_none h
      rw [hv] at hx
      have hi := blkOf_inn hb hx
      refine ⟨_, _, h, does_value (w' := w.alloc (.cells (a.eval x).cells t)) (rv := .pointer (some ⟨w.heap.size, 0, none⟩)) ?_ ⟨_, eff_new _ t b _ _ hi (vr_new _ t b)⟩⟩
      simp [execOp, Instr.box, newVar, newRow]
    · cases h
  · cases h

theorem op_fieldAddr (hE : EnvOK P E) (t : TypeId) (x : Operand) (f : Nat) (hx : VR ρ m w (opnd tm x) (a.eval x)) (h : opK E tm m (.fieldAddr t x f) κ = some r) : Owes P ρ m ⟨dst, .fieldAddr t x f, ty, pos, after, guard⟩ a w fr κ r := by
  simp only [opK] at h
  split at h
  · rename_i zs fs i k ht hv
    split at h
    · rename_i off ft hf
      split at h
      case h_2 => cases h
      rename_i fd' hfd
      obtain ⟨hz, h⟩ := cond_none' h
      have hz := of_decide_eq_false hz
      have hsz := run_sizeOf' w (hE.ty _ _ hfd).1
      rw [hv] at hx
      obtain ⟨hi, b, o, h1, h2⟩ := hx
      have hs := (hE.ty _ _ ht).2.2.1
      unfold structOf at hs
      split at hs
      · rename_i F hF
        injection hs with hs
        subst hs
        obtain ⟨fd, h3, h4, h5⟩ : ∃ fd, F[f]? = some fd ∧ fd.offset = off ∧ fd.type = ft := by
          rw [List.getElem?_map, Array.getElem?_toList] at hf
          cases hq : F[f]? with
          | none => rw [hq] at hf; cases hf
          | some fd => rw [hq] at hf; cases hf; exact ⟨fd, rfl, rfl, rfl⟩
        refine owes_pure (v := .o (.a i (k + off))) (rv := .pointer (some ⟨b, o + (k + off), none⟩)) h ?_ ⟨hi, b, o, h1, by simp⟩
        simp [execOp, h2, Instr.fieldAt, run_underlying hF, h3, Instr.sureAddr, fieldPlace, h4, h5, hsz, hz, Addr.add_mid, Nat.add_assoc]
      · cases hs
    · cases h
  · cases h
end ops
end Go.Vm
