/-
  One operation, whichever; what holds of memory from operation to operation. No statement is proved here.
-/
import Derived.Test.YtmjbikbakkbajaaVmI
namespace Go.Vm
open Go.RowKit (Below)
variable {P : Program}

section
variable {E : Env} {ρ : Nm} {m : Mem} {w : World} {a : Act} {tm : List V} {κ : V → Mem → R} {r : List (Own × D)}
theorem op_owes (hE : EnvOK P E) (o : Oper) (hw : writesMore o.op = false) (hx : ∀ x ∈ o.op.operands, VR ρ m w (opnd tm x) (a.eval x)) (hb : Touch ρ m w ((foot tm o.op).1 ++ (foot tm o.op).2))
    (h : opK E tm m o.op κ = some r) : Owes P ρ m o a w (foot tm o.op) κ r := by
  obtain ⟨dst, op, ty, pos, after, guard⟩ := o
  dsimp only at *
  cases op
  case move x => exact op_move x (hx _ (by simp [Op.operands])) h
  case assign x => exact op_assign x (hx _ (by simp [Op.operands])) h
  case pick c x y => exact op_pick c x y (hx _ (by simp [Op.operands])) (hx _ (by simp [Op.operands])) (hx _ (by simp [Op.operands])) h
  case alloc t => exact op_alloc hE t h
  case box t x => exact op_box t x (hx _ (by simp [Op.operands])) h
  case build t ps => exact op_build hE t ps (fun q hq => hx _ (by simp only [Op.operands]; simpa using ⟨q.1, by simpa using hq⟩)) h
  case buildSlice t n ps => exact op_buildSlice hE t n ps (fun q hq => hx _ (by simp only [Op.operands]; simpa using ⟨q.1, by simpa using hq⟩)) h
  case load t x => exact op_load hE t x (hx _ (by simp [Op.operands])) (by simpa [foot] using hb) h
  case store t x y => exact op_store hE t x y (by simp [foot]) (hx _ (by simp [Op.operands])) (hx _ (by simp [Op.operands])) (by simpa [foot] using hb) h
  case binOp op t x y yt => exact op_bin hE op t yt x y (hx _ (by simp [Op.operands])) (hx _ (by simp [Op.operands])) h
  case unOp op t x =>
    cases op
    case not => exact op_not t x (hx _ (by simp [Op.operands])) h
    case neg => exact op_neg t x (hx _ (by simp [Op.operands])) h
    all_goals (simp [opK] at h)
  case convert s t x => exact op_convert hE s t x (hx _ (by simp [Op.operands])) h
  case makeSlice t x y => exact op_makeSlice hE t x y (hx _ (by simp [Op.operands])) (hx _ (by simp [Op.operands])) h
  case slice t x lo hi mx =>
    cases mx
    · exact op_slice hE t x lo hi (hx _ (by simp [Op.operands])) (fun y hy => hx _ (by simp [Op.operands]; right; left; exact hy)) (fun y hy => hx _ (by simp [Op.operands]; right; right; exact hy)) (by simpa [foot] using hb) h
    · exact op_slice3 hE t x _ lo hi (hx _ (by simp [Op.operands])) (fun y hy => hx _ (by simp [Op.operands]; right; right; left; exact hy)) (hx _ (by simp [Op.operands])) h
  case fieldAddr t x f => exact op_fieldAddr hE t x f (hx _ (by simp [Op.operands])) h
  case field t x f => exact op_field hE t x f (hx _ (by simp [Op.operands])) h
  case indexAddr t x y => exact op_indexAddr hE t x y (hx _ (by simp [Op.operands])) (hx _ (by simp [Op.operands])) h
  case index t x y => exact op_index hE t x y (hx _ (by simp [Op.operands])) (hx _ (by simp [Op.operands])) h
  case extract x i => exact op_extract x i (hx _ (by simp [Op.operands])) h
  case call c =>
    obtain ⟨callee, args, ts⟩ := c
    cases callee
    case value x =>
      cases x
      case func f => exact op_call hE f args ts (fun y hy => hx _ (by simp only [Op.operands, Call.operands]; simp at hy ⊢; exact .inr hy)) (by simpa [foot] using hb) h
      all_goals (simp [opK] at h)
    case builtin b =>
      have hbb : b ≠ .append ∧ b ≠ .copy := by
        constructor <;> (rintro rfl; cases hw)
      exact op_look hE b ts args hbb (fun y hy => hx _ (by simp only [Op.operands, Call.operands]; simpa using hy)) h
    case invoke => simp [opK] at h
  all_goals (simp [opK] at h)
end

/-- What holds of memory: B: where the call's own begins; ab: the blocks that the arguments lead into. -/
structure Inv (B : Nat) (w0 : World) (ab : Nat → Prop) (ρ : Nm) (m : Mem) (w : World) : Prop where
  below : Below B w0 w
  ble : B ≤ w.heap.size
  blk : ∀ i s b, m[i]? = some (s, b) → BlkOK ρ w i b
  mine : ∀ i b, m[i]? = some (.mine, b) → MineOK ρ w i ∧ ∀ c o, ρ i = some (c, o) → B ≤ c
  apart : ∀ i b j s b' c o o', m[i]? = some (.mine, b) → m[j]? = some (s, b') → b' ≠ .dead → ρ i = some (c, o) → ρ j = some (c, o') → i = j
  new : ∀ i b, m[i]? = some (.new, b) → ∀ c o, ρ i = some (c, o) → B ≤ c
  old : ∀ i b, m[i]? = some (.old, b) → ∀ c o, ρ i = some (c, o) → B ≤ c ∨ ab c
  lt : ∀ i c o, ρ i = some (c, o) → c < w.heap.size
  dom : ∀ i, m.length ≤ i → ρ i = none
  abB : ∀ c, ab c → c < B
  live : ∀ (i : Nat) (b : Blk), m[i]? = some (.mine, b) → b ≠ .dead

theorem BlkOK.keep {ρ ρ' : Nm} {w w' : World} {i : Nat} {b : Blk} (hρ : ρ' i = ρ i) (hw : ∀ c o, ρ i = some (c, o) → w'.heap[c]? = w.heap[c]?) (h : BlkOK ρ w i b) : BlkOK ρ' w' i b := by
  have hr : ∀ {c o : Nat} {vs : List Value}, ρ i = some (c, o) → w.rangeAt c o vs → w'.rangeAt c o vs := by
    intro c o vs hc h j v hj
    have := h j v hj
    unfold World.cell? at this ⊢
    rwa [hw c o hc]
  cases b with
  | w k n xs =>
    obtain ⟨h1, h2, h3, h4⟩ := h
    exact ⟨h1, h2, h3, h4.imp id (fun ⟨c, o, hc, h5⟩ => ⟨c, o, by rw [hρ, hc], hr hc h5⟩)⟩
  | c vs =>
    obtain ⟨h1, h4⟩ := h
    exact ⟨h1, h4.imp id (fun ⟨c, o, hc, h5⟩ => ⟨c, o, by rw [hρ, hc], hr hc h5⟩)⟩
  | dead => trivial
theorem MineOK.keep {ρ ρ' : Nm} {w w' : World} {i : Nat} (hρ : ρ' i = ρ i) (hw : ∀ c o, ρ i = some (c, o) → w'.heap[c]? = w.heap[c]?) (h : MineOK ρ w i) : MineOK ρ' w' i := by
  intro c o hc
  rw [hρ] at hc
  obtain ⟨h1, cs, e, h2⟩ := h c o hc
  exact ⟨h1, cs, e, by rw [hw c o hc, h2]⟩

/-- What was told is told still. -/
def Keeps (ρ : Nm) (m : Mem) (w : World) (ρ' : Nm) (m' : Mem) (w' : World) : Prop := ∀ x rx, VR ρ m w x rx → VR ρ' m' w' x rx

theorem Inv.eff {B : Nat} {w0 : World} {ab : Nat → Prop} {ρ ρ' : Nm} {m m' : Mem} {w w' : World} {fr : List Nat × List Nat} {v : V} {rv : Value} (hI : Inv B w0 ab ρ m w) (h : Eff ρ m w fr v m' rv w' ρ') :
    Inv B w0 ab ρ' m' w' ∧ Keeps ρ m w ρ' m' w' ∧ VR ρ' m' w' v rv := by
  cases h with
  | ext nb ρ' v rv w' hB hρ hN hV =>
    have hold : ∀ i, i < m.length → ρ' i = ρ i := fun i hi => hρ i (.inl hi)
    have hheap : ∀ i c o, ρ i = some (c, o) → w'.heap[c]? = w.heap[c]? := fun i c o hc => hB.block c (hI.lt i c o hc)
    have split : ∀ {i : Nat} {p : Own × Blk}, (m ++ nb)[i]? = some p → (i < m.length ∧ m[i]? = some p) ∨ ∃ j, i = m.length + j ∧ nb[j]? = some p := by
      intro i p h
      by_cases hi : i < m.length
      · rw [List.getElem?_append_left hi] at h
        exact .inl ⟨hi, h⟩
      · rw [List.getElem?_append_right (by omega)] at h
        exact .inr ⟨i - m.length, by omega, h⟩
    have nlt : ∀ {j : Nat} {p : Own × Blk}, nb[j]? = some p → j < nb.length := fun h => (List.getElem?_eq_some_iff.1 h).1
    refine ⟨⟨hI.below.trans (hB.mono hI.ble), Nat.le_trans hI.ble hB.size, ?_, ?_, ?_, ?_, ?_, ?_, ?_, hI.abB, ?_⟩, ?_, hV⟩
    · intro i s b h
      replace h := split h; rcases h with ⟨hi, h⟩ | ⟨j, rfl, h⟩
      · exact (hI.blk i s b h).keep (hold i hi) (hheap i)
      · exact hN.blk j s b h
    · intro i b h
      replace h := split h; rcases h with ⟨hi, h⟩ | ⟨j, rfl, h⟩
      · obtain ⟨h1, h2⟩ := hI.mine i b h
        exact ⟨h1.keep (hold i hi) (hheap i), fun c o hc => h2 c o (by rw [← hold i hi, hc])⟩
      · obtain ⟨h1, h2⟩ := hN.mine j b h
        exact ⟨h1, fun c o hc => Nat.le_trans hI.ble (h2 c o hc)⟩
    · intro i b j s b' c o o' h h' hd hc hc'
      replace h := split h; rcases h with ⟨hi, h⟩ | ⟨i', rfl, h⟩
      · rw [hold i hi] at hc
        replace h' := split h'; rcases h' with ⟨hj, h'⟩ | ⟨j', rfl, h'⟩
        · rw [hold j hj] at hc'
          exact hI.apart i b j s b' c o o' h h' hd hc hc'
        · have hlt := hI.lt i c o hc
          exfalso
          cases s with
          | mine => have := (hN.mine j' b' h').2 c o' hc'; omega
          | new => have := hN.new j' b' h' c o' hc'; omega
          | old =>
            rcases hN.old j' b' h' c o' hc' with h1 | ⟨n, _, hn, hnm, o'', h1⟩
            · omega
            · obtain ⟨s2, b2, hmn, hdead⟩ := hn
              have := hI.apart i b n s2 b2 c o o'' h hmn hdead hc h1
              subst this
              exact hnm ⟨b, h⟩
      · have hge := (hN.mine i' b h).2 c o hc
        replace h' := split h'; rcases h' with ⟨hj, h'⟩ | ⟨j', rfl, h'⟩
        · rw [hold j hj] at hc'
          have := hI.lt j c o' hc'
          omega
        · rw [hN.apart i' b j' c o o' h (nlt h') hc hc']
    · intro i b h c o hc
      replace h := split h; rcases h with ⟨hi, h⟩ | ⟨j, rfl, h⟩
      · exact hI.new i b h c o (by rw [← hold i hi, hc])
      · exact Nat.le_trans hI.ble (hN.new j b h c o hc)
    · intro i b h c o hc
      replace h := split h; rcases h with ⟨hi, h⟩ | ⟨j, rfl, h⟩
      · exact hI.old i b h c o (by rw [← hold i hi, hc])
      · rcases hN.old j b h c o hc with h1 | ⟨n, _, hn, hnm, o', h1⟩
        · exact .inl (Nat.le_trans hI.ble h1)
        · obtain ⟨s2, b2, hmn, _⟩ := hn
          cases s2 with
          | mine => exact absurd ⟨b2, hmn⟩ hnm
          | new => exact .inl (hI.new n b2 hmn c o' h1)
          | old => exact hI.old n b2 hmn c o' h1
    · intro i c o hc
      by_cases hi : i < m.length
      · rw [hold i hi] at hc
        exact Nat.lt_of_lt_of_le (hI.lt i c o hc) hB.size
      · by_cases hj : i < m.length + nb.length
        · exact hN.lt (i - m.length) c o (by omega) (by rw [show m.length + (i - m.length) = i from by omega]; exact hc)
        · rw [hρ i (.inr (by omega)), hI.dom i (by omega)] at hc
          cases hc
    · intro i hi
      rw [hρ i (.inr (by simpa using hi))]
      exact hI.dom i (by simp at hi; omega)
    · intro i b h
      replace h := split h; rcases h with ⟨hi, h⟩ | ⟨j, rfl, h⟩
      · exact hI.live i b h
      · exact hN.live j _ b h
    · intro x rx hx
      refine VR.mono (fun i b o hi hb => ⟨by rw [hold i hi, hb], ?_⟩) (StLe.append m nb) hx
      unfold bsize
      rw [hheap i b o hb]
  | put i b blk blk' w' hfw hm hb hs he hf hz hbk hmn hd' hn =>
    have hi : i < m.length := (List.getElem?_eq_some_iff.1 hm).1
    have hge := (hI.mine i blk hm).2 b 0 hb
    have hne : ∀ j s b' c o, m[j]? = some (s, b') → b' ≠ .dead → j ≠ i → ρ j = some (c, o) → w'.heap[c]? = w.heap[c]? := by
      intro j s b' c o hj hd hji hc
      refine hf c (fun e => hji ?_)
      subst e
      exact (hI.apart i blk j s b' c 0 o hm hj hd hb hc).symm
    have get : ∀ {j : Nat} {p : Own × Blk}, (m.set i (.mine, blk'))[j]? = some p → (j = i ∧ p = (.mine, blk')) ∨ (j ≠ i ∧ m[j]? = some p) := by
      intro j p h
      by_cases e : i = j
      · subst e
        rw [List.getElem?_set_self hi] at h
        exact .inl ⟨rfl, (Option.some.inj h).symm⟩
      · rw [List.getElem?_set_ne e] at h
        exact .inr ⟨fun h => e h.symm, h⟩
    have hkeep : Keeps ρ m w ρ (m.set i (.mine, blk')) w' := by
      intro x rx hx
      refine VR.mono (fun j c o hj hc => ⟨hc, ?_⟩) (StLe.set m i .mine blk' (fun _ => ⟨blk, hm⟩) hn) hx
      by_cases e : c = b
      · rw [e, hz]
      · unfold bsize
        rw [hf c e]
    refine ⟨⟨hI.below.trans ⟨he.1, he.2.1, he.2.2, by omega, fun k hk => hf k (by omega)⟩, by rw [hs]; exact hI.ble, ?_, ?_, ?_, ?_, ?_, ?_, ?_, hI.abB, ?_⟩, hkeep, trivial⟩
    · intro j s b' h
      replace h := get h; rcases h with ⟨rfl, h⟩ | ⟨hji, h⟩
      · cases h; exact hbk
      · cases b' with
        | dead => trivial
        | _ => exact (hI.blk j _ _ h).keep rfl (fun c o hc => hne j _ _ c o h (by intro e; cases e) hji hc)
    · intro j b' h
      replace h := get h; rcases h with ⟨rfl, h⟩ | ⟨hji, h⟩
      · exact ⟨hmn, (hI.mine j blk hm).2⟩
      · obtain ⟨h1, h2⟩ := hI.mine j b' h
        refine ⟨?_, h2⟩
        refine h1.keep rfl (fun c o hc => hf c (fun e => hji ?_))
        subst e
        exact hI.apart j b' i .mine blk c o 0 h hm (hI.live i blk hm) hc hb
    · intro j b1 j' s b' c o o' h h' hd hc hc'
      obtain ⟨b2, h2⟩ : ∃ b2, m[j]? = some (.mine, b2) := by
        replace h := get h; rcases h with ⟨rfl, h⟩ | ⟨hji, h⟩
        · exact ⟨_, hm⟩
        · exact ⟨_, h⟩
      obtain ⟨s3, b3, h3, h4⟩ : ∃ s3 b3, m[j']? = some (s3, b3) ∧ b3 ≠ .dead := by
        replace h' := get h'; rcases h' with ⟨rfl, h'⟩ | ⟨hji, h'⟩
        · exact ⟨_, _, hm, hI.live _ blk hm⟩
        · exact ⟨_, _, h', hd⟩
      exact hI.apart j b2 j' s3 b3 c o o' h2 h3 h4 hc hc'
    · intro j b' h c o hc
      replace h := get h; rcases h with ⟨rfl, h⟩ | ⟨hji, h⟩
      · cases h
      · exact hI.new j b' h c o hc
    · intro j b' h c o hc
      replace h := get h; rcases h with ⟨rfl, h⟩ | ⟨hji, h⟩
      · cases h
      · exact hI.old j b' h c o hc
    · intro j c o hc
      rw [hs]
      exact hI.lt j c o hc
    · intro j hj
      exact hI.dom j (by simpa using hj)
    · intro j b' h
      replace h := get h; rcases h with ⟨rfl, h⟩ | ⟨hji, h⟩
      · cases h; exact hd'
      · exact hI.live j b' h
end Go.Vm
