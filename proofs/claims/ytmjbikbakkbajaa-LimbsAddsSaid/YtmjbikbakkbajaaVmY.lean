/-
  Blocks given up, and blocks under a new name: for append. No statement is proved here.
-/
import Derived.Test.YtmjbikbakkbajaaVmJ
namespace Go.Vm
open Go.RowKit (Below)
variable {P : Program}

section
variable {B : Nat} {w0 : World} {ab : Nat → Prop} {ρ : Nm} {m : Mem} {w : World} {i : Nat} {blk : Blk}

theorem get_set_dead {j : Nat} {p : Own × Blk} (hi : i < m.length) (h : (m.set i (Own.old, Blk.dead))[j]? = some p) : (j = i ∧ p = (.old, .dead)) ∨ (j ≠ i ∧ m[j]? = some p) := by
  by_cases e : i = j
  · subst e
    rw [List.getElem?_set_self hi] at h
    exact .inl ⟨rfl, (Option.some.inj h).symm⟩
  · rw [List.getElem?_set_ne e] at h
    exact .inr ⟨fun h => e h.symm, h⟩

/-- A block of the call's own is given up. -/
theorem Inv.kill (hI : Inv B w0 ab ρ m w) (hm : m[i]? = some (.mine, blk)) : Inv B w0 ab ρ (m.set i (.old, .dead)) w ∧ Keeps ρ m w ρ (m.set i (.old, .dead)) w := by
  have hi : i < m.length := (List.getElem?_eq_some_iff.1 hm).1
  have get := fun {j p} => get_set_dead (m := m) (i := i) (j := j) (p := p) hi
  refine ⟨⟨hI.below, hI.ble, ?_, ?_, ?_, ?_, ?_, hI.lt, fun j hj => hI.dom j (by simpa using hj), hI.abB, ?_⟩, ?_⟩
  · intro j s b h
    replace h := get h; rcases h with ⟨rfl, h⟩ | ⟨_, h⟩
    · cases h; trivial
    · exact hI.blk j s b h
  · intro j b h
    replace h := get h; rcases h with ⟨rfl, h⟩ | ⟨_, h⟩
    · cases h
    · exact hI.mine j b h
  · intro j b j' s b' c o o' h h' hd hc hc'
    replace h := get h; rcases h with ⟨rfl, h⟩ | ⟨_, h⟩
    · cases h
    · replace h' := get h'; rcases h' with ⟨rfl, h'⟩ | ⟨_, h'⟩
      · cases h'; exact absurd rfl hd
      · exact hI.apart j b j' s b' c o o' h h' hd hc hc'
  · intro j b h
    replace h := get h; rcases h with ⟨rfl, h⟩ | ⟨_, h⟩
    · cases h
    · exact hI.new j b h
  · intro j b h c o hc
    replace h := get h; rcases h with ⟨rfl, h⟩ | ⟨_, h⟩
    · exact .inl ((hI.mine j blk hm).2 c o hc)
    · exact hI.old j b h c o hc
  · intro j b h
    replace h := get h; rcases h with ⟨rfl, h⟩ | ⟨_, h⟩
    · cases h
    · exact hI.live j b h
  · intro x rx hx
    exact VR.mono (fun _ _ _ _ hc => ⟨hc, rfl⟩) (StLe.set m i .old .dead (fun h => by cases h) (fun _ _ _ e => by cases e)) hx

def nameAs (ρ : Nm) (n i : Nat) : Nm := fun j => if j = n then ρ i else ρ j

/-- A block of the call's own goes on under a new name. -/
theorem Inv.move (hI : Inv B w0 ab ρ m w) (hm : m[i]? = some (.mine, blk)) (blk' : Blk) (hd' : blk' ≠ .dead) (hb : BlkOK (nameAs ρ m.length i) w m.length blk') :
    Inv B w0 ab (nameAs ρ m.length i) (m.set i (.old, .dead) ++ [(.mine, blk')]) w ∧ Keeps ρ m w (nameAs ρ m.length i) (m.set i (.old, .dead) ++ [(.mine, blk')]) w := by
  have hi : i < m.length := (List.getElem?_eq_some_iff.1 hm).1
  obtain ⟨hK, hkeep⟩ := hI.kill hm
  have old : ∀ j, j ≠ m.length → nameAs ρ m.length i j = ρ j := fun j hj => if_neg hj
  have new : nameAs ρ m.length i m.length = ρ i := if_pos rfl
  have get : ∀ {j : Nat} {p : Own × Blk}, (m.set i (Own.old, Blk.dead) ++ [(Own.mine, blk')])[j]? = some p → (j ≠ m.length ∧ (m.set i (Own.old, Blk.dead))[j]? = some p) ∨ (j = m.length ∧ p = (.mine, blk')) := by
    intro j p h
    by_cases hj : j < m.length
    · rw [List.getElem?_append_left (by simpa using hj)] at h
      exact .inl ⟨by omega, h⟩
    · rw [List.getElem?_append_right (by simpa using hj)] at h
      have hlt := (List.getElem?_eq_some_iff.1 h).1
      simp at hlt
      have : j = m.length := by omega
      subst this
      simp at h
      exact .inr ⟨rfl, h.symm⟩
  refine ⟨⟨hK.below, hK.ble, ?_, ?_, ?_, ?_, ?_, ?_, ?_, hK.abB, ?_⟩, ?_⟩
  · intro j s b h
    replace h := get h; rcases h with ⟨hj, h⟩ | ⟨rfl, h⟩
    · exact (hK.blk j s b h).keep (old j hj) (fun _ _ _ => rfl)
    · cases h; exact hb
  · intro j b h
    replace h := get h; rcases h with ⟨hj, h⟩ | ⟨rfl, h⟩
    · obtain ⟨g1, g2⟩ := hK.mine j b h
      exact ⟨g1.keep (old j hj) (fun _ _ _ => rfl), fun c o hc => g2 c o (by rw [← old j hj]; exact hc)⟩
    · obtain ⟨g1, g2⟩ := hI.mine i blk hm
      exact ⟨fun c o hc => g1 c o (by rw [← new]; exact hc), fun c o hc => g2 c o (by rw [← new]; exact hc)⟩
  · intro j b j' s b' c o o' h h' hd hc hc'
    replace h := get h; rcases h with ⟨hj, h⟩ | ⟨rfl, h⟩
    · rw [old j hj] at hc
      replace h' := get h'; rcases h' with ⟨hj', h'⟩ | ⟨rfl, h'⟩
      · rw [old j' hj'] at hc'
        exact hK.apart j b j' s b' c o o' h h' hd hc hc'
      · rw [new] at hc'
        replace h := get_set_dead hi h; rcases h with ⟨_, h⟩ | ⟨hne, h⟩
        · cases h
        · exact absurd (hI.apart j b i .mine blk c o o' h hm (hI.live i blk hm) hc hc') hne
    · rw [new] at hc
      replace h' := get h'; rcases h' with ⟨hj', h'⟩ | ⟨rfl, h'⟩
      · rw [old j' hj'] at hc'
        replace h' := get_set_dead hi h'; rcases h' with ⟨_, h'⟩ | ⟨hne, h'⟩
        · cases h'; exact absurd rfl hd
        · exact absurd (hI.apart i blk j' s b' c o o' hm h' hd hc hc').symm hne
      · rfl
  · intro j b h c o hc
    replace h := get h; rcases h with ⟨hj, h⟩ | ⟨rfl, h⟩
    · exact hK.new j b h c o (by rw [← old j hj]; exact hc)
    · cases h
  · intro j b h c o hc
    replace h := get h; rcases h with ⟨hj, h⟩ | ⟨rfl, h⟩
    · exact hK.old j b h c o (by rw [← old j hj]; exact hc)
    · cases h
  · intro j c o hc
    by_cases hj : j = m.length
    · subst hj; exact hI.lt i c o (by rw [← new]; exact hc)
    · exact hI.lt j c o (by rw [← old j hj]; exact hc)
  · intro j hj
    simp at hj
    rw [old j (by omega)]
    exact hI.dom j (by omega)
  · intro j b h
    replace h := get h; rcases h with ⟨hj, h⟩ | ⟨rfl, h⟩
    · exact hK.live j b h
    · cases h; exact hd'
  · intro x rx hx
    refine VR.mono (fun j c o hj hc => ⟨by rw [old j (by simp at hj; omega)]; exact hc, rfl⟩) (StLe.append _ _) (hkeep x rx hx)
end
theorem VR.drawn {ρ : Nm} {m : Mem} {w : World} {k : Nat} {x : V} {r : Value} (h : VR ρ m w x r) : VR ρ m { w with drawn := k } x r := h.mono (fun _ _ _ _ h => ⟨h, rfl⟩) (StLe.refl m)
theorem Inv.drawn {B : Nat} {w0 : World} {ab : Nat → Prop} {ρ : Nm} {m : Mem} {w : World} (h : Inv B w0 ab ρ m w) (k : Nat) : Inv B w0 ab ρ m { w with drawn := k } := by
  refine ⟨⟨h.below.os, h.below.tape, h.below.output, h.below.size, h.below.block⟩, h.ble, ?_, h.mine, h.apart, h.new, h.old, h.lt, h.dom, h.abB, h.live⟩
  intro i s b hb
  exact (h.blk i s b hb).keep (w' := { w with drawn := k }) rfl (fun _ _ _ => rfl)

end Go.Vm
