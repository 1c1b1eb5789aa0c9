/-
  Memory whose blocks come in another order. No statement is proved here.
-/
import Derived.Test.YtmjbikbakkbajaaVmS
namespace Go.Vm
open Go.RowKit (Below)
variable {P : Program}

/-- What one name owes, for what was told of it to be told still. -/
def Fit (ρ : Nm) (m : Mem) (w : World) (ρ' : Nm) (m' : Mem) (w' : World) (n : Nat) : Prop :=
  n < m'.length ∧ (mineAt m' n → mineAt m n) ∧ (∀ c, blkN m' n = some c → blkN m n = some c) ∧ ∀ b o, ρ n = some (b, o) → ρ' n = some (b, o) ∧ bsize w' b = bsize w b
theorem SlR.swap {ρ ρ' : Nm} {m m' : Mem} {w w' : World} {i k n : Nat} {r : Value} (h : SlR ρ m w i k n r) (hf : Fit ρ m w ρ' m' w' i) : SlR ρ' m' w' i k n r := by
  obtain ⟨hi, hm, hn, hr⟩ := hf
  obtain ⟨_, ad, cap, h1, h2, h3, h4, h5⟩ := h
  refine ⟨hi, ad, cap, h1, h2, h3, ?_, ?_⟩
  · rcases h4 with h4 | ⟨b, o, h4, h4'⟩
    · exact .inl h4
    · exact .inr ⟨b, o, (hr b o h4).1, h4'⟩
  · intro hm'
    rcases h5 (hm hm') with h5 | ⟨b, h5, h5', h5''⟩
    · exact .inl h5
    · exact .inr ⟨b, (hr b 0 h5).1, h5', by rw [(hr b 0 h5).2]; exact h5''⟩
theorem VR0.swap {ρ ρ' : Nm} {m m' : Mem} {w w' : World} {x : V0} {r : Value} (h : VR0 ρ m w x r) (hf : ∀ n, nameOf (.o x) = some n → Fit ρ m w ρ' m' w' n) : VR0 ρ' m' w' x r := by
  cases x with
  | p v => exact h
  | r k n xs => exact h
  | g vs => exact h
  | a i k =>
    obtain ⟨hi, b, o, h1, h2⟩ := h
    obtain ⟨k1, _, _, k2⟩ := hf i rfl
    exact ⟨k1, b, o, (k2 b o h1).1, h2⟩
  | s i k n => exact SlR.swap h (hf i rfl)
  | f i =>
    obtain ⟨hi, h⟩ := h
    have hk := hf i rfl
    exact ⟨hk.1, fun n hn => (h n (hk.2.2.1 n hn)).swap hk⟩
  | z => exact h
  | u => trivial
theorem VR.swap {ρ ρ' : Nm} {m m' : Mem} {w w' : World} {x : V} {r : Value} (h : VR ρ m w x r) (hf : ∀ n, n ∈ namesV x → Fit ρ m w ρ' m' w' n) : VR ρ' m' w' x r := by
  cases x with
  | o x => exact VR0.swap h fun n hn => hf n (by simp [namesV, hn])
  | t l =>
    obtain ⟨rs, h1, h2⟩ := h
    refine ⟨rs, h1, ?_⟩
    have key : ∀ (l : List V0) (rs : List Value), (∀ n, n ∈ l.filterMap (fun x => nameOf (.o x)) → Fit ρ m w ρ' m' w' n) → all2 (VR0 ρ m w) l rs → all2 (VR0 ρ' m' w') l rs := by
      intro l
      induction l with
      | nil => intro rs _ h; cases rs <;> exact h
      | cons x l ih =>
        intro rs hf h
        cases rs with
        | nil => exact h
        | cons y rs =>
          refine ⟨VR0.swap h.1 fun n hn => hf n (by simp only [List.mem_filterMap]; exact ⟨x, by simp, hn⟩), ih rs (fun n hn => hf n ?_) h.2⟩
          simp only [List.mem_filterMap] at hn ⊢
          obtain ⟨y, h1, h2⟩ := hn
          exact ⟨y, List.mem_cons_of_mem _ h1, h2⟩
    exact key l rs hf h2

theorem get_splice {α : Type} (l new : List α) (k n : Nat) (h : k + new.length ≤ l.length) : (splice l k new)[n]? = if k ≤ n ∧ n < k + new.length then new[n - k]? else l[n]? := by
  unfold splice
  have h1 : (l.take k).length = k := by simp; omega
  by_cases ha : n < k
  · rw [if_neg (by omega), List.append_assoc, List.getElem?_append_left (by omega), List.getElem?_take_of_lt ha]
  · by_cases hb : n < k + new.length
    · rw [if_pos ⟨by omega, hb⟩, List.append_assoc, List.getElem?_append_right (by omega), h1, List.getElem?_append_left (by omega)]
    · rw [if_neg (by omega), List.append_assoc, List.getElem?_append_right (by omega), h1, List.getElem?_append_right (by omega), List.getElem?_drop]
      congr 1
      omega
theorem splice_length {α : Type} (l new : List α) (k : Nat) (h : k + new.length ≤ l.length) : (splice l k new).length = l.length := by
  unfold splice
  simp
  omega

section
variable {B : Nat} {w0 : World} {ab : Nat → Prop} {ρ ρ' : Nm} {m mD nb : Mem} {w w' : World} {fr : List Nat}
theorem Inv.pad (hI : Inv B w0 ab ρ m w) (k : Nat) : Inv B w0 ab ρ (m ++ List.replicate k (.old, .dead)) w := by
  have split : ∀ {i : Nat} {p : Own × Blk}, (m ++ List.replicate k (Own.old, Blk.dead))[i]? = some p → (i < m.length ∧ m[i]? = some p) ∨ (m.length ≤ i ∧ p = (.old, .dead)) := by
    intro i p h
    by_cases hi : i < m.length
    · rw [List.getElem?_append_left hi] at h
      exact .inl ⟨hi, h⟩
    · rw [List.getElem?_append_right (by omega), List.getElem?_replicate] at h
      split at h
      · exact .inr ⟨by omega, (Option.some.inj h).symm⟩
      · cases h
  refine ⟨hI.below, hI.ble, ?_, ?_, ?_, ?_, ?_, hI.lt, ?_, hI.abB, ?_⟩
  · intro i s b h
    rcases split h with ⟨_, h⟩ | ⟨_, h⟩
    · exact hI.blk i s b h
    · cases h; trivial
  · intro i b h
    rcases split h with ⟨_, h⟩ | ⟨_, h⟩
    · exact hI.mine i b h
    · cases h
  · intro i b j s b' c o o' h h' hd hc hc'
    rcases split h with ⟨_, h⟩ | ⟨_, h⟩
    · rcases split h' with ⟨_, h'⟩ | ⟨_, h'⟩
      · exact hI.apart i b j s b' c o o' h h' hd hc hc'
      · cases h'; exact absurd rfl hd
    · cases h
  · intro i b h
    rcases split h with ⟨_, h⟩ | ⟨_, h⟩
    · exact hI.new i b h
    · cases h
  · intro i b h c o hc
    rcases split h with ⟨_, h⟩ | ⟨hi, h⟩
    · exact hI.old i b h c o hc
    · rw [hI.dom i hi] at hc; cases hc
  · intro i hi
    exact hI.dom i (by simp at hi; omega)
  · intro i b h
    rcases split h with ⟨_, h⟩ | ⟨_, h⟩
    · exact hI.live i b h
    · cases h

/-- New blocks, in places that were kept free for them. -/
theorem Inv.fill (hI : Inv B w0 ab ρ mD w) (hlen : m.length + nb.length ≤ mD.length)
    (hB : Below w.heap.size w w') (hρ : ∀ n, n < m.length ∨ m.length + nb.length ≤ n → ρ' n = ρ n) (hN : NewOK ρ m w w' fr ρ' nb) (hfr : ∀ n, n ∈ fr → mD[n]? = m[n]?) : Inv B w0 ab ρ' (splice mD m.length nb) w' := by
  have hheap : ∀ i c o, ρ i = some (c, o) → w'.heap[c]? = w.heap[c]? := fun i c o hc => hB.block c (hI.lt i c o hc)
  have split : ∀ {i : Nat} {p : Own × Blk}, (splice mD m.length nb)[i]? = some p → (ρ' i = ρ i ∧ mD[i]? = some p) ∨ ∃ j, i = m.length + j ∧ nb[j]? = some p := by
    intro i p h
    rw [get_splice _ _ _ _ hlen] at h
    split at h
    · rename_i hi
      exact .inr ⟨i - m.length, by omega, h⟩
    · rename_i hi
      exact .inl ⟨hρ i (by omega), h⟩
  have nlt : ∀ {j : Nat} {p : Own × Blk}, nb[j]? = some p → j < nb.length := fun h => (List.getElem?_eq_some_iff.1 h).1
  refine ⟨hI.below.trans (hB.mono hI.ble), Nat.le_trans hI.ble hB.size, ?_, ?_, ?_, ?_, ?_, ?_, ?_, hI.abB, ?_⟩
  · intro i s b h
    replace h := split h; rcases h with ⟨hi, h⟩ | ⟨j, rfl, h⟩
    · exact (hI.blk i s b h).keep hi (hheap i)
    · exact hN.blk j s b h
  · intro i b h
    replace h := split h; rcases h with ⟨hi, h⟩ | ⟨j, rfl, h⟩
    · obtain ⟨h1, h2⟩ := hI.mine i b h
      exact ⟨h1.keep hi (hheap i), fun c o hc => h2 c o (by rw [← hi, hc])⟩
    · obtain ⟨h1, h2⟩ := hN.mine j b h
      exact ⟨h1, fun c o hc => Nat.le_trans hI.ble (h2 c o hc)⟩
  · intro i b j s b' c o o' h h' hd hc hc'
    replace h := split h; rcases h with ⟨hi, h⟩ | ⟨i', rfl, h⟩
    · rw [hi] at hc
      replace h' := split h'; rcases h' with ⟨hj, h'⟩ | ⟨j', rfl, h'⟩
      · rw [hj] at hc'
        exact hI.apart i b j s b' c o o' h h' hd hc hc'
      · have hlt := hI.lt i c o hc
        exfalso
        cases s with
        | mine => have := (hN.mine j' b' h').2 c o' hc'; omega
        | new => have := hN.new j' b' h' c o' hc'; omega
        | old =>
          rcases hN.old j' b' h' c o' hc' with h1 | ⟨n, hnf, hn, hnm, o'', h1⟩
          · omega
          · obtain ⟨s2, b2, hmn, hdead⟩ := hn
            have := hI.apart i b n s2 b2 c o o'' h (by rw [hfr n hnf]; exact hmn) hdead hc h1
            subst this
            exact hnm ⟨b, by rw [← hfr i hnf]; exact h⟩
    · have hge := (hN.mine i' b h).2 c o hc
      replace h' := split h'; rcases h' with ⟨hj, h'⟩ | ⟨j', rfl, h'⟩
      · rw [hj] at hc'
        have := hI.lt j c o' hc'
        omega
      · rw [hN.apart i' b j' c o o' h (nlt h') hc hc']
  · intro i b h c o hc
    replace h := split h; rcases h with ⟨hi, h⟩ | ⟨j, rfl, h⟩
    · exact hI.new i b h c o (by rw [← hi, hc])
    · exact Nat.le_trans hI.ble (hN.new j b h c o hc)
  · intro i b h c o hc
    replace h := split h; rcases h with ⟨hi, h⟩ | ⟨j, rfl, h⟩
    · exact hI.old i b h c o (by rw [← hi, hc])
    · rcases hN.old j b h c o hc with h1 | ⟨n, hnf, hn, hnm, o', h1⟩
      · exact .inl (Nat.le_trans hI.ble h1)
      · obtain ⟨s2, b2, hmn, _⟩ := hn
        cases s2 with
        | mine => exact absurd ⟨b2, hmn⟩ hnm
        | new => exact .inl (hI.new n b2 (by rw [hfr n hnf]; exact hmn) c o' h1)
        | old => exact hI.old n b2 (by rw [hfr n hnf]; exact hmn) c o' h1
  · intro i c o hc
    by_cases hi : i < m.length ∨ m.length + nb.length ≤ i
    · rw [hρ i hi] at hc
      exact Nat.lt_of_lt_of_le (hI.lt i c o hc) hB.size
    · exact hN.lt (i - m.length) c o (by omega) (by rw [show m.length + (i - m.length) = i from by omega]; exact hc)
  · intro i hi
    rw [splice_length _ _ _ hlen] at hi
    rw [hρ i (.inr (by omega))]
    exact hI.dom i hi
  · intro i b h
    replace h := split h; rcases h with ⟨hi, h⟩ | ⟨j, rfl, h⟩
    · exact hI.live i b h
    · exact hN.live j _ b h
end
end Go.Vm
