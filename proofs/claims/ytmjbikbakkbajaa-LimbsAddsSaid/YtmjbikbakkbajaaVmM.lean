/-
  The evaluator's answer for a function is what a call comes to. No statement is proved here.
-/
import Derived.Test.YtmjbikbakkbajaaVmL
namespace Go.Vm
open Go.RowKit (Below)
variable {P : Program}

theorem argV_eq : ∀ (ds : List D) (m : Mem), argV m ds = ((valsOf m.length (ds.map fun d => (Own.old, d))).map V.o, m ++ blksOf true (ds.map fun d => (Own.old, d)))
  | [], m => by simp [argV, valsOf, blksOf]
  | .p v :: l, m => by simp [argV, valsOf, blksOf, blkOfD, argV_eq l m]
  | .r k n xs :: l, m => by simp [argV, valsOf, blksOf, blkOfD, argV_eq l m]
  | .g cs :: l, m => by simp [argV, valsOf, blksOf, blkOfD, argV_eq l m]
  | .w k xs :: l, m => by simp [argV, valsOf, blksOf, blkOfD, argV_eq l, unlessOne]
  | .c n cs :: l, m => by simp [argV, valsOf, blksOf, blkOfD, argV_eq l, unlessOne]

/-- The arguments, as if they were results that lead to what was there. -/
theorem args_res {w : World} {q : Prop} (all : List Value) : ∀ (ds : List D) (vs : List Value), (∀ v, v ∈ vs → v ∈ all) → all2 (DR w) ds vs → all2 (ResOK w w all q) (ds.map fun d => (Own.old, d)) vs
  | [], [], _, _ => trivial
  | _ :: ds, v :: vs, hv, ⟨h1, h2⟩ => ⟨⟨h1, fun _ _ ad n cap he hn hb => .inr ⟨v, hv v (List.mem_cons_self ..), ad, n, cap, he, hn, hb⟩⟩, args_res all ds vs (fun u hu => hv u (List.mem_cons_of_mem _ hu)) h2⟩

theorem dr_block {w : World} {d : D} {v : Value} (h : DR w d v) {ad : Addr} {n cap : Nat} (he : v = .slice (some ad) n cap) (hn : n ≠ 0) : ad.block < w.heap.size := by
  have cell : ∀ {c' o' : Nat} {u : Value}, w.cell? ⟨c', o', none⟩ = some u → c' < w.heap.size := by
    intro c' o' u h
    unfold World.cell? at h
    cases hq : w.heap[c']? with
    | none => rw [hq] at h; cases h
    | some ob => exact (Array.getElem?_eq_some_iff.1 hq).1
  subst he
  cases d with
  | p q => obtain ⟨e, hw⟩ := h; subst e; cases hw
  | r k n' xs => obtain ⟨e, _⟩ := h; cases e
  | g vs => obtain ⟨e, _⟩ := h; cases e
  | w k xs =>
    obtain ⟨ad', cap', e, _, _, _, g⟩ := h
    cases e
    rcases g with g | ⟨b', o', e, g⟩
    · exact absurd g hn
    · cases e
      exact cell (g 0 (.int k (xs.getD 0 0)) (by rw [List.getElem?_map, getD_of (by omega)]; rfl))
  | c n' cs =>
    obtain ⟨ad', cap', e, _, _, _, g5, g⟩ := h
    cases e
    rcases g with g | ⟨b', o', e, g⟩
    · exact absurd g hn
    · cases e
      cases cs with
      | nil => exact absurd (g5.2 rfl) hn
      | cons u cs => exact cell (g 0 u rfl)

theorem blk_ok {w : World} {d : D} {v : Value} {b : Blk} {ρ : Nm} {i : Nat} (h : DR w d v) (hb : blkOfD d = some b) (hρ : ρ i = adrOf .old v) : BlkOK ρ w i b := by
  cases d with
  | w k xs =>
    cases hb
    obtain ⟨ad, cap, rfl, g1, g2, g3, g4⟩ := h
    refine ⟨rfl, g2, g3, ?_⟩
    by_cases hz : xs.length = 0
    · exact .inl hz
    · rcases g4 with g4 | ⟨b, o, rfl, g4⟩
      · exact absurd g4 hz
      · exact .inr ⟨b, o, by rw [hρ]; simp [adrOf, hz], g4⟩
  | c n cs =>
    cases hb
    obtain ⟨ad, cap, rfl, g1, g2, g3, g5, g4⟩ := h
    refine ⟨g3, ?_⟩
    by_cases hz : n = 0
    · exact .inl (g5.1 hz)
    · rcases g4 with g4 | ⟨b, o, rfl, g4⟩
      · exact absurd g4 hz
      · exact .inr ⟨b, o, by rw [hρ]; simp [adrOf, hz], g4⟩
  | _ => cases hb

/-- At a call's beginning. -/
theorem start (w : World) (ds : List D) (vs : List Value) (k : Nat) (h : all2 (DR w) ds vs) :
    ∃ ρ, St w.heap.size w (fun c => ∃ v, v ∈ vs ∧ ∃ ad n cap, v = .slice (some ad) n cap ∧ n ≠ 0 ∧ ad.block = c) ρ ((argV [] ds).1 ++ List.replicate k (.o .u)) (argV [] ds).2
      { tmps := vs.toArray ++ Array.replicate k undef, defers := [] } w := by
  have hR : all2 (ResOK w w vs ((true : Bool) = true)) (ds.map fun d => (Own.old, d)) vs := args_res vs ds vs (fun _ h => h) h
  obtain ⟨hl, hs⟩ := blks_spec true _ vs hR
  rw [argV_eq]
  simp only [List.nil_append, List.length_nil]
  generalize hbl : blksOf true (ds.map fun d => (Own.old, d)) = bs at hl hs
  generalize hal : adrsOf true (ds.map fun d => (Own.old, d)) vs = as at hl hs
  let ρ : Nm := fun i => (as[i]?).join
  have get : ∀ {i : Nat} {s : Own} {b : Blk}, bs[i]? = some (s, b) → s = .old ∧ ∃ d v, DR w d v ∧ blkOfD d = some b ∧ ρ i = adrOf .old v ∧ ResOK w w vs ((true : Bool) = true) (.old, d) v := by
    intro i s b hb
    obtain ⟨ow, d, r, h1, h2, h3, h4, h5⟩ := hs i s b hb
    obtain ⟨d', _, e⟩ := List.mem_map.1 h2
    cases e
    refine ⟨h3, d, r, h1.1, h4, ?_, h1⟩
    show (as[i]?).join = _
    rw [h5, h3]
    rfl
  have adr : ∀ {v : Value} {c o : Nat}, adrOf .old v = some (c, o) → ∃ ad n cap, v = .slice (some ad) n cap ∧ c = ad.block ∧ n ≠ 0 := by
    intro v c o h
    unfold adrOf at h
    split at h
    · rename_i ad n cap
      simp only [] at h
      split at h
      · cases h
      · rename_i hc; cases h; exact ⟨ad, n, cap, rfl, rfl, hc⟩
    · cases h
  have at' : ∀ {i c o : Nat}, ρ i = some (c, o) → ∃ d v, DR w d v ∧ ResOK w w vs ((true : Bool) = true) (.old, d) v ∧ d.isSl = true ∧ adrOf .old v = some (c, o) := by
    intro i c o hc
    by_cases hi : i < bs.length
    · obtain ⟨⟨s, b⟩, hb⟩ : ∃ p, bs[i]? = some p := ⟨_, List.getElem?_eq_getElem hi⟩
      obtain ⟨_, d, v, g1, g2, g3, g4⟩ := get hb
      exact ⟨d, v, g1, g4, (by cases d <;> first | rfl | (cases g2)), by rw [← g3, hc]⟩
    · have : ρ i = none := by show (as[i]?).join = none; rw [List.getElem?_eq_none (by omega)]; rfl
      rw [this] at hc
      cases hc
  refine ⟨ρ, ⟨⟨Below.refl _ _, Nat.le_refl _, ?_, ?_, ?_, ?_, ?_, ?_, ?_, ?_, ?_⟩, ?_, ?_, rfl⟩⟩
  · intro i s b hb
    obtain ⟨_, d, v, g1, g2, g3, _⟩ := get hb
    exact blk_ok g1 g2 g3
  · intro i b hb
    obtain ⟨e, _⟩ := get hb
    cases e
  · intro i b j s b' c o o' hb
    obtain ⟨e, _⟩ := get hb
    cases e
  · intro i b hb
    obtain ⟨e, _⟩ := get hb
    cases e
  · intro i b hb c o hc
    obtain ⟨d, v, g1, g2, g3, g4⟩ := at' hc
    obtain ⟨ad, n, cap, rfl, rfl, hn⟩ := adr g4
    exact g2.2 g3 _ _ _ _ rfl hn rfl
  · intro i c o hc
    obtain ⟨d, v, g1, g2, g3, g4⟩ := at' hc
    obtain ⟨ad, n, cap, he, rfl, hn⟩ := adr g4
    exact dr_block g1 he hn
  · intro i hi
    show (as[i]?).join = none
    rw [List.getElem?_eq_none (by omega)]
    rfl
  · rintro c ⟨v, hv, ad, n, cap, he, hn, rfl⟩
    have : ∀ (ds : List D) (vs : List Value), all2 (DR w) ds vs → ∀ v, v ∈ vs → ∃ d, DR w d v := by
      intro ds
      induction ds with
      | nil => intro vs h v hv; match vs, h with | [], _ => cases hv
      | cons d ds ih =>
        intro vs h v hv
        match vs, h with
        | u :: vs, h =>
          rcases List.mem_cons.1 hv with rfl | hv
          · exact ⟨d, h.1⟩
          · exact ih vs h.2 v hv
    obtain ⟨d, hd⟩ := this ds vs h v hv
    exact dr_block hd he hn
  · intro i b hb
    obtain ⟨e, _⟩ := get hb
    cases e
  · have := (vals_vr (ρ' := ρ) (M := bs) (ds.map fun d => (Own.old, d)) vs 0 hR (fun j hj => ⟨by rw [hbl]; simp, by rw [hal]; simp; rfl⟩)).length
    simp [this]
  · intro t
    have hv := vals_vr (ρ' := ρ) (M := bs) (ds.map fun d => (Own.old, d)) vs 0 hR (fun j hj => ⟨by rw [hbl]; simp, by rw [hal]; simp; rfl⟩)
    generalize valsOf 0 (ds.map fun d => (Own.old, d)) = vals at hv
    have key : ∀ (vals : List V0) (vs : List Value) (t : Nat), all2 (VR0 ρ bs w) vals vs → VR ρ bs w (getT (vals.map V.o ++ List.replicate k (.o .u)) t) ((vs ++ List.replicate k undef).getD t undef) := by
      intro vals
      induction vals with
      | nil =>
        intro vs t h
        match vs, h with
        | [], _ =>
          have : getT (List.map V.o [] ++ List.replicate k (.o .u)) t = .o .u := by
            unfold getT
            simp [List.getD_eq_getElem?_getD, List.getElem?_replicate]
            split <;> rfl
          rw [this]
          trivial
      | cons x vals ih =>
        intro vs t h
        match vs, h with
        | v :: vs, h =>
          cases t with
          | zero => exact h.1
          | succ t => exact ih vs t h.2
    have e : (vs.toArray ++ Array.replicate k undef).getD t undef = (vs ++ List.replicate k undef).getD t undef := by
      rw [Array.getD_eq_getD_getElem?, List.getD_eq_getElem?_getD, ← Array.getElem?_toList]
      simp
    show VR ρ bs w _ ((vs.toArray ++ Array.replicate k undef).getD t undef)
    rw [e]
    exact key vals vs t hv
end Go.Vm
