/-
  What one operation of the evaluator does on the machine: structs and arrays put together, laid apart. No statement is proved here.
-/
import Derived.Test.YtmjbikbakkbajaaVmD
import Derived.Laws.Tables
import Derived.Great.BuildSlice
namespace Go.Vm
open Go.RowKit (Below)
variable {P : Program}

theorem cellsW_eq (k : IntKind) (n : Nat) (xs : List Int) (h : xs.length = n) : cellsW k n xs = xs.map (Value.int k) := by
  subst h
  unfold cellsW
  apply List.ext_getElem
  · simp
  · intro i h1 h2
    simp at h1 h2 ⊢
    simp [List.getElem?_eq_getElem h1]
theorem wf_cells {v : Value} {x : Value} (hv : wfB v = true) (h : x ∈ v.cells) : wfB x = true := by
  cases v <;> first | (cases hv; done) | (simp [Value.cells] at h; subst h; exact hv)
theorem cells_wf {ρ : Nm} {m : Mem} {w : World} {v : V0} {rv : Value} (h : VR0 ρ m w v rv) (hr : (realOf (.o v)).isSome = true) : ∀ x ∈ rv.cells, wfB x = true := by
  cases v with
  | p v => obtain ⟨rfl, hw⟩ := h; exact fun x hx => wf_cells hw hx
  | r k n xs =>
    obtain ⟨rfl, _, _, h3⟩ := h
    intro x hx
    simp [Value.cells] at hx
    obtain ⟨y, hy, rfl⟩ := hx
    exact h3 y hy
  | g vs =>
    obtain ⟨rfl, h1⟩ := h
    intro x hx
    simp [Value.cells] at hx
    exact h1 x hx
  | _ => cases hr
theorem realOf_eq {ρ : Nm} {m : Mem} {w : World} {v : V} {rv q : Value} (h : VR ρ m w v rv) (hr : realOf v = some q) : q = rv := by
  unfold realOf at hr
  split at hr
  · cases hr; exact h.1.symm
  · rename_i k n xs
    cases hr
    obtain ⟨rfl, h1, _⟩ := h
    rw [cellsW_eq k n xs h1]
  · cases hr; exact h.1.symm
  · cases hr

theorem fill_wf (place : Nat → Option (Nat × Nat)) : ∀ (rs : List (Nat × Value)) (cells out : Array Value), (∀ x ∈ cells, wfB x = true) → (∀ q ∈ rs, ∀ x ∈ q.2.cells, wfB x = true) →
    Instr.fill place cells rs = some out → (∀ x ∈ out, wfB x = true) ∧ out.size = cells.size
  | [], cells, out, hc, _, h => by simp [Instr.fill] at h; subst h; exact ⟨hc, rfl⟩
  | (i, v) :: rs, cells, out, hc, hr, h => by
    simp only [Instr.fill] at h
    split at h
    · cases h
    · split at h
      · cases h
      · rename_i off size _ _
        have key : ∀ (l : List (Value × Nat)) (A : Array Value), (∀ x ∈ A, wfB x = true) → (∀ q ∈ l, wfB q.1 = true) →
            (∀ x ∈ l.foldl (fun cs q => cs.setIfInBounds (off + q.2) q.1) A, wfB x = true) ∧ (l.foldl (fun cs q => cs.setIfInBounds (off + q.2) q.1) A).size = A.size := by
          intro l
          induction l with
          | nil => intro A hA _; exact ⟨hA, rfl⟩
          | cons q l ih =>
            intro A hA hl
            have := ih (A.setIfInBounds (off + q.2) q.1) (fun x hx => by
              rcases Array.mem_or_eq_of_mem_setIfInBounds hx with hx | hx
              · exact hA x hx
              · subst hx; exact hl q (by simp)) (fun q' hq' => hl q' (by simp [hq']))
            simpa using this
        have hz : ∀ q ∈ v.cells.zipIdx.toList, wfB q.1 = true := by
          intro q hq
          have : q.1 ∈ v.cells := by
            have h1 := Array.mem_zipIdx' (x := q.1) (i := q.2) (Array.mem_toList_iff.1 hq)
            exact h1.2 ▸ Array.getElem_mem _
          exact hr _ (List.mem_cons_self ..) q.1 this
        have h0 := key v.cells.zipIdx.toList cells hc hz
        rw [Array.foldl_toList] at h0
        have h1 := fill_wf place rs _ out h0.1 (fun q hq => hr q (List.mem_cons_of_mem _ hq)) h
        exact ⟨h1.1, h1.2.trans h0.2⟩

theorem fill_arr {ρ : Nm} {m : Mem} {w : World} {a : Act} {tm : List V} (k : IntKind) : ∀ (ps : List (Nat × Operand)) (xs out : List Int), (∀ q ∈ ps, VR ρ m w (opnd tm q.2) (a.eval q.2)) → inR k xs →
    buildArr k xs (ps.map fun q => (q.1, opnd tm q.2)) = some out →
    Instr.fill (fun i => some (i * 1, 1)) (xs.map (Value.int k)).toArray (ps.map fun q => (q.1, a.eval q.2)) = some (out.map (Value.int k)).toArray ∧ out.length = xs.length ∧ inR k out
  | [], xs, out, _, hx, h => by simp [buildArr] at h; subst h; exact ⟨rfl, rfl, hx⟩
  | (i, x) :: ps, xs, out, hq, hx, h => by
    simp only [List.map_cons] at h
    generalize h4 : opnd tm x = vx at h
    unfold buildArr at h
    split at h
    · rename_i heq
      cases heq
    · rename_i i' k' y l heq
      cases heq
      cases hc : decide (i < xs.length ∧ k' = k) <;> rw [hc] at h
      · cases h
      · obtain ⟨hi, rfl⟩ := of_decide_eq_true hc
        have hv := vr_int (hq _ (List.mem_cons_self ..)) h4
        have hx' : inR k' (xs.set i y) := by
          intro z hz
          rcases List.mem_or_eq_of_mem_set hz with hz | rfl
          · exact hx z hz
          · exact hv.2
        obtain ⟨g1, g2, g3⟩ := fill_arr k' ps _ _ (fun q hq' => hq q (List.mem_cons_of_mem _ hq')) hx' h
        refine ⟨?_, by simpa using g2, g3⟩
        simp only [List.map_cons, Instr.fill, hv.1]
        split
        · rename_i hbad
          simp [Value.cells] at hbad
          omega
        · rw [← g1]
          congr 1
          simp [Value.cells]
    · cases h

theorem places_run {E : Env} (hE : EnvOK P E) : ∀ (fs : List Field) (pl : List (Nat × Nat)), placesOf E (fs.map fun f => (f.offset, f.type)) = some pl →
    fs.mapM (fun f => (P.info? f.type).map fun i => (f.offset, i.size)) = some pl
  | [], pl, h => by simp [placesOf] at h; subst h; rfl
  | f :: fs, pl, h => by
    simp only [List.map_cons, placesOf] at h
    split at h
    · rename_i td ps ht hp
      cases h
      have h1 := (hE.ty _ _ ht).1
      have h2 := places_run hE fs ps hp
      cases hi : P.info? f.type with
      | none => rw [hi] at h1; cases h1
      | some i =>
        rw [hi] at h1
        have : i.size = td.size := by simpa using h1
        simp [List.mapM_cons, hi, h2, this]
    · cases h

theorem reals_eq {ρ : Nm} {m : Mem} {w : World} {a : Act} {tm : List V} : ∀ (ps : List (Nat × Operand)) (rs : List (Nat × Value)), (∀ q ∈ ps, VR ρ m w (opnd tm q.2) (a.eval q.2)) →
    realsOf (ps.map fun q => (q.1, opnd tm q.2)) = some rs → rs = (ps.map fun q => (q.1, a.eval q.2)) ∧ ∀ q ∈ rs, ∀ x ∈ q.2.cells, wfB x = true
  | [], rs, _, h => by simp [realsOf] at h; subst h; exact ⟨rfl, by simp⟩
  | (i, x) :: ps, rs, hq, h => by
    simp only [List.map_cons, realsOf] at h
    split at h
    · rename_i q qs h1 h2
      cases h
      have hv := hq _ (List.mem_cons_self ..)
      obtain ⟨g1, g2⟩ := reals_eq ps qs (fun q hq' => hq q (List.mem_cons_of_mem _ hq')) h2
      have e := realOf_eq hv h1
      refine ⟨by simp [e, g1], fun z hz => ?_⟩
      rcases List.mem_cons.1 hz with rfl | hz
      · dsimp only at hv ⊢
        generalize opnd tm x = v at hv h1
        cases v with
        | o v => rw [e]; exact cells_wf hv (by rw [h1]; rfl)
        | t l => cases h1
      · exact g2 z hz
    · cases h

section ops
variable {E : Env} {ρ : Nm} {m : Mem} {w : World} {a : Act} {tm : List V} {κ : V → Mem → R} {r : List (Own × D)} {fr : List Nat × List Nat} {dst : Option Tmp} {ty : TypeId} {pos : String} {after : Array Edge} {guard : Option (Nat × Bool)}

theorem op_build (hE : EnvOK P E) (t : TypeId) (ps : Array (Nat × Operand)) (hp : ∀ q ∈ ps.toList, VR ρ m w (opnd tm q.2) (a.eval q.2)) (h : opK E tm m (.build t ps) κ = some r) :
    Owes P ρ m ⟨dst, .build t ps, ty, pos, after, guard⟩ a w fr κ r := by
  simp only [opK] at h
  have hps : (ps.map fun (i, x) => (i, a.eval x)).toList = ps.toList.map fun q => (q.1, a.eval q.2) := by simp
  split at h
  · rename_i n k ht
    split at h
    · rename_i xs hb
      obtain ⟨g1, g2, g3⟩ := fill_arr (ρ := ρ) (m := m) (w := w) (a := a) k ps.toList _ _ hp (inR_zero n k) hb
      obtain ⟨hs, hz, hl, e, hu, hue, hse⟩ := hE.ty _ _ ht
      refine owes_pure (v := .o (.r k n xs)) (rv := .agg (xs.map (Value.int k)).toArray) h ?_ ⟨rfl, by simpa using g2, hl, g3⟩
      have hb : P.built t (ps.map fun (i, x) => (i, a.eval x)).toList = some (xs.map (Value.int k)).toArray := by
        unfold Program.built
        cases hi : P.info? t with
        | none => rw [hi] at hs; cases hs
        | some it =>
          rw [hi] at hz
          cases hie : P.info? e with
          | none => rw [hie] at hse; cases hse
          | some ie =>
            rw [hie] at hse
            have e1 : ie.size = 1 := by simpa using hse
            have e2 : it.zero = some (Ty.arr n k).real := by simpa using hz
            simp only [hu, e2, hie, e1]
            rw [hps, ← g1]
            rfl
      simp only [execOp, Sem.run_bind, run_build w t _ _ hb, Result.andThen_ok]
      rfl
    · cases h
  · rename_i zs fs ht
    split at h
    · rename_i pl rs hpl hrs
      split at h
      · rename_i vs hf
        obtain ⟨g1, g2⟩ := reals_eq (ρ := ρ) (m := m) (w := w) (a := a) ps.toList rs hp hrs
        obtain ⟨hs, hz, hst, hwf⟩ := hE.ty _ _ ht
        have hw := fill_wf _ rs _ _ (fun x hx => List.all_eq_true.1 hwf x (by simpa using hx)) g2 hf
        refine owes_pure (v := .o (.g vs.toList)) (rv := .agg vs) h ?_ ⟨by simp, fun x hx => hw.1 x (by simpa using hx)⟩
        unfold structOf at hst
        split at hst
        · rename_i F hF
          cases hst
          have hb : P.built t (ps.map fun (i, x) => (i, a.eval x)).toList = some vs := by
            unfold Program.built
            cases hi : P.info? t with
            | none => rw [hi] at hs; cases hs
            | some it =>
              rw [hi] at hz
              have e2 : it.zero = some (Ty.st zs (F.toList.map fun f => (f.offset, f.type))).real := by simpa using hz
              simp only [hF, e2, places_run hE F.toList pl hpl]
              rw [hps, ← g1, ← hf]
              simp [Ty.real, Value.cells]
          simp only [execOp, Sem.run_bind, run_build w t _ _ hb, Result.andThen_ok]
          rfl
        · cases hst
      · cases h
    · cases h
  · cases h
end ops
end Go.Vm
