/-
  What one operation of the evaluator does on the machine: loads and stores. No statement is proved here.
-/
import Derived.Test.YtmjbikbakkbajaaVmE
namespace Go.Vm
open Go.RowKit (Below)
variable {P : Program}

theorem rangeAt_take {w : World} {b o : Nat} {cs : List Value} (h : w.rangeAt b o cs) (k n : Nat) : w.rangeAt b (o + k) ((cs.drop k).take n) := by
  intro j v hj
  have h1 : j < n := by
    have := (List.getElem?_eq_some_iff.1 hj).1
    simp at this
    omega
  rw [List.getElem?_take_of_lt h1, List.getElem?_drop] at hj
  have := h (k + j) v hj
  rwa [show o + k + j = o + (k + j) from by omega]
theorem getD_of {xs : List Int} {k : Nat} (h : k < xs.length) : xs[k]? = some (xs.getD k 0) := by
  simp [List.getElem?_eq_getElem h]
theorem inR_getD {k : IntKind} {xs : List Int} (h : inR k xs) (j : Nat) : wfB (.int k (xs.getD j 0)) = true := by
  by_cases hj : j < xs.length
  · have : xs.getD j 0 ∈ xs := by simp [List.getElem?_eq_getElem hj]
    exact h _ this
  · rw [List.getD_eq_getElem?_getD, List.getElem?_eq_none (by omega)]
    cases k <;> decide
theorem all_kind {k : IntKind} : ∀ {vs : List Value}, vs.all (isKind k) = true → (vs.map intOf').map (Value.int k) = vs
  | [], _ => rfl
  | v :: vs, h => by
    simp only [List.all_cons, Bool.and_eq_true] at h
    cases v with
    | int k' n =>
      have : k' = k := of_decide_eq_true h.1
      subst this
      simp [intOf', all_kind h.2]
    | _ => cases h.1
theorem wfL_ints {k : IntKind} {xs : List Int} (h : wfL (xs.map (Value.int k))) : inR k xs := fun x hx => h _ (List.mem_map.2 ⟨x, hx, rfl⟩)

/-- A variable of one cell. -/
theorem run_load_one {t : TypeId} {d : TypeDesc} {w : World} {b o : Nat} {v : Value} (h : P.underlying t = some d) (hd : d.isRow = false) (hc : w.cell? ⟨b, o, none⟩ = some v) :
    (Instr.loadAt t (.pointer (some ⟨b, o, none⟩))).run P w = .ok v w := by
  simp only [Instr.loadAt, Instr.sureAddr, Sem.run_bind, Sem.run_pure, Result.andThen_ok, loadVar, run_isAgg' w h, hd]
  simp [load, Sem.run, hc]

/-- Out of its cells a value reads. -/
theorem load_cells {E : Env} (hE : EnvOK P E) {ρ : Nm} {m : Mem} {w : World} {t : TypeId} {td : Ty} {cs : List Value} {v : V0} {b o : Nat} (ht : E.ty t = some td) (hc : ofCells td cs = some v) (hn : cs.length = td.size)
    (hw : wfL cs) (hr : w.rangeAt b o cs) : ∃ rv, (Instr.loadAt t (.pointer (some ⟨b, o, none⟩))).run P w = .ok rv w ∧ VR0 ρ m w v rv := by
  have hT := hE.ty _ _ ht
  unfold ofCells at hc
  split at hc
  · rename_i k v'
    cases hc
    exact ⟨v', run_load_one hT.2.2.1 rfl (by simpa using hr 0 v' rfl), rfl, hw v' (by simp)⟩
  · rename_i v'
    cases hc
    exact ⟨v', run_load_one hT.2.2 rfl (by simpa using hr 0 v' rfl), rfl, hw v' (by simp)⟩
  · rename_i v'
    cases hc
    exact ⟨v', run_load_one hT.2.2 rfl (by simpa using hr 0 v' rfl), rfl, hw v' (by simp)⟩
  · rename_i n k
    cases hq : (cs.all (isKind k) && cs.length == n) <;> rw [hq] at hc
    · cases hc
    · cases hc
      obtain ⟨h1, h2⟩ := Bool.and_eq_true_iff.1 hq
      obtain ⟨hl, e, hu, _⟩ := hT.2.2
      refine ⟨.agg cs.toArray, run_loadAt_mid w b o t cs _ hr hu rfl (by rw [hT.1, hn]), ?_, by simpa using h2, hl, ?_⟩
      · rw [all_kind h1]
      · exact wfL_ints (by rw [all_kind h1]; exact hw)
  · rename_i zs fs
    cases hq : (cs.length == zs.length) <;> rw [hq] at hc
    · cases hc
    · cases hc
      have hs := hT.2.2.1
      unfold structOf at hs
      split at hs
      · rename_i F hF
        exact ⟨.agg cs.toArray, run_loadAt_mid w b o t cs _ hr hF rfl (by rw [hT.1, hn]), rfl, hw⟩
      · cases hs
  · cases hc

section ops
variable {E : Env} {ρ : Nm} {m : Mem} {w : World} {a : Act} {tm : List V} {κ : V → Mem → R} {r : List (Own × D)} {fr : List Nat × List Nat} {dst : Option Tmp} {ty : TypeId} {pos : String} {after : Array Edge} {guard : Option (Nat × Bool)}

/-- What is known of the blocks that an operation touches. -/
def Touch (ρ : Nm) (m : Mem) (w : World) (ns : List Nat) : Prop := ∀ n ∈ ns, ∀ s b, m[n]? = some (s, b) → BlkOK ρ w n b ∧ (s = .mine → MineOK ρ w n)

theorem op_load (hE : EnvOK P E) (t : TypeId) (x : Operand) (hx : VR ρ m w (opnd tm x) (a.eval x)) (hb : Touch ρ m w (nameOf (opnd tm x)).toList) (h : opK E tm m (.load t x) κ = some r) :
    Owes P ρ m ⟨dst, .load t x, ty, pos, after, guard⟩ a w fr κ r := by
  simp only [opK] at h
  split at h
  case h_2 => cases h
  rename_i td i k ht hv
  rw [hv] at hx hb
  obtain ⟨hi, b, o, h1, h2⟩ := hx
  have run : ∀ rv, (Instr.loadAt t (.pointer (some ⟨b, o + k, none⟩))).run P w = .ok rv w → (execOp a.eval (⟨dst, .load t x, ty, pos, after, guard⟩ : Oper)).run P w = .ok (.value rv) w := by
    intro rv hrv
    simp only [execOp, h2, Sem.run_bind, hrv, Result.andThen_ok]
    rfl
  unfold loadV at h
  split at h
  · rename_i s kd n xs hm
    obtain ⟨hl, hlim, hR, hB⟩ := (hb i (by simp [nameOf]) _ _ hm).1
    split at h
    · rename_i k'
      replace h := cond_none h
      obtain ⟨hk, h⟩ := h
      have hk := of_decide_eq_true hk
      rcases hB with hB | ⟨b', o', h3, h4⟩
      · omega
      · rw [h1] at h3
        cases h3
        have hc : w.cell? ⟨b, o + k, none⟩ = some (.int kd (xs.getD k 0)) := h4 k _ (by rw [List.getElem?_map, getD_of (by omega)]; rfl)
        exact owes_pure h (run _ (run_load_one (hE.ty _ _ ht).2.2.1 rfl hc)) ⟨rfl, inR_getD hR k⟩
    · rename_i n' k'
      replace h := cond_none h
      obtain ⟨hk, h⟩ := h
      obtain ⟨rfl, rfl⟩ := of_decide_eq_true hk
      obtain ⟨_, e, hu, _⟩ := (hE.ty _ _ ht).2.2
      rcases hB with hB | ⟨b', o', h3, h4⟩
      · have hxs : xs = [] := List.eq_nil_of_length_eq_zero (by omega)
        subst hxs
        refine owes_pure (rv := .agg #[]) h (run _ ?_) ⟨rfl, by simpa using hB.symm, hlim, hR⟩
        exact run_loadAt_mid w b (o + 0) t [] _ (fun j v hj => by simp at hj) hu rfl (by rw [(hE.ty _ _ ht).1]; simpa [Ty.size] using hB)
      · rw [h1] at h3
        cases h3
        refine owes_pure h (run _ (run_loadAt_mid w b (o + 0) t _ _ h4 hu rfl (by rw [(hE.ty _ _ ht).1]; simp [Ty.size, hl]))) ⟨rfl, hl, hlim, hR⟩
    · cases h
  · rename_i s vs hm
    obtain ⟨hw, hB⟩ := (hb i (by simp [nameOf]) _ _ hm).1
    obtain ⟨hk, h⟩ := cond_none h
    have hk := of_decide_eq_true hk
    split at h
    · rename_i v hc
      have hn : ((vs.drop k).take td.size).length = td.size := by simp; omega
      have hw' : wfL ((vs.drop k).take td.size) := fun y hy => hw y (List.mem_of_mem_drop (List.mem_of_mem_take hy))
      have hr : w.rangeAt b (o + k) ((vs.drop k).take td.size) := by
        rcases hB with rfl | ⟨b', o', h3, h4⟩
        · intro j v hj
          simp at hj
        · rw [h1] at h3
          cases h3
          exact rangeAt_take h4 k td.size
      obtain ⟨rv, h5, h6⟩ := load_cells (ρ := ρ) (m := m) hE ht hc hn hw' hr
      exact owes_pure (v := .o v) h (run _ h5) h6
    · cases h
  · cases h

/-! ### Stores -/
theorem heap_setCells (b : Nat) : ∀ (vs : List Value) (o : Nat) (w : World) (c : Array Value) (e : TypeId) (fr : Nat × Nat), w.heap[b]? = some (.cells c e fr) →
    ∃ c', (w.setCells b o vs).heap[b]? = some (.cells c' e fr) ∧ c'.size = c.size
  | [], _, _, c, _, _, h => ⟨c, h, rfl⟩
  | v :: vs, o, w, c, e, fr, h => by
    have h1 : (w.setCell ⟨b, o, none⟩ v).heap[b]? = some (.cells (c.setIfInBounds o v) e fr) := by
      simp only [World.setCell, Array.getElem?_modify, if_true, h]
      rfl
    obtain ⟨c', h2, h3⟩ := heap_setCells b vs (o + 1) _ _ _ _ h1
    exact ⟨c', h2, by simpa using h3⟩
theorem heap_setCells_ne (b k : Nat) (hk : k ≠ b) : ∀ (vs : List Value) (o : Nat) (w : World), (w.setCells b o vs).heap[k]? = w.heap[k]?
  | [], _, _ => rfl
  | v :: vs, o, w => by
    rw [World.setCells, heap_setCells_ne b k hk vs]
    exact Below.heap_setCell _ _ _ _ hk
theorem rest_setCells (b : Nat) : ∀ (vs : List Value) (o : Nat) (w : World), (w.setCells b o vs).heap.size = w.heap.size ∧ (w.setCells b o vs).os = w.os ∧ (w.setCells b o vs).tape = w.tape ∧ (w.setCells b o vs).output = w.output
  | [], _, _ => ⟨rfl, rfl, rfl, rfl⟩
  | v :: vs, o, w => by
    obtain ⟨h1, h2, h3, h4⟩ := rest_setCells b vs (o + 1) (w.setCell ⟨b, o, none⟩ v)
    exact ⟨h1.trans (by simp [World.setCell]), h2, h3, h4⟩

theorem run_store_cells {t : TypeId} {w : World} {b o : Nat} {v : Value} (hs : (P.info? t).map (·.size) = some v.cells.size) (ht : w.there b o v.cells.size) (h1 : ∀ x ∈ v.cells.toList, x.oneCell' = true) :
    (Instr.storeAt t (.pointer (some ⟨b, o, none⟩)) v).run P w = .ok () (w.setCells b o v.cells.toList) := by
  have := run_storeCells_cells (P := P) b o v.cells.toList 0 w (fun j hj => by simpa using (ht j (by simpa using hj)).1) (fun j hj => by simpa using (ht j (by simpa using hj)).2) h1
  simp only [Nat.add_zero] at this
  simp [Instr.storeAt, Instr.sureAddr, storeVar, run_sizeOf' w hs, this]
theorem wf_one {v : Value} (h : wfB v = true) : v.oneCell' = true := by
  cases v <;> first | rfl | cases h

/-- The store's effect on a block of the call's own. -/
theorem eff_put {i b k : Nat} {old new : List Value} {blk blk' : Blk} (vs : List Value) (hfw : i ∈ fr.1) (hm : m[i]? = some (.mine, blk)) (hb : ρ i = some (b, 0)) (hM : MineOK ρ w i) (hr : w.rangeAt b 0 old)
    (hk : k + vs.length ≤ old.length) (hn : new = splice old k vs) (hB : w.rangeAt b 0 new → BlkOK ρ w i blk' → True) (hbk : ∀ w' : World, w'.rangeAt b 0 new → BlkOK ρ w' i blk') (hd : blk' ≠ .dead) (hnn : ∀ k n xs, blk' = .w k n xs → blkN m i = some n) :
    w.there b k vs.length ∧ Eff ρ m w fr (.o .u) (m.set i (.mine, blk')) undef (w.setCells b k vs) ρ := by
  obtain ⟨_, c, e, hc⟩ := hM b 0 hb
  obtain ⟨c', hc', hsz⟩ := heap_setCells b vs k w c e (0, 0) hc
  have hcell : ∀ j, j < old.length → w.cell? ⟨b, j, none⟩ = some (old.getD j undef) := by
    intro j hj
    have := hr j (old.getD j undef) (by simp [List.getElem?_eq_getElem hj])
    simpa using this
  have hth : w.there b k vs.length := by
    intro j hj
    refine ⟨by rw [hcell (k + j) (by omega)]; rfl, ?_⟩
    simp [World.frozen?, hc]
  refine ⟨hth, Eff.put i b blk blk' _ hfw hm hb (rest_setCells b vs k w).1 (rest_setCells b vs k w).2 (fun q hq => heap_setCells_ne b q hq vs k w) ?_ (hbk _ ?_) ?_ hd hnn⟩
  · unfold bsize
    rw [hc, hc']
    exact hsz
  · subst hn
    intro j v hj
    rw [Nat.zero_add]
    unfold splice at hj
    by_cases h1 : j < k
    · rw [World.cell?_setCells_out b vs k w _ (fun _ _ => .inl (by simpa using h1)), hcell j (by omega)]
      rw [List.append_assoc, List.getElem?_append_left (by simp; omega), List.getElem?_take_of_lt h1] at hj
      simp [hj]
    · by_cases h2 : j < k + vs.length
      · have h3 := World.cell?_setCells_in b vs k w (fun q hq => (hth q hq).1) (j - k) (by omega)
        rw [show k + (j - k) = j from by omega] at h3
        rw [h3]
        rw [List.append_assoc, List.getElem?_append_right (by simp; omega), List.getElem?_append_left (by simp; omega)] at hj
        simp only [List.length_take, Nat.min_eq_left (show k ≤ old.length by omega)] at hj
        rw [List.getElem?_eq_getElem (by omega)] at hj
        exact hj
      · rw [World.cell?_setCells_out b vs k w _ (fun _ _ => .inr (by simp; omega))]
        rw [List.append_assoc, List.getElem?_append_right (by simp; omega), List.getElem?_append_right (by simp; omega), List.getElem?_drop] at hj
        simp only [List.length_take, Nat.min_eq_left (show k ≤ old.length by omega)] at hj
        rw [show k + vs.length + (j - k - vs.length) = j from by omega] at hj
        have := hr j v hj
        simpa using this
  · intro b' o' h'
    rw [hb] at h'
    cases h'
    exact ⟨rfl, c', e, hc'⟩

theorem splice_set {k : IntKind} (xs : List Int) (j : Nat) (v : Int) (hj : j < xs.length) : (xs.set j v).map (Value.int k) = splice (xs.map (Value.int k)) j [.int k v] := by
  unfold splice
  rw [List.map_set, List.set_eq_take_append_cons_drop]
  simp [hj]
theorem splice_all {α : Type} (old new : List α) (h : old.length = new.length) : new = splice old 0 new := by
  unfold splice
  simp [h]

theorem op_store (hE : EnvOK P E) (t : TypeId) (x y : Operand) (hfr : fr.1 = (nameOf (opnd tm x)).toList) (hx : VR ρ m w (opnd tm x) (a.eval x)) (hy : VR ρ m w (opnd tm y) (a.eval y)) (hb : Touch ρ m w (nameOf (opnd tm x)).toList) (h : opK E tm m (.store t x y) κ = some r) :
    Owes P ρ m ⟨dst, .store t x y, ty, pos, after, guard⟩ a w fr κ r := by
  simp only [opK] at h
  split at h
  case h_2 => cases h
  rename_i td i k v ht hv hv'
  rw [hv] at hx hb hfr
  have hfw : i ∈ fr.1 := by rw [hfr]; simp [nameOf]
  rw [hv'] at hy
  obtain ⟨hi, b, o, h1, h2⟩ := hx
  have hT := hE.ty _ _ ht
  have fin : ∀ {vs : List Value} {m' : Mem} {w' : World}, (Instr.storeAt t (.pointer (some ⟨b, o + k, none⟩)) (a.eval y)).run P w = .ok () w' → κ (.o .u) m' = some r →
      Eff ρ m w fr (.o .u) m' undef w' ρ → Owes P ρ m ⟨dst, .store t x y, ty, pos, after, guard⟩ a w fr κ r := by
    intro vs m' w' hr hκ he
    refine ⟨_, _, hκ, does_skip (w' := w') ?_ ⟨ρ, he⟩⟩
    simp only [execOp, h2, Sem.run_bind, hr, Result.andThen_ok]
    rfl
  unfold storeV at h
  split at h
  · rename_i kd n xs hm
    obtain ⟨⟨hl, hlim, hR, hB⟩, hM⟩ := hb i (by simp [nameOf]) _ _ hm
    have hM := hM rfl
    have ho : o = 0 := (hM b o h1).1
    subst ho
    split at h
    · rename_i kd' z
      replace h := cond_none h
      obtain ⟨hk, h⟩ := h
      obtain ⟨hk, rfl, hs⟩ := of_decide_eq_true hk
      obtain ⟨he, hwf⟩ := hy
      rcases hB with hB | ⟨b', o', h3, h4⟩
      · omega
      · rw [h1] at h3
        cases h3
        obtain ⟨g1, g2⟩ := eff_put (fr := fr) (blk' := .w kd' n (xs.set k z)) (k := k) [.int kd' z] hfw hm h1 hM h4 (by simp; omega) (splice_set xs k z (by omega)) (fun _ _ => trivial)
          (fun w' hw' => ⟨by simpa using hl, hlim, fun q hq => by
            rcases List.mem_or_eq_of_mem_set hq with hq | rfl
            · exact hR q hq
            · exact hwf, .inr ⟨b, 0, h1, hw'⟩⟩) (by intro e; cases e) (by intro _ _ _ e; cases e; unfold blkN; rw [hm])
        refine fin (vs := []) ?_ h g2
        have := run_store_cells (P := P) (t := t) (w := w) (b := b) (o := k) (v := a.eval y) (by rw [hT.1, he, hs]; rfl) (by rw [he]; exact g1) (by rw [he]; simp [Value.cells, Value.oneCell'])
        rw [Nat.zero_add, this, he]
        rfl
    · rename_i kd' n' ys
      replace h := cond_none h
      obtain ⟨hk, h⟩ := h
      obtain ⟨rfl, rfl, rfl, hs⟩ := of_decide_eq_true hk
      obtain ⟨he, hl', _, hR'⟩ := hy
      rcases hB with hB | ⟨b', o', h3, h4⟩
      · subst hB
        have hxs : xs = [] := List.eq_nil_of_length_eq_zero hl
        have hys : ys = [] := List.eq_nil_of_length_eq_zero hl'
        subst hxs
        subst hys
        obtain ⟨g1, g2⟩ := eff_put (fr := fr) (blk' := .w kd' 0 []) (k := 0) (old := []) (new := []) [] hfw hm h1 hM (fun j v hj => by simp at hj) (by simp) rfl (fun _ _ => trivial) (fun w' hw' => ⟨rfl, hlim, hR, .inl rfl⟩) (by intro e; cases e) (by intro _ _ _ e; cases e; unfold blkN; rw [hm])
        refine fin (vs := []) ?_ h g2
        have := run_store_cells (P := P) (t := t) (w := w) (b := b) (o := 0) (v := a.eval y) (by rw [hT.1, he, hs]; rfl) (by rw [he]; exact g1) (by rw [he]; simp [Value.cells])
        rw [Nat.zero_add, this, he]
        rfl
      · rw [h1] at h3
        cases h3
        obtain ⟨g1, g2⟩ := eff_put (fr := fr) (blk' := .w kd' n' ys) (k := 0) (new := ys.map (Value.int kd')) (ys.map (Value.int kd')) hfw hm h1 hM h4 (by simp; omega) (splice_all _ _ (by simp; omega)) (fun _ _ => trivial)
          (fun w' hw' => ⟨hl', hlim, hR', .inr ⟨b, 0, h1, hw'⟩⟩) (by intro e; cases e) (by intro _ _ _ e; cases e; unfold blkN; rw [hm])
        refine fin (vs := []) ?_ h g2
        have := run_store_cells (P := P) (t := t) (w := w) (b := b) (o := 0) (v := a.eval y) (by rw [hT.1, he, hs]; simp [Value.cells, hl']) (by rw [he]; simpa [Value.cells] using g1) (by rw [he]; simp [Value.cells, Value.oneCell'])
        rw [Nat.zero_add, this, he]
        simp [Value.cells]
    · cases h
  · rename_i vs hm
    obtain ⟨⟨hw, hB⟩, hM⟩ := hb i (by simp [nameOf]) _ _ hm
    have hM := hM rfl
    have ho : o = 0 := (hM b o h1).1
    subst ho
    split at h
    · rename_i cs hcs
      replace h := cond_none h
      obtain ⟨hk, h⟩ := h
      obtain ⟨hk, hs⟩ := of_decide_eq_true hk
      have hq : realOf (.o v) = some (a.eval y) ∧ (a.eval y).cells.toList = cs ∧ wfL cs := by
        cases v with
        | p v =>
          obtain ⟨rfl, hwf⟩ := hy
          cases hcs
          have hc : (a.eval y).cells = #[a.eval y] := by
            generalize a.eval y = q at hwf
            cases q <;> first | rfl | cases hwf
          exact ⟨rfl, by rw [hc], fun q hq => by simp at hq; subst hq; exact hwf⟩
        | r kd n xs =>
          obtain ⟨he, hl, _, hR⟩ := hy
          cases hcs
          rw [he, cellsW_eq _ _ _ hl]
          exact ⟨by simp [realOf, cellsW_eq _ _ _ hl], by simp [Value.cells], fun q hq => by
            obtain ⟨z, hz, rfl⟩ := List.mem_map.1 hq
            exact hR z hz⟩
        | g vs =>
          obtain ⟨he, hwf⟩ := hy
          cases hcs
          rw [he]
          exact ⟨rfl, by simp [Value.cells], hwf⟩
        | _ => cases hcs
      obtain ⟨_, hq2, hq3⟩ := hq
      have hwn : wfL (splice vs k cs) := by
        intro q hq
        simp only [splice, List.mem_append] at hq
        rcases hq with (hq | hq) | hq
        · exact hw q (List.mem_of_mem_take hq)
        · exact hq3 q hq
        · exact hw q (List.mem_of_mem_drop hq)
      have hr : w.rangeAt b 0 vs := by
        rcases hB with rfl | ⟨b', o', h3, h4⟩
        · intro j v hj
          simp at hj
        · rw [h1] at h3
          cases h3
          exact h4
      obtain ⟨g1, g2⟩ := eff_put (fr := fr) (blk' := .c (splice vs k cs)) (k := k) cs hfw hm h1 hM hr hk rfl (fun _ _ => trivial) (fun w' hw' => ⟨hwn, .inr ⟨b, 0, h1, hw'⟩⟩) (by intro e; cases e) (by intro _ _ _ e; cases e)
      refine fin (vs := []) ?_ h g2
      have hlen : (a.eval y).cells.size = cs.length := by rw [← hq2]; simp
      have := run_store_cells (P := P) (t := t) (w := w) (b := b) (o := k) (v := a.eval y) (by rw [hT.1, hs, hlen]) (by rw [hlen]; exact g1) (by rw [hq2]; exact fun q hq => wf_one (hq3 q hq))
      rw [Nat.zero_add, this, hq2]
    · cases h
  · cases h
end ops
end Go.Vm
