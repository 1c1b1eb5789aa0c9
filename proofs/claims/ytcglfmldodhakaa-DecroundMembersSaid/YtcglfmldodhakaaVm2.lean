/-
  The evaluator is right: append and copy, regions that draw their order, loops, calls, equality of arrays and structs. No statement is proved here.
-/
import Derived.Test.YtcglfmldodhakaaVm1
import Derived.Deep.AppendSrc
import Derived.Deep.Upon
import Derived.LoopN
import Derived.DeepKeys

namespace Go.Vm
open Go.RowKit (Below)
variable {P : Program}

section
variable {B : Nat} {w0 : World} {ab : Nat → Prop} {ρ : Nm} {m : Mem} {w : World} {i : Nat} {blk : Blk}

theorem get_set_dead {j : Nat} {p : Own × Blk} (hi : i < m.length) (h : (m.set i (Own.old, Blk.dead))[j]? = some p) : (j = i ∧ p = (.old, .dead)) ∨ (j ≠ i ∧ m[j]? = some p) := by
  by_cases e : i = j
  · subst e
    rw [List.getElem?_set_self hi] at h
    exact .inl ⟨rfl, (Option.some.inj h).symm⟩
  · rw [List.getElem?_set_ne e] at h
    exact .inr ⟨fun h => e h.symm, h⟩

/-- A block of the call's own is given up. -/
theorem Inv.kill (hI : Inv B w0 ab ρ m w) (hm : m[i]? = some (.mine, blk)) : Inv B w0 ab ρ (m.set i (.old, .dead)) w ∧ Keeps ρ m w ρ (m.set i (.old, .dead)) w := by
  have hi : i < m.length := (List.getElem?_eq_some_iff.1 hm).1
  have get := fun {j p} => get_set_dead (m := m) (i := i) (j := j) (p := p) hi
  refine ⟨⟨hI.below, hI.ble, ?_, ?_, ?_, ?_, ?_, hI.lt, fun j hj => hI.dom j (by simpa using hj), hI.abB, ?_⟩, ?_⟩
  · intro j s b h
    replace h := get h; rcases h with ⟨rfl, h⟩ | ⟨_, h⟩
    · cases h; trivial
    · exact hI.blk j s b h
  · intro j b h
    replace h := get h; rcases h with ⟨rfl, h⟩ | ⟨_, h⟩
    · cases h
    · exact hI.mine j b h
  · intro j b j' s b' c o o' h h' hd hc hc'
    replace h := get h; rcases h with ⟨rfl, h⟩ | ⟨_, h⟩
    · cases h
    · replace h' := get h'; rcases h' with ⟨rfl, h'⟩ | ⟨_, h'⟩
      · cases h'; exact absurd rfl hd
      · exact hI.apart j b j' s b' c o o' h h' hd hc hc'
  · intro j b h
    replace h := get h; rcases h with ⟨rfl, h⟩ | ⟨_, h⟩
    · cases h
    · exact hI.new j b h
  · intro j b h c o hc
    replace h := get h; rcases h with ⟨rfl, h⟩ | ⟨_, h⟩
    · exact .inl ((hI.mine j blk hm).2 c o hc)
    · exact hI.old j b h c o hc
  · intro j b h
    replace h := get h; rcases h with ⟨rfl, h⟩ | ⟨_, h⟩
    · cases h
    · exact hI.live j b h
  · intro x rx hx
    exact VR.mono (fun _ _ _ _ hc => ⟨hc, rfl⟩) (StLe.set m i .old .dead (fun h => by cases h) (fun _ _ _ e => by cases e)) hx

def nameAs (ρ : Nm) (n i : Nat) : Nm := fun j => if j = n then ρ i else ρ j

/-- A block of the call's own goes on under a new name. -/
theorem Inv.move (hI : Inv B w0 ab ρ m w) (hm : m[i]? = some (.mine, blk)) (blk' : Blk) (hd' : blk' ≠ .dead) (hb : BlkOK (nameAs ρ m.length i) w m.length blk') :
    Inv B w0 ab (nameAs ρ m.length i) (m.set i (.old, .dead) ++ [(.mine, blk')]) w ∧ Keeps ρ m w (nameAs ρ m.length i) (m.set i (.old, .dead) ++ [(.mine, blk')]) w := by
  have hi : i < m.length := (List.getElem?_eq_some_iff.1 hm).1
  obtain ⟨hK, hkeep⟩ := hI.kill hm
  have old : ∀ j, j ≠ m.length → nameAs ρ m.length i j = ρ j := fun j hj => if_neg hj
  have new : nameAs ρ m.length i m.length = ρ i := if_pos rfl
  have get : ∀ {j : Nat} {p : Own × Blk}, (m.set i (Own.old, Blk.dead) ++ [(Own.mine, blk')])[j]? = some p → (j ≠ m.length ∧ (m.set i (Own.old, Blk.dead))[j]? = some p) ∨ (j = m.length ∧ p = (.mine, blk')) := by
    intro j p h
    by_cases hj : j < m.length
    · rw [List.getElem?_append_left (by simpa using hj)] at h
      exact .inl ⟨by omega, h⟩
    · rw [List.getElem?_append_right (by simpa using hj)] at h
      have hlt := (List.getElem?_eq_some_iff.1 h).1
      simp at hlt
      have : j = m.length := by omega
      subst this
      simp at h
      exact .inr ⟨rfl, h.symm⟩
  refine ⟨⟨hK.below, hK.ble, ?_, ?_, ?_, ?_, ?_, ?_, ?_, hK.abB, ?_⟩, ?_⟩
  · intro j s b h
    replace h := get h; rcases h with ⟨hj, h⟩ | ⟨rfl, h⟩
    · exact (hK.blk j s b h).keep (old j hj) (fun _ _ _ => rfl)
    · cases h; exact hb
  · intro j b h
    replace h := get h; rcases h with ⟨hj, h⟩ | ⟨rfl, h⟩
    · obtain ⟨g1, g2⟩ := hK.mine j b h
      exact ⟨g1.keep (old j hj) (fun _ _ _ => rfl), fun c o hc => g2 c o (by rw [← old j hj]; exact hc)⟩
    · obtain ⟨g1, g2⟩ := hI.mine i blk hm
      exact ⟨fun c o hc => g1 c o (by rw [← new]; exact hc), fun c o hc => g2 c o (by rw [← new]; exact hc)⟩
  · intro j b j' s b' c o o' h h' hd hc hc'
    replace h := get h; rcases h with ⟨hj, h⟩ | ⟨rfl, h⟩
    · rw [old j hj] at hc
      replace h' := get h'; rcases h' with ⟨hj', h'⟩ | ⟨rfl, h'⟩
      · rw [old j' hj'] at hc'
        exact hK.apart j b j' s b' c o o' h h' hd hc hc'
      · rw [new] at hc'
        replace h := get_set_dead hi h; rcases h with ⟨_, h⟩ | ⟨hne, h⟩
        · cases h
        · exact absurd (hI.apart j b i .mine blk c o o' h hm (hI.live i blk hm) hc hc') hne
    · rw [new] at hc
      replace h' := get h'; rcases h' with ⟨hj', h'⟩ | ⟨rfl, h'⟩
      · rw [old j' hj'] at hc'
        replace h' := get_set_dead hi h'; rcases h' with ⟨_, h'⟩ | ⟨hne, h'⟩
        · cases h'; exact absurd rfl hd
        · exact absurd (hI.apart i blk j' s b' c o o' hm h' hd hc hc').symm hne
      · rfl
  · intro j b h c o hc
    replace h := get h; rcases h with ⟨hj, h⟩ | ⟨rfl, h⟩
    · exact hK.new j b h c o (by rw [← old j hj]; exact hc)
    · cases h
  · intro j b h c o hc
    replace h := get h; rcases h with ⟨hj, h⟩ | ⟨rfl, h⟩
    · exact hK.old j b h c o (by rw [← old j hj]; exact hc)
    · cases h
  · intro j c o hc
    by_cases hj : j = m.length
    · subst hj; exact hI.lt i c o (by rw [← new]; exact hc)
    · exact hI.lt j c o (by rw [← old j hj]; exact hc)
  · intro j hj
    simp at hj
    rw [old j (by omega)]
    exact hI.dom j (by omega)
  · intro j b h
    replace h := get h; rcases h with ⟨hj, h⟩ | ⟨rfl, h⟩
    · exact hK.live j b h
    · cases h; exact hd'
  · intro x rx hx
    refine VR.mono (fun j c o hj hc => ⟨by rw [old j (by simp at hj; omega)]; exact hc, rfl⟩) (StLe.append _ _) (hkeep x rx hx)
end
theorem VR.drawn {ρ : Nm} {m : Mem} {w : World} {k : Nat} {x : V} {r : Value} (h : VR ρ m w x r) : VR ρ m { w with drawn := k } x r := h.mono (fun _ _ _ _ h => ⟨h, rfl⟩) (StLe.refl m)
theorem Inv.drawn {B : Nat} {w0 : World} {ab : Nat → Prop} {ρ : Nm} {m : Mem} {w : World} (h : Inv B w0 ab ρ m w) (k : Nat) : Inv B w0 ab ρ m { w with drawn := k } := by
  refine ⟨⟨h.below.os, h.below.tape, h.below.output, h.below.size, h.below.block⟩, h.ble, ?_, h.mine, h.apart, h.new, h.old, h.lt, h.dom, h.abB, h.live⟩
  intro i s b hb
  exact (h.blk i s b hb).keep (w' := { w with drawn := k }) rfl (fun _ _ _ => rfl)

end Go.Vm

namespace Go.Vm
open Go.RowKit (Below)
variable {P : Program}

theorem set_same' {α : Type} (m : List α) (i : Nat) (v : α) (h : m[i]? = some v) : m.set i v = m := by
  obtain ⟨hl, he⟩ := List.getElem?_eq_some_iff.1 h
  apply List.ext_getElem
  · simp
  · intro j h1 h2
    by_cases e : i = j
    · subst e; simp [he]
    · rw [List.getElem_set_ne e]

/-- What is appended. -/
theorem src_of {E : Env} (hE : EnvOK P E) {tx e : TypeId} (ht : E.ty tx = some (.sl e)) {w : World} {kd : IntKind} {ys : List Int} {rv : Value} (hd : DR w (.w kd ys) rv) :
    Src P 1 tx rv ys.length (ys.map (Value.int kd)) w := by
  have hu : P.underlying tx = some (.slice e) := (hE.ty _ _ ht).2.2
  obtain ⟨ad, cap, rfl, _, _, _, h⟩ := hd
  have one : ∀ u ∈ ys.map (Value.int kd), u.oneCell' = true := by
    intro u hu
    obtain ⟨_, _, rfl⟩ := List.mem_map.1 hu
    rfl
  cases ad with
  | none =>
    rcases h with h | ⟨b, o, h, _⟩
    · have : ys = [] := List.eq_nil_of_length_eq_zero h
      subst this
      exact Src.ofNil w hu cap
    · cases h
  | some ad =>
    refine Src.ofSlice w hu ad ys.length cap _ (by simp) (fun j u hj => ?_) one
    rcases h with h | ⟨b, o, h, h'⟩
    · have : ys = [] := List.eq_nil_of_length_eq_zero h
      subst this
      simp at hj
    · cases h
      have := h' j u hj
      simpa [Addr.add_lit] using this

/-- There is no room: a new row. -/
theorem grow_run {E : Env} (hE : EnvOK P E) {t tx e : TypeId} {kd : IntKind} (ht : E.ty t = some (.sl e)) (he : E.ty e = some (.i kd)) {w : World} {x : Value} {ys : List Int} (hs : Src P 1 tx x ys.length (ys.map (Value.int kd)) w)
    (ty : TypeId) (base : Option Addr) (sCap : Nat) (xs : List Int) (hold : (Builtin.firstCells 1 xs.length (.slice base xs.length sCap)).run P w.drew = .ok (xs.map (Value.int kd)).toArray w.drew)
    (hg : sCap < xs.length + ys.length) (hfit : xs.length + ys.length ≤ 17592186044416) :
    ∃ cap cs, (Builtin.append_ #[t, tx] ty #[.slice base xs.length sCap, x]).run P w = .ok (.slice (some ⟨w.heap.size, 0, none⟩) (xs.length + ys.length) cap) (w.drew.alloc (.cells cs e)) ∧
      xs.length + ys.length ≤ cap ∧ cap ≤ cs.size ∧ ∀ (j : Nat) (v : Value), ((xs ++ ys).map (Value.int kd))[j]? = some v → cs[j]? = some v := by
  have hu : P.underlying t = some (.slice e) := (hE.ty _ _ ht).2.2
  obtain ⟨h1, h2, _, bb, h3, h4⟩ := hE.ty _ _ he
  cases hi : P.info? e with
  | none => simp [hi] at h1
  | some i =>
    have hsz : i.size = 1 := by simpa [hi, Ty.size] using h1
    have hz : i.zero = some (.int kd 0) := by simpa [hi, Ty.real] using h2
    have hb : i.bytes = bb := by simpa [hi] using h3
    have hfit' : Builtin.nextslicecap (xs.length + ys.length) sCap * i.bytes ≤ 281474976710656 := by
      refine growslice_fits hg ?_
      have : (xs.length + ys.length) * i.bytes ≤ 17592186044416 * 8 := Nat.mul_le_mul hfit (by omega)
      omega
    have hrun := run_append_grow_src w t tx ty e i (.int kd 0) hu hi hz base xs.length sCap (xs.map (Value.int kd)) (by rw [hsz]; exact hold) x ys.length (ys.map (Value.int kd)) (by rw [hsz]; exact hs) hg (by omega) hfit'
    refine ⟨_, _, hrun, grownCap_ge _ _ _ _, ?_, ?_⟩
    · have := grownCap_ge w (xs.length + ys.length) sCap e
      simp [Builtin.zeroCells, Value.cells]
      omega
    · intro j v hj
      have hlt : j < xs.length + ys.length := by
        have := (List.getElem?_eq_some_iff.1 hj).1
        simpa using this
      rw [List.map_append] at hj
      rw [Array.getElem?_append_left (by simpa using hlt)]
      simpa using hj

section
variable {E : Env} {B : Nat} {w0 : World} {ab : Nat → Prop} {ρ : Nm} {tm : List V} {m : Mem} {a : Act} {w : World} {κ : V → Mem → R} {r : List (Own × D)} {dst : Option Tmp} {ty : TypeId} {pos : String} {after : Array Edge} {guard : Option (Nat × Bool)}

/-- A new row, as the call's own block. -/
theorem new_row (hI : Inv B w0 ab ρ m w) {cs : Array Value} {e : TypeId} {kd : IntKind} {zs : List Int} {cap : Nat} (h1 : zs.length ≤ cap) (h2 : cap ≤ cs.size) (h3 : zs.length ≤ lim) (hr : inR kd zs) (hc : ∀ (j : Nat) (v : Value), (zs.map (Value.int kd))[j]? = some v → cs[j]? = some v) :
    ∃ ρ', Inv B w0 ab ρ' (m ++ [(.mine, .w kd zs.length zs)]) (w.drew.alloc (.cells cs e)) ∧ Keeps ρ m w ρ' (m ++ [(.mine, .w kd zs.length zs)]) (w.drew.alloc (.cells cs e)) ∧
      VR ρ' (m ++ [(.mine, .w kd zs.length zs)]) (w.drew.alloc (.cells cs e)) (.o (.f m.length)) (.slice (some ⟨w.heap.size, 0, none⟩) zs.length cap) := by
  have hI' : Inv B w0 ab ρ m w.drew := hI.drawn _
  have he := eff_new (ρ := ρ) (m := m) (w := w.drew) (fr := ([], [])) cs e (.w kd zs.length zs) (.o (.f m.length)) (.slice (some ⟨w.drew.heap.size, 0, none⟩) zs.length cap) ⟨rfl, h3, hr, hc⟩ (vr_news cs e kd zs.length cap zs h1 h2 h3)
  obtain ⟨g1, g2, g3⟩ := hI'.eff he
  exact ⟨_, g1, fun x rx hx => g2 x rx hx.drawn, g3⟩
/-- Cells written behind those that are told. -/
theorem push_put {i b : Nat} {blk : Blk} (old news : List Value) (hm : m[i]? = some (.mine, blk)) (hb : ρ i = some (b, 0)) (hM : MineOK ρ w i) (hr : w.rangeAt b 0 old) (hsz : old.length + news.length ≤ bsize w b) (hwf : wfL (old ++ news)) :
    (∀ j, j < news.length → (w.cell? ⟨b, old.length + j, none⟩).isSome = true) ∧ (∀ j, j < news.length → w.frozen? ⟨b, old.length + j, none⟩ = false) ∧
      (w.setCells b old.length news).rangeAt b 0 (old ++ news) ∧ Eff ρ m w ([i], []) (.o .u) (m.set i (.mine, .c (old ++ news))) undef (w.setCells b old.length news) ρ := by
  obtain ⟨_, c, e, hc⟩ := hM b 0 hb
  obtain ⟨c', hc', hsz'⟩ := heap_setCells b news old.length w c e (0, 0) hc
  have hcs : bsize w b = c.size := by unfold bsize; rw [hc]
  have h1 : ∀ j, j < news.length → (w.cell? ⟨b, old.length + j, none⟩).isSome = true := by
    intro j hj
    unfold World.cell?
    simp only [hc]
    rw [Array.getElem?_eq_getElem (by omega)]
    rfl
  have hR : (w.setCells b old.length news).rangeAt b 0 (old ++ news) := by
    intro j v hj
    rw [Nat.zero_add]
    by_cases hl : j < old.length
    · rw [World.cell?_setCells_out b news old.length w _ (fun _ _ => .inl (by simpa using hl))]
      rw [List.getElem?_append_left hl] at hj
      have := hr j v hj
      simpa using this
    · have hl2 : j - old.length < news.length := by
        have := (List.getElem?_eq_some_iff.1 hj).1
        simp at this
        omega
      have h3 := World.cell?_setCells_in b news old.length w h1 (j - old.length) hl2
      rw [show old.length + (j - old.length) = j from by omega] at h3
      rw [h3]
      rw [List.getElem?_append_right (by omega), List.getElem?_eq_getElem hl2] at hj
      exact hj
  refine ⟨h1, fun j _ => by simp [World.frozen?, hc], hR, ?_⟩
  refine Eff.put i b blk _ _ (by simp) hm hb (rest_setCells b news old.length w).1 (rest_setCells b news old.length w).2 (fun q hq => heap_setCells_ne b q hq news old.length w) ?_ ⟨hwf, .inr ⟨b, 0, hb, hR⟩⟩ ?_ (by intro e; cases e) (by intro _ _ _ e; cases e)
  · unfold bsize
    rw [hc, hc']
    exact hsz'
  · intro b' o' h'
    rw [hb] at h'
    cases h'
    exact ⟨rfl, c', e, hc'⟩

theorem append_owes (hE : EnvOK P E) (hI : Inv B w0 ab ρ m w) (s x : Operand) (t tx : TypeId) (hs : VR ρ m w (opnd tm s) (a.eval s)) (hx : VR ρ m w (opnd tm x) (a.eval x)) (hb : Touch ρ m w (nameOf (opnd tm x)).toList)
    (h : builtinK E .append [t, tx] m [opnd tm s, opnd tm x] κ = some r) : ∃ v m', κ v m' = some r ∧ Does P ⟨dst, .call ⟨.builtin .append, #[s, x], #[t, tx]⟩, ty, pos, after, guard⟩ a w fun rv w' => ∃ ρ', Inv B w0 ab ρ' m' w' ∧ Keeps ρ m w ρ' m' w' ∧ VR ρ' m' w' v rv := by
  simp only [builtinK] at h
  split at h
  case h_2 => cases h
  rename_i kd e' hk ht2
  obtain ⟨e, ht, he⟩ : ∃ e, E.ty t = some (.sl e) ∧ E.ty e = some (.i kd) := by
    unfold kindOf at hk
    split at hk
    · rename_i e ht
      split at hk
      · rename_i k he
        cases hk
        exact ⟨e, ht, he⟩
      · cases hk
    · cases hk
  have fin : ∀ {rv : Value} {w' : World} {post : Value → World → Prop}, (Builtin.append_ #[t, tx] ty #[a.eval s, a.eval x]).run P w = .ok rv w' → post rv w' → Does P ⟨dst, .call ⟨.builtin .append, #[s, x], #[t, tx]⟩, ty, pos, after, guard⟩ a w post := by
    intro rv w' post hr hp
    refine does_value (w' := w') (rv := rv) ?_ hp
    rw [run_builtin]
    simp [builtin, hr]
  unfold appendK at h
  replace h := content_dr hx hb h
  obtain ⟨d, h, hd, -⟩ := h
  split at h
  case h_2 => cases h
  rename_i kd' ys
  split at h
  · rename_i hv
    replace h := cond_none h
    obtain ⟨hc, h⟩ := h
    obtain ⟨rfl, hlen⟩ := of_decide_eq_true hc
    have hsrc := src_of hE ht2 hd
    rw [hv] at hs
    obtain ⟨ad, hs⟩ := hs
    have hR : inR kd ys := by obtain ⟨_, _, _, _, _, h, _⟩ := hd; exact h
    refine ⟨_, _, h, ?_⟩
    by_cases h0 : ys.length = 0
    · have hy : ys = [] := List.eq_nil_of_length_eq_zero h0
      subst hy
      obtain ⟨i1, hi1, hsz⟩ : ∃ i, P.info? e = some i ∧ i.size = 1 := by
        have h1 := (hE.ty _ _ he).1
        cases hi : P.info? e with
        | none => simp [hi] at h1
        | some i => exact ⟨i, rfl, by simpa [hi, Ty.size] using h1⟩
      have hrun := run_append_nothing (P := P) w t tx ty e i1 (hE.ty _ _ ht).2.2 hi1 ad 0 0 (Nat.le_refl _) (a.eval x) (by rw [hsz]; exact hsrc)
      refine fin (by rw [hs]; exact hrun) ?_
      have he' : Eff ρ m w ([], []) (.o (.f m.length)) (m ++ [(.mine, .w kd 0 [])]) (.slice ad 0 0) w ρ := by
        refine Eff.ext _ ρ _ _ w (Below.refl _ _) (fun _ _ => rfl) ?_ ?_
        · have hdom : ρ m.length = none := hI.dom _ (Nat.le_refl _)
          have one : ∀ {j : Nat} {p : Own × Blk}, ([(Own.mine, Blk.w kd 0 [])] : Mem)[j]? = some p → j = 0 ∧ p = (.mine, .w kd 0 []) := by
            intro j p h
            cases j with
            | zero => simp at h; exact ⟨rfl, h.symm⟩
            | succ j => simp at h
          refine ⟨?_, ?_, ?_, ?_, ?_, ?_, ?_⟩
          · intro j s b h
            obtain ⟨rfl, h⟩ := one h
            cases h
            exact ⟨rfl, Nat.zero_le _, fun _ h => (by cases h), .inl rfl⟩
          · intro j b h
            obtain ⟨rfl, h⟩ := one h
            exact ⟨fun c o hc => (by rw [Nat.add_zero, hdom] at hc; cases hc), fun c o hc => (by rw [Nat.add_zero, hdom] at hc; cases hc)⟩
          · intro j b j' c o o' h h' _ _
            obtain ⟨rfl, _⟩ := one h
            simp at h'
            omega
          · intro j b h
            obtain ⟨_, h⟩ := one h
            cases h
          · intro j b h
            obtain ⟨_, h⟩ := one h
            cases h
          · intro j s b h
            obtain ⟨_, h⟩ := one h
            cases h
            intro e
            cases e
          · intro j c o h hc
            have : j = 0 := by simp at h; omega
            subst this
            rw [Nat.add_zero, hdom] at hc
            cases hc
        · refine ⟨by simp, fun n hn => ?_⟩
          have : n = 0 := by simp [blkN] at hn; exact hn.symm
          subst this
          exact ⟨by simp, ad, 0, rfl, Nat.le_refl _, Nat.zero_le _, .inl rfl, fun _ => .inl rfl⟩
      obtain ⟨g1, g2, g3⟩ := hI.eff he'
      exact ⟨ρ, g1, g2, g3⟩
    · obtain ⟨cap, cs, hrun, k1, k2, k3⟩ := grow_run hE ht he hsrc ty ad 0 [] (by cases ad <;> first | exact run_firstCells_none _ _ _ _ _ | exact run_firstCells_some _ _ _ _ _ _ [] (by simp) (by simp)) (by simp; omega) (by simpa using hlen)
      simp only [List.length_nil, Nat.zero_add, List.nil_append] at hrun k1 k2 k3
      obtain ⟨ρ', g1, g2, g3⟩ := new_row hI k1 k2 (by unfold lim; omega) hR k3
      exact fin (by rw [hs]; exact hrun) ⟨ρ', g1, g2, g3⟩
  · rename_i i hv
    split at h
    case h_2 => cases h
    rename_i kx nx xs hm
    replace h := cond_none h
    obtain ⟨hc, h⟩ := h
    obtain ⟨rfl, rfl, hne, hlen⟩ := of_decide_eq_true hc
    refine ⟨_, _, h, ?_⟩
    have hsrc := src_of hE ht2 hd
    have hRy : inR kx ys := by obtain ⟨_, _, _, _, _, h, _⟩ := hd; exact h
    rw [hv] at hs
    obtain ⟨_, hs⟩ := hs
    obtain ⟨_, ad, cap, hsv, hcap, _, _, hmc⟩ := hs nx (by unfold blkN; rw [hm])
    obtain ⟨hxl, _, hRx, hrange⟩ := hI.blk i _ _ hm
    have hmc := hmc ⟨_, hm⟩
    have hR : inR kx (xs ++ ys) := fun z hz => (List.mem_append.1 hz).elim (hRx z) (hRy z)
    obtain ⟨i1, hi1, hsz1⟩ : ∃ i, P.info? e = some i ∧ i.size = 1 := by
      have h1 := (hE.ty _ _ he).1
      cases hi : P.info? e with
      | none => simp [hi] at h1
      | some i => exact ⟨i, rfl, by simpa [hi, Ty.size] using h1⟩
    have hu : P.underlying t = some (.slice e) := (hE.ty _ _ ht).2.2
    have hlen3 : (xs ++ ys).length = nx + ys.length := by simp; omega
    by_cases hroom : nx + ys.length ≤ cap
    · have hil : i < m.length := (List.getElem?_eq_some_iff.1 hm).1
      rcases hmc with hc0 | ⟨b, hb1, hb2, hb3⟩
      · have hx0 : xs = [] := List.eq_nil_of_length_eq_zero (by omega)
        have hy0 : ys = [] := List.eq_nil_of_length_eq_zero (by omega)
        have hn0 : nx = 0 := by omega
        subst hx0
        subst hy0
        subst hn0
        subst hc0
        have hrun := run_append_nothing (P := P) w t tx ty e i1 hu hi1 ad 0 0 (Nat.le_refl _) (a.eval x) (by rw [hsz1]; exact hsrc)
        obtain ⟨g1, g2⟩ := hI.move hm (.w kx 0 []) (by intro e; cases e) ⟨rfl, Nat.zero_le _, fun _ h => (by cases h), .inl rfl⟩
        refine fin (by rw [hsv]; exact hrun) ⟨_, g1, g2, by simp, fun n hn => ?_⟩
        have : n = 0 := by simp [blkN] at hn; exact hn.symm
        subst this
        exact ⟨by simp, ad, 0, rfl, Nat.le_refl _, Nat.zero_le _, .inl rfl, fun _ => .inl rfl⟩
      · subst hb2
        have hr0 : w.rangeAt b 0 (xs.map (Value.int kx)) := by
          rcases hrange with h0 | ⟨b', o, h1, h2⟩
          · have : xs = [] := List.eq_nil_of_length_eq_zero (by omega)
            subst this
            intro j v hj
            simp at hj
          · rw [hb1] at h1
            cases h1
            exact h2
        have hwf : wfL (xs.map (Value.int kx) ++ ys.map (Value.int kx)) := by
          intro v hv
          rw [← List.map_append] at hv
          obtain ⟨z, hz, rfl⟩ := List.mem_map.1 hv
          exact hR z hz
        obtain ⟨q1, q2, q3, q4⟩ := push_put (xs.map (Value.int kx)) (ys.map (Value.int kx)) hm hb1 (hI.mine i _ hm).1 hr0 (by simp; omega) hwf
        have hrun := run_append_room_src w t tx ty e i1 hu hi1 b 0 nx cap (a.eval x) ys.length (ys.map (Value.int kx)) (by rw [hsz1]; exact hsrc) hroom
          (fun j hj => by have := q1 j hj; rw [hsz1]; simpa [hxl] using this) (fun j hj => by have := q2 j hj; rw [hsz1]; simpa [hxl] using this)
        have hidx : 0 + nx * i1.size = (xs.map (Value.int kx)).length := by rw [hsz1]; simp; omega
        rw [hidx] at hrun
        obtain ⟨g1, g2, _⟩ := hI.eff q4
        have hm1 : (m.set i (Own.mine, Blk.c (xs.map (Value.int kx) ++ ys.map (Value.int kx))))[i]? = some (.mine, .c (xs.map (Value.int kx) ++ ys.map (Value.int kx))) := List.getElem?_set_self hil
        have hmv := g1.move hm1 (.w kx (nx + ys.length) (xs ++ ys)) (by intro e; cases e) ⟨hlen3, by unfold lim; omega, hR, .inr ⟨b, 0, by rw [nameAs, if_pos rfl, hb1], by rw [List.map_append]; exact q3⟩⟩
        rw [List.set_set, List.length_set] at hmv
        obtain ⟨k1, k2⟩ := hmv
        refine fin (by rw [hsv]; exact hrun) ⟨_, k1, fun x rx hx => k2 x rx (g2 x rx hx), ?_⟩
        refine ⟨by simp, fun n hn => ?_⟩
        have : n = nx + ys.length := by simp [blkN] at hn; omega
        subst this
        refine ⟨by simp, _, cap, rfl, hroom, by unfold lim; omega, .inr ⟨b, 0, by rw [nameAs, if_pos rfl, hb1], rfl⟩, fun _ => .inr ⟨b, by rw [nameAs, if_pos rfl, hb1], rfl, ?_⟩⟩
        have hz : bsize (w.setCells b (xs.map (Value.int kx)).length (ys.map (Value.int kx))) b = bsize w b := by
          obtain ⟨_, c, e0, hc0⟩ := (hI.mine i _ hm).1 b 0 hb1
          obtain ⟨c', hc', hs'⟩ := heap_setCells b (ys.map (Value.int kx)) (xs.map (Value.int kx)).length w c e0 (0, 0) hc0
          unfold bsize
          rw [hc0, hc']
          exact hs'
        rw [hz]
        exact hb3
    · have hold : (Builtin.firstCells 1 xs.length (.slice ad xs.length cap)).run P w.drew = .ok (xs.map (Value.int kx)).toArray w.drew := by
        cases ad with
        | none =>
          rcases hrange with h0 | ⟨b, o, h1, h2⟩
          · have : xs = [] := List.eq_nil_of_length_eq_zero (by omega)
            subst this
            exact run_firstCells_none _ _ _ _ _
          · rcases hmc with h0 | ⟨b', h1', h2', _⟩
            · have : xs = [] := List.eq_nil_of_length_eq_zero (by omega)
              subst this
              exact run_firstCells_none _ _ _ _ _
            · cases h2'
        | some ad =>
          refine run_firstCells_some _ _ _ _ _ _ _ (by simp) (fun j u hj => ?_)
          rcases hrange with h0 | ⟨b, o, h1, h2⟩
          · have : xs = [] := List.eq_nil_of_length_eq_zero (by omega)
            subst this
            simp at hj
          · rcases hmc with h0 | ⟨b', h1', h2', _⟩
            · have : xs = [] := List.eq_nil_of_length_eq_zero (by omega)
              subst this
              simp at hj
            · rw [h1] at h1'
              cases h1'
              cases h2'
              have := h2 j u hj
              simpa [Addr.add_lit] using this
      obtain ⟨cap', cs, hrun, k1, k2, k3⟩ := grow_run hE ht he hsrc ty ad cap xs hold (by omega) (by omega)
      obtain ⟨hIK, hKK⟩ := hI.kill hm
      have hlen2 : (xs ++ ys).length = nx + ys.length := by simp; omega
      obtain ⟨ρ', g1, g2, g3⟩ := new_row hIK (by rw [hlen2]; omega) k2 (by rw [hlen2]; unfold lim; omega) hR k3
      rw [hlen2] at g1 g2 g3
      rw [List.length_set] at g3
      refine fin (by rw [hsv, ← hxl]; exact hrun) ⟨ρ', g1, fun x rx hx => g2 x rx (hKK x rx hx), ?_⟩
      rw [hxl]
      exact g3
  · cases h

theorem splice_map {α β : Type} (f : α → β) (xs ys : List α) (k : Nat) : (splice xs k ys).map f = splice (xs.map f) k (ys.map f) := by
  simp [splice, List.map_take, List.map_drop]
theorem splice_nil {α : Type} (xs : List α) (k : Nat) : splice xs k [] = xs := by simp [splice]
theorem length_splice {α : Type} (xs ys : List α) (k : Nat) (h : k + ys.length ≤ xs.length) : (splice xs k ys).length = xs.length := by simp [splice]; omega

theorem copy_core (hE : EnvOK P E) (hI : Inv B w0 ab ρ m w) (s x : Operand) (t tx : TypeId) {e : TypeId} {kd : IntKind} (ht : E.ty t = some (.sl e)) (he : E.ty e = some (.i kd)) {i k n n' : Nat} {xs : List Int} (hm : m[i]? = some (.mine, .w kd n' xs))
    (hs : SlR ρ m w i k n (a.eval s)) (hx : VR ρ m w (opnd tm x) (a.eval x)) (hb : Touch ρ m w (nameOf (opnd tm x)).toList)
    (h : copyK m i k n kd n' xs (opnd tm x) κ = some r) : ∃ v m', κ v m' = some r ∧ Does P ⟨dst, .call ⟨.builtin .copy, #[s, x], #[t, tx]⟩, ty, pos, after, guard⟩ a w fun rv w' => ∃ ρ', Inv B w0 ab ρ' m' w' ∧ Keeps ρ m w ρ' m' w' ∧ VR ρ' m' w' v rv := by
  have fin : ∀ {rv : Value} {w' : World} {post : Value → World → Prop}, (Builtin.copy_ #[t, tx] ty #[a.eval s, a.eval x]).run P w = .ok rv w' → post rv w' → Does P ⟨dst, .call ⟨.builtin .copy, #[s, x], #[t, tx]⟩, ty, pos, after, guard⟩ a w post := by
    intro rv w' post hr hp
    refine does_value (w' := w') (rv := rv) ?_ hp
    rw [run_builtin]
    simp [builtin, hr]
  unfold copyK at h
  replace h := content_dr hx hb h
  obtain ⟨d, h, hd, -⟩ := h
  split at h
  case h_2 => cases h
  rename_i kd' ys
  replace h := cond_none h
  obtain ⟨hc, h⟩ := h
  obtain ⟨rfl, hkn, hne⟩ := of_decide_eq_true hc
  refine ⟨_, _, h, ?_⟩
  have hu : P.underlying t = some (.slice e) := (hE.ty _ _ ht).2.2
  have hsz : (P.info? e).map (·.size) = some 1 := by simpa [Ty.size] using (hE.ty _ _ he).1
  obtain ⟨hil, ad, cap, hsv, hncap, hnlim, _, hmc⟩ := hs
  have hmc := hmc ⟨_, hm⟩
  obtain ⟨hxl, hlim, hRx, hrange⟩ := hI.blk i _ _ hm
  have hRy : inR kd ys := by obtain ⟨_, _, _, _, _, h, _⟩ := hd; exact h
  have hylim : ys.length ≤ lim := by obtain ⟨_, _, _, _, h, _⟩ := hd; exact h
  obtain ⟨ad2, cap2, hxv, hy1, hy2, _, hyr⟩ := hd
  have hvr : ∀ (ρ' : Nm) (m' : Mem) (w' : World), VR ρ' m' w' (.o (.p (.int .i64 ((min ys.length n : Nat) : Int)))) (goInt ((min ys.length n : Nat) : Int)) := by
    intro ρ' m' w'
    refine ⟨rfl, ?_⟩
    have : min ys.length n ≤ 2 ^ 47 := Nat.le_trans (Nat.min_le_left _ _) hylim
    generalize min ys.length n = q at this
    have h47 : (2 : Nat) ^ 47 = 140737488355328 := by decide
    rw [h47] at this
    simp [wfB, IntKind.min, IntKind.max, IntKind.signed, IntKind.bits]
    omega
  by_cases h0 : (ys.take n).length = 0
  · have hys : ys.take n = [] := List.eq_nil_of_length_eq_zero h0
    have hmin : min ys.length n = 0 := by simpa [Nat.min_comm] using h0
    rw [hys, splice_nil, set_same' m i _ hm]
    have hrun := run_copy_none (P := P) w t tx ty e ad ad2 n cap ys.length cap2 hu hsz hmin
    refine fin (by rw [hsv, hxv]; exact hrun) ⟨ρ, hI, fun _ _ h => h, ?_⟩
    have := hvr ρ m w
    rw [hmin] at this ⊢
    exact this
  · have hlen : (ys.take n).length = min ys.length n := by simp [Nat.min_comm]
    have hn0 : n ≠ 0 := by intro e; subst e; simp at h0
    have hy0 : ys.length ≠ 0 := by intro e; simp at h0; simp [List.eq_nil_of_length_eq_zero e] at h0
    rcases hmc with hmc | ⟨b, hb1, hb2, hb3⟩
    · omega
    subst hb2
    rcases hyr with hyr | ⟨b2, o2, hy3, hy4⟩
    · exact absurd hyr hy0
    subst hy3
    rcases hrange with hr | ⟨b', o', h1, hr⟩
    · omega
    rw [hb1] at h1
    cases h1
    have hq : splice (xs.map (Value.int kd)) k ((ys.take n).map (Value.int kd)) = (splice xs k (ys.take n)).map (Value.int kd) := (splice_map _ _ _ _).symm
    have hfit : k + ((ys.take n).map (Value.int kd)).length ≤ (xs.map (Value.int kd)).length := by rw [List.length_map, List.length_map, hlen]; have := Nat.min_le_right ys.length n; omega
    obtain ⟨g1, g2⟩ := eff_put (fr := ([i], [])) (blk' := .w kd n' (splice xs k (ys.take n))) (k := k) ((ys.take n).map (Value.int kd)) (by simp) hm hb1 (hI.mine i _ hm).1 hr hfit rfl (fun _ _ => trivial)
      (fun w' hw' => ⟨by rw [length_splice _ _ _ (by rw [List.length_map, List.length_map] at hfit; exact hfit)]; exact hxl, hlim, fun q hq => by
        simp only [splice, List.mem_append] at hq
        rcases hq with (hq | hq) | hq
        · exact hRx q (List.mem_of_mem_take hq)
        · exact hRy q (List.mem_of_mem_take hq)
        · exact hRx q (List.mem_of_mem_drop hq), .inr ⟨b, 0, hb1, by rw [← hq]; exact hw'⟩⟩) (by intro e; cases e) (by intro _ _ _ e; cases e; unfold blkN; rw [hm])
    obtain ⟨k1, k2, _⟩ := hI.eff g2
    have one : ∀ v ∈ (ys.take n).map (Value.int kd), v.oneCell' = true := by
      intro u hu
      obtain ⟨_, _, rfl⟩ := List.mem_map.1 hu
      rfl
    have hst := run_storeCells_cells (P := P) b k ((ys.take n).map (Value.int kd)) 0 w (fun j hj => by simpa using (g1 j hj).1) (fun j hj => by simpa using (g1 j hj).2) one
    have hl := run_loadCells_list (P := P) w ⟨b2, o2, none⟩ ((ys.take n).map (Value.int kd)) (fun j v hj => by
      have hj2 : j < n := by
        have := (List.getElem?_eq_some_iff.1 hj).1
        simp at this
        omega
      rw [List.map_take, List.getElem?_take_of_lt hj2] at hj
      have := hy4 j v hj
      simpa [Addr.add_lit] using this)
    have hmn : ((ys.take n).map (Value.int kd)).length = ys.length.min n := by rw [List.length_map, hlen]
    rw [hmn] at hl
    have hrun : (Builtin.copy_ #[t, tx] ty #[.slice (some ⟨b, k, none⟩) n cap, .slice (some ⟨b2, o2, none⟩) ys.length cap2]).run P w = .ok (goInt ((min ys.length n : Nat) : Int)) (w.setCells b k ((ys.take n).map (Value.int kd))) := by
      generalize (ys.take n).map (Value.int kd) = cs at hl hst
      cases hq : P.info? e with
      | none => simp [hq] at hsz
      | some i =>
        have hi : i.size = 1 := by simpa [hq] using hsz
        simp only [Nat.add_zero] at hst
        simp [Builtin.copy_, run_underlying hu, Builtin.lenOf, Builtin.firstCells, sizeOf, typeInfo, hq, hi, hl, hst]
    exact fin (by rw [hsv, hxv]; exact hrun) ⟨ρ, k1, k2, hvr _ _ _⟩

theorem copy_owes (hE : EnvOK P E) (hI : Inv B w0 ab ρ m w) (s x : Operand) (t tx : TypeId) (hs : VR ρ m w (opnd tm s) (a.eval s)) (hx : VR ρ m w (opnd tm x) (a.eval x)) (hb : Touch ρ m w (nameOf (opnd tm x)).toList)
    (h : builtinK E .copy [t, tx] m [opnd tm s, opnd tm x] κ = some r) : ∃ v m', κ v m' = some r ∧ Does P ⟨dst, .call ⟨.builtin .copy, #[s, x], #[t, tx]⟩, ty, pos, after, guard⟩ a w fun rv w' => ∃ ρ', Inv B w0 ab ρ' m' w' ∧ Keeps ρ m w ρ' m' w' ∧ VR ρ' m' w' v rv := by
  have kind : ∀ {kd : IntKind}, kindOf E t = some kd → ∃ e, E.ty t = some (.sl e) ∧ E.ty e = some (.i kd) := by
    intro kd hk
    unfold kindOf at hk
    split at hk
    · rename_i e ht
      split at hk
      · rename_i k he
        cases hk
        exact ⟨e, ht, he⟩
      · cases hk
    · cases hk
  unfold builtinK at h
  split at h <;> first | (cases h; done) | skip
  · rename_i hc _; cases hc
  · rename_i hc _; cases hc
  · rename_i hc _; cases hc
  · rename_i hc _; cases hc
  · rename_i i y _ e2
    obtain ⟨hv, e3⟩ := List.cons.inj e2
    obtain ⟨hv2, _⟩ := List.cons.inj e3
    subst hv2
    rw [hv] at hs
    split at h
    case h_2 => cases h
    rename_i t' tl kd n xs e4 hm
    cases e4
    replace h := cond_none h
    obtain ⟨hk, h⟩ := h
    obtain ⟨e, ht, he⟩ := kind (of_decide_eq_true hk)
    exact copy_core hE hI s x _ tx ht he hm (hs.2 n (by unfold blkN; rw [hm])) hx hb h
  · rename_i i k n y _ e2
    obtain ⟨hv, e3⟩ := List.cons.inj e2
    obtain ⟨hv2, _⟩ := List.cons.inj e3
    subst hv2
    rw [hv] at hs
    split at h
    case h_2 => cases h
    rename_i t' tl kd n' xs e4 hm
    cases e4
    replace h := cond_none h
    obtain ⟨hk, h⟩ := h
    obtain ⟨e, ht, he⟩ := kind (of_decide_eq_true hk)
    exact copy_core hE hI s x _ tx ht he hm hs hx hb h
end
end Go.Vm

namespace Go.Vm
open Go.RowKit (Below)
variable {P : Program}

/-- The frame and memory read as they are told. -/
structure St (B : Nat) (w0 : World) (ab : Nat → Prop) (ρ : Nm) (tm : List V) (m : Mem) (a : Act) (w : World) : Prop where
  inv : Inv B w0 ab ρ m w
  len : tm.length = a.tmps.size
  tms : ∀ t, VR ρ m w (getT tm t) (a.tmps.getD t undef)
  defers : a.defers = []

theorem getT_putT (tm : List V) (d : Option Nat) (v : V) (t : Nat) : getT (putT tm d v) t = if d = some t ∧ t < tm.length then v else getT tm t := by
  cases d with
  | none => simp [putT]
  | some d =>
    unfold putT getT
    simp only [List.getD_eq_getElem?_getD]
    by_cases e : d = t
    · subst e
      by_cases hl : d < tm.length
      · rw [List.getElem?_set_self hl, if_pos ⟨rfl, hl⟩]; rfl
      · rw [if_neg (fun h => hl h.2), List.getElem?_eq_none (by simpa using hl), List.getElem?_eq_none (by omega)]
    · rw [List.getElem?_set_ne e, if_neg (fun h => e (Option.some.inj h.1))]
theorem getD_put (a : Act) (d : Option Nat) (v : Value) (t : Nat) : (a.put d v).tmps.getD t undef = if d = some t ∧ t < a.tmps.size then v else a.tmps.getD t undef := by
  cases d with
  | none => simp [Act.put]
  | some d =>
    simp only [Act.put, Array.getD_eq_getD_getElem?]
    by_cases e : d = t
    · subst e
      by_cases hl : d < a.tmps.size
      · rw [Array.getElem?_setIfInBounds_self_of_lt hl, if_pos ⟨rfl, hl⟩]; rfl
      · rw [if_neg (fun h => hl h.2), Array.getElem?_eq_none (by simpa using hl), Array.getElem?_eq_none (by omega)]
    · rw [Array.getElem?_setIfInBounds_ne e, if_neg (fun h => e (Option.some.inj h.1))]
theorem length_putT (tm : List V) (d : Option Nat) (v : V) : (putT tm d v).length = tm.length := by cases d <;> simp [putT]
theorem size_put (a : Act) (d : Option Nat) (v : Value) : (a.put d v).tmps.size = a.tmps.size := by cases d <;> simp [Act.put]
theorem defers_put (a : Act) (d : Option Nat) (v : Value) : (a.put d v).defers = a.defers := by cases d <;> rfl

section
variable {E : Env} {B : Nat} {w0 : World} {ab : Nat → Prop} {ρ : Nm} {tm : List V} {m : Mem} {a : Act} {w : World} {r : List (Own × D)}

theorem St.put {ρ' : Nm} {m' : Mem} {w' : World} {v : V} {rv : Value} (h : St B w0 ab ρ tm m a w) (hI : Inv B w0 ab ρ' m' w') (hk : Keeps ρ m w ρ' m' w') (hv : VR ρ' m' w' v rv) (d : Option Nat) :
    St B w0 ab ρ' (putT tm d v) m' (a.put d rv) w' := by
  refine ⟨hI, by rw [length_putT, size_put, h.len], fun t => ?_, by rw [defers_put, h.defers]⟩
  rw [getT_putT, getD_put, h.len]
  split
  · exact hv
  · exact hk _ _ (h.tms t)
theorem St.opnd (h : St B w0 ab ρ tm m a w) (x : Operand) : VR ρ m w (opnd tm x) (a.eval x) := by
  cases x with
  | tmp t => exact h.tms t
  | const v => exact vr_const v
  | global g => trivial
  | func f => trivial
theorem St.touch (h : St B w0 ab ρ tm m a w) (ns : List Nat) : Touch ρ m w ns := fun n _ s b hb => ⟨h.inv.blk n s b hb, fun hs => by subst hs; exact (h.inv.mine n b hb).1⟩
theorem set_same {α : Type} (l : List α) (t : Nat) (v d : α) (h : l.getD t d = v) : l.set t v = l := by
  by_cases hl : t < l.length
  · apply List.ext_getElem
    · simp
    · intro i h1 h2
      by_cases e : t = i
      · subst e
        simp only [List.getElem_set_self]
        rw [← h, List.getD_eq_getElem?_getD, List.getElem?_eq_getElem hl]
        rfl
      · rw [List.getElem_set_ne e]
  · exact List.set_eq_of_length_le (by omega)

/-- What an operation owes, with what holds of memory. -/
def OwesI (P : Program) (B : Nat) (w0 : World) (ab : Nat → Prop) (ρ : Nm) (m : Mem) (w : World) (o : Oper) (a : Act) (κ : V → Mem → R) (r : List (Own × D)) : Prop :=
  ∃ v m', κ v m' = some r ∧ Does P o a w fun rv w' => ∃ ρ', Inv B w0 ab ρ' m' w' ∧ Keeps ρ m w ρ' m' w' ∧ VR ρ' m' w' v rv

theorem copy_two {ts : List TypeId} {x y : V} {κ : V → Mem → R} (h : builtinK E .copy ts m [x, y] κ = some r) : ∃ t tx, ts = [t, tx] := by
  match ts with
  | [t, tx] => exact ⟨t, tx, rfl⟩
  | [] => cases x with
    | t l => simp [builtinK] at h
    | o v => cases v <;> simp [builtinK] at h
  | [_] => cases x with
    | t l => simp [builtinK] at h
    | o v => cases v <;> simp [builtinK] at h
  | _ :: _ :: _ :: _ => cases x with
    | t l => simp [builtinK] at h
    | o v => cases v <;> simp [builtinK] at h

theorem sl_len {v : V0} {n : Nat} {r : Value} (h : slLen m v = some n) (hv : VR0 ρ m w v r) : ∃ ad cap, r = .slice ad n cap ∧ (ad = none → n = 0) := by
  have of : ∀ {i k : Nat}, SlR ρ m w i k n r → ∃ ad cap, r = .slice ad n cap ∧ (ad = none → n = 0) := by
    rintro i k ⟨_, ad, cap, rfl, _, _, h3, _⟩
    refine ⟨ad, cap, rfl, fun e => ?_⟩
    rcases h3 with h3 | ⟨b, o, _, h3⟩
    · exact h3
    · rw [e] at h3; cases h3
  cases v <;> simp only [slLen] at h <;> try (cases h; done)
  · cases h
    exact of hv
  · split at h
    · cases h
      rename_i hm
      refine of (hv.2 _ ?_)
      unfold blkN
      rw [hm]
    · cases h
  · cases h
    obtain ⟨ad, rfl⟩ := hv
    exact ⟨ad, 0, rfl, fun _ => rfl⟩
theorem nil_run (hE : EnvOK P E) {t e : TypeId} (ht : E.ty t = some (.sl e)) (ad : Option Addr) (n cap : Nat) {x y : Operand} :
    ((do eqGuard .eql t x y (.slice ad n cap) (.slice none 0 0); binOp .eql t (.slice ad n cap) (.slice none 0 0) : Sem Value)).run P w = .ok (.bool ad.isNone) w := by
  have hu : P.underlying t = some (.slice e) := (hE.ty t _ ht).2.2
  have e1 : (Op.equal t (.slice ad n cap) (.slice none 0 0)).run P w = .ok ad.isNone w := by
    have e0 : Op.equal t (.slice ad n cap) (.slice none 0 0) = Op.equalIn (9999 + 1) t (.slice ad n cap) (.slice none 0 0) := rfl
    rw [e0]
    unfold Op.equalIn
    simp only [Sem.run_bind, run_underlying hu, Result.andThen_ok]
    cases ad <;> rfl
  have e2 : (eqGuard .eql t x y (.slice ad n cap) (.slice none 0 0)).run P w = .ok () w := rfl
  simp only [Sem.run_bind, e2, Result.andThen_ok, binOp, e1]
  rfl
theorem nil_owes (hE : EnvOK P E) (op : BinOp) (t yt : TypeId) (x y : Operand) (hn : isNilTest op y = true) (hx : VR ρ m w (opnd tm x) (a.eval x)) {dst : Option Nat} {ty : TypeId} {pos : String} {after : Array Edge} {guard : Option (Nat × Bool)} {fr : List Nat × List Nat} {κ : V → Mem → R}
    (h : opK E tm m (.binOp op t x y yt) κ = some r) : Owes P ρ m ⟨dst, .binOp op t x y yt, ty, pos, after, guard⟩ a w fr κ r := by
  simp only [opK] at h
  rw [hn, cond_true] at h
  unfold isNilTest at hn
  split at hn
  case h_2 => cases hn
  unfold nilK at h
  split at h
  case h_2 => cases h
  rename_i e v ht hv
  split at h
  case h_2 => cases h
  rename_i n hl
  rw [hv] at hx
  obtain ⟨ad, cap, he, hz⟩ := sl_len hl hx
  obtain ⟨h1, h2⟩ := both_some h
  have htd := hE.ty t _ ht
  cases ad with
  | none =>
    rw [decide_eq_true (hz rfl), cond_true] at h1
    refine owes_pure (v := .o (.p (.bool true))) (rv := .bool true) h1 ?_ ⟨rfl, rfl⟩
    simp only [execOp]
    rw [Sem.run_bind]
    show (((do eqGuard .eql t x (.const (.slice none 0 0)) (a.eval x) (.slice none 0 0); binOp .eql t (a.eval x) (.slice none 0 0)) : Sem Value).run P w).andThen _ = _
    rw [he, nil_run hE ht none n cap]
    rfl
  | some ad =>
    refine owes_pure (v := .o (.p (.bool false))) (rv := .bool false) h2 ?_ ⟨rfl, rfl⟩
    simp only [execOp]
    rw [Sem.run_bind]
    show (((do eqGuard .eql t x (.const (.slice none 0 0)) (a.eval x) (.slice none 0 0); binOp .eql t (a.eval x) (.slice none 0 0)) : Sem Value).run P w).andThen _ = _
    rw [he, nil_run hE ht (some ad) n cap]
    rfl

theorem op_more (hE : EnvOK P E) (hS : St B w0 ab ρ tm m a w) (o : Oper) (hw : writesMore o.op = true) {κ : V → Mem → R} (h : opK E tm m o.op κ = some r) : OwesI P B w0 ab ρ m w o a κ r := by
  obtain ⟨dst, op, ty, pos, after, guard⟩ := o
  dsimp only at *
  cases op
  case call c =>
    obtain ⟨callee, args, ts⟩ := c
    cases callee
    case builtin b =>
      cases b
      case append =>
        simp only [opK] at h
        obtain ⟨l⟩ := args
        obtain ⟨lt⟩ := ts
        match l, lt, h with
        | [s, x], [t, tx], h =>
          simp only [List.map_cons, List.map_nil] at h
          obtain ⟨v, m', h1, h2⟩ := append_owes (dst := dst) (ty := ty) (pos := pos) (after := after) (guard := guard) hE hS.inv s x t tx (hS.opnd s) (hS.opnd x) (hS.touch _) h
          exact ⟨v, m', h1, h2⟩
        | [s, x], [], h => simp [builtinK] at h
        | [s, x], [_], h => simp [builtinK] at h
        | [s, x], _ :: _ :: _ :: _, h => simp [builtinK] at h
        | [], _, h => simp [builtinK] at h
        | [_], _, h => simp [builtinK] at h
        | _ :: _ :: _ :: _, _, h => simp [builtinK] at h
      case copy =>
        simp only [opK] at h
        obtain ⟨l⟩ := args
        obtain ⟨lt⟩ := ts
        match l, lt, h with
        | [s, x], [t, tx], h =>
          simp only [List.map_cons, List.map_nil] at h
          obtain ⟨v, m', h1, h2⟩ := copy_owes (dst := dst) (ty := ty) (pos := pos) (after := after) (guard := guard) hE hS.inv s x t tx (hS.opnd s) (hS.opnd x) (hS.touch _) h
          exact ⟨v, m', h1, h2⟩
        | [s, x], [], h => obtain ⟨_, _, e⟩ := copy_two h; cases e
        | [s, x], [_], h => obtain ⟨_, _, e⟩ := copy_two h; cases e
        | [s, x], _ :: _ :: _ :: _, h => obtain ⟨_, _, e⟩ := copy_two h; cases e
        | [], _, h => simp [builtinK] at h
        | [_], _, h => simp [builtinK] at h
        | _ :: _ :: _ :: _, _, h => simp [builtinK] at h
      all_goals (cases hw)
    all_goals (cases hw)
  case binOp op t x y yt =>
    obtain ⟨v, m', h1, h2⟩ := nil_owes (fr := ([], [])) (dst := dst) (ty := ty) (pos := pos) (after := after) (guard := guard) hE op t yt x y hw (hS.opnd x) h
    exact ⟨v, m', h1, h2.mono fun rv w' ⟨ρ', he⟩ => ⟨ρ', hS.inv.eff he⟩⟩
  all_goals (cases hw)

theorem op_any (hE : EnvOK P E) (hS : St B w0 ab ρ tm m a w) (o : Oper) {κ : V → Mem → R} (h : opK E tm m o.op κ = some r) : OwesI P B w0 ab ρ m w o a κ r := by
  cases hw : writesMore o.op with
  | true => exact op_more hE hS o hw h
  | false =>
    obtain ⟨v, m', h1, h2⟩ := op_owes hE o hw (fun x _ => hS.opnd x) (hS.touch _) h
    exact ⟨v, m', h1, h2.mono fun rv w' ⟨ρ', he⟩ => ⟨ρ', hS.inv.eff he⟩⟩

/-- A block of the call's own is no longer to be written. -/
theorem Inv.lend1 {i : Nat} {b : Blk} (hI : Inv B w0 ab ρ m w) (hm : m[i]? = some (.mine, b)) : Inv B w0 ab ρ (m.set i (.new, b)) w ∧ StLe m (m.set i (.new, b)) := by
  have hi : i < m.length := (List.getElem?_eq_some_iff.1 hm).1
  have get : ∀ {j : Nat} {p : Own × Blk}, (m.set i (Own.new, b))[j]? = some p → (j = i ∧ p = (.new, b)) ∨ (j ≠ i ∧ m[j]? = some p) := by
    intro j p h
    by_cases e : i = j
    · subst e
      rw [List.getElem?_set_self hi] at h
      exact .inl ⟨rfl, (Option.some.inj h).symm⟩
    · rw [List.getElem?_set_ne e] at h
      exact .inr ⟨fun h => e h.symm, h⟩
  refine ⟨⟨hI.below, hI.ble, ?_, ?_, ?_, ?_, ?_, hI.lt, fun j hj => hI.dom j (by simpa using hj), hI.abB, ?_⟩, StLe.set m i .new b (fun h => by cases h) (fun k n xs e => by subst e; unfold blkN; rw [hm])⟩
  · intro j s b' h
    replace h := get h; rcases h with ⟨rfl, h⟩ | ⟨_, h⟩
    · cases h; exact hI.blk j _ _ hm
    · exact hI.blk j s b' h
  · intro j b' h
    replace h := get h; rcases h with ⟨rfl, h⟩ | ⟨_, h⟩
    · cases h
    · exact hI.mine j b' h
  · intro j b1 j' s b' c o o' h h' hd hc hc'
    replace h := get h; rcases h with ⟨rfl, h⟩ | ⟨_, h⟩
    · cases h
    · replace h' := get h'; rcases h' with ⟨rfl, h'⟩ | ⟨_, h'⟩
      · cases h'; exact hI.apart j b1 j' _ _ c o o' h hm hd hc hc'
      · exact hI.apart j b1 j' s b' c o o' h h' hd hc hc'
  · intro j b' h c o hc
    replace h := get h; rcases h with ⟨rfl, h⟩ | ⟨_, h⟩
    · exact (hI.mine j b hm).2 c o hc
    · exact hI.new j b' h c o hc
  · intro j b' h c o hc
    replace h := get h; rcases h with ⟨rfl, h⟩ | ⟨_, h⟩
    · cases h
    · exact hI.old j b' h c o hc
  · intro j b' h
    replace h := get h; rcases h with ⟨rfl, h⟩ | ⟨_, h⟩
    · cases h
    · exact hI.live j b' h
theorem St.lend1 {i : Nat} {b : Blk} (h : St B w0 ab ρ tm m a w) (hm : m[i]? = some (.mine, b)) : St B w0 ab ρ tm (m.set i (.new, b)) a w := by
  obtain ⟨g1, g2⟩ := h.inv.lend1 hm
  exact ⟨g1, h.len, fun t => (h.tms t).mono (fun _ _ _ _ h => ⟨h, rfl⟩) g2, h.defers⟩
theorem St.lendTo : ∀ (l : List V) {m : Mem}, St B w0 ab ρ tm m a w → St B w0 ab ρ tm (lendTo m l) a w
  | [], _, h => h
  | v :: l, m, h => by
    unfold Vm.lendTo
    refine St.lendTo l ?_
    split
    · split
      · rename_i hm; exact h.lend1 hm
      · exact h
    · exact h
theorem St.lend (h : St B w0 ab ρ tm m a w) (o : Op) : St B w0 ab ρ tm (lendK E tm m o) a w := by
  unfold lendK
  split
  · rename_i f args _
    cases E.give f
    · exact h
    · exact h.lendTo _
  · exact h

theorem St.lendAll : ∀ (l : List Oper) {m : Mem}, St B w0 ab ρ tm m a w → St B w0 ab ρ tm (lendAll E tm m l) a w
  | [], _, h => h
  | o :: l, m, h => by
    unfold Vm.lendAll
    exact St.lendAll l (h.lend (E := E) o.op)

theorem yielded_of {all : Array Oper} {j d : Nat} {b : Bool} (hd : (all[j]?).bind (·.dst) = some d) (hS : St B w0 ab ρ tm m a w) (hb : getT tm d = .o (.p (.bool b))) : yielded all a.tmps j = some b := by
  have h := hS.tms d
  rw [hb] at h
  have h1 : a.tmps.getD d undef = .bool b := h.1
  have h2 : a.tmps[d]? = some (.bool b) := by
    cases hq : a.tmps[d]? with
    | none => rw [Array.getD_eq_getD_getElem?, hq] at h1; cases h1
    | some v => rw [Array.getD_eq_getD_getElem?, hq] at h1; simp at h1; rw [h1]
  simp [yielded, hd, h2]

theorem yielded_no {all : Array Oper} {j d : Nat} (hd : (all[j]?).bind (·.dst) = some d) (hS : St B w0 ab ρ tm m a w) (hb : getT tm d = .t []) : yielded all a.tmps j = none := by
  have h := hS.tms d
  rw [hb] at h
  obtain ⟨rs, h1, h2⟩ := h
  have h2 : a.tmps[d]? = some (.tuple rs.toArray) ∨ a.tmps[d]? = none := by
    cases hq : a.tmps[d]? with
    | none => exact .inr rfl
    | some v => rw [Array.getD_eq_getD_getElem?, hq] at h1; simp at h1; rw [h1]; exact .inl rfl
  rcases h2 with h2 | h2 <;> simp [yielded, hd, h2]

theorem seq_ops (hE : EnvOK P E) (all : Array Oper) (Q : Exit → Act → World → Prop) {κ : List V → Mem → R} (hκ : ∀ ρ tm m a w, St B w0 ab ρ tm m a w → κ tm m = some r → Q .normal a w) :
    ∀ (rest : List Oper) (i : Nat) (acc : Foots) (ρ : Nm) (tm : List V) (m : Mem) (a : Act) (w : World), St B w0 ab ρ tm m a w → evOps E all none rest i acc tm m κ = some r → wpList P all Q rest a w
  | [], _, _, ρ, tm, m, a, w, hS, h => hκ ρ tm m a w hS h
  | o :: rest, i, acc, ρ, tm, m, a, w, hS, h => by
    have go : ∀ (h : opK E tm (lendK E tm m o.op) o.op (fun v m => evOps E all none rest (i + 1) acc (putT tm o.dst v) m κ) = some r) (K : Act → World → Prop), (∀ a w, wpList P all Q rest a w → K a w) → o.wp P a w K Q := by
      intro h K hK
      have hS' := hS.lend (E := E) o.op
      obtain ⟨v, m', h1, h2⟩ := op_any hE hS' o h
      exact h2 K Q fun rv w' ⟨ρ', g1, g2, g3⟩ => hK _ _ (seq_ops hE all Q hκ rest (i + 1) acc ρ' _ m' _ w' (hS'.put g1 g2 g3 o.dst) h1)
    have pass : ∀ (h : evOps E all none rest (i + 1) acc (putT tm o.dst (.t [])) m κ = some r), wpList P all Q rest (a.put o.dst undef) w := fun h =>
      seq_ops hE all Q hκ rest (i + 1) acc ρ _ m _ w (hS.put (v := .t []) (rv := undef) hS.inv (fun _ _ h => h) ⟨[], rfl, trivial⟩ o.dst) h
    unfold evOps at h
    cases hg : o.guard with
    | none =>
      rw [hg] at h
      exact wpList_plain hg (go h)
    | some q =>
      obtain ⟨j, want⟩ := q
      rw [hg] at h
      simp only at h
      split at h
      case h_2 => cases h
      rename_i d hd
      split at h
      case h_3 => cases h
      case h_2 =>
        rename_i hb
        have hy := yielded_no hd hS hb
        refine wpList_step fun K hK => ?_
        rw [if_neg (by cases want <;> simp [Region.wanted, hg, hy])]
        exact hK _ _ (pass h)
      rename_i b hb
      have hy := yielded_of hd hS hb
      refine wpList_step fun K hK => ?_
      rcases cond_some h with ⟨rfl, h⟩ | ⟨rfl, h⟩
      · rw [set_same tm d _ (.o .u) hb] at h
        cases want
        · rw [if_neg (by simp [Region.wanted, hg, hy])]
          exact hK _ _ (pass h)
        · rw [if_pos (by simp [Region.wanted, hg, hy])]
          exact go h K hK
      · rw [set_same tm d _ (.o .u) hb] at h
        cases want
        · rw [if_pos (by simp [Region.wanted, hg, hy])]
          exact go h K hK
        · rw [if_neg (by simp [Region.wanted, hg, hy])]
          exact hK _ _ (pass h)
end
end Go.Vm

namespace Go.Vm
open Go.RowKit (Below)
variable {P : Program}

def namesV : V → List Nat
  | .o x => (nameOf (.o x)).toList
  | .t l => l.filterMap fun x => nameOf (.o x)

/-- The names in an operation's answer, and what becomes of memory. -/
def Shape (tm : List V) (m : Mem) (o : Op) (v : V) (m' : Mem) : Prop :=
  (∀ n, n ∈ namesV v → (m.length ≤ n ∧ n < m'.length) ∨ ∃ x, x ∈ o.operands ∧ n ∈ namesV (opnd tm x)) ∧
  (((foot tm o).1 = [] ∧ ∃ nb, m' = m ++ nb) ∨ ∃ n blk', (foot tm o).1 = [n] ∧ v = .o .u ∧ m' = m.set n (.mine, blk') ∧ mineAt m n ∧ blkN m' n = blkN m n)

def Det (E : Env) (tm : List V) (m : Mem) (o : Op) : Prop := ∃ v m', (∀ κ, opK E tm m o κ = κ v m') ∧ Shape tm m o v m'

theorem blkN_set_w {m : Mem} {i n : Nat} {s s' : Own} {k k' : IntKind} {xs ys : List Int} (h : m[i]? = some (s, .w k n xs)) : blkN (m.set i (s', .w k' n ys)) i = blkN m i := by
  unfold blkN
  rw [List.getElem?_set_self (List.getElem?_eq_some_iff.1 h).1, h]
theorem blkN_set_c {m : Mem} {i : Nat} {s s' : Own} {xs ys : List Value} (h : m[i]? = some (s, .c xs)) : blkN (m.set i (s', .c ys)) i = blkN m i := by
  unfold blkN
  rw [List.getElem?_set_self (List.getElem?_eq_some_iff.1 h).1, h]

section
variable {E : Env} {tm : List V} {m : Mem} {κ : V → Mem → R} {r : List (Own × D)}

theorem shape_same {o : Op} {v : V} (h : ∀ n, n ∈ namesV v → ∃ x, x ∈ o.operands ∧ n ∈ namesV (opnd tm x)) (hf : (foot tm o).1 = []) : Shape tm m o v m :=
  ⟨fun n hn => .inr (h n hn), .inl ⟨hf, [], by simp⟩⟩
theorem shape_plain {o : Op} {v : V} (h : namesV v = []) (hf : (foot tm o).1 = []) : Shape tm m o v m :=
  shape_same (fun n hn => by rw [h] at hn; cases hn) hf
theorem shape_new {o : Op} {v : V} {b : Own × Blk} (h : ∀ n, n ∈ namesV v → n = m.length) (hf : (foot tm o).1 = []) : Shape tm m o v (m ++ [b]) :=
  ⟨fun n hn => .inl (by have := h n hn; subst this; simp), .inl ⟨hf, [b], rfl⟩⟩

theorem det_move (x : Operand) (_ : opK E tm m (.move x) κ = some r) : Det E tm m (.move x) := ⟨_, _, fun _ => rfl, shape_same (fun n hn => ⟨x, by simp [Op.operands], hn⟩) rfl⟩
theorem det_assign (x : Operand) (_ : opK E tm m (.assign x) κ = some r) : Det E tm m (.assign x) := ⟨_, _, fun _ => rfl, shape_same (fun n hn => ⟨x, by simp [Op.operands], hn⟩) rfl⟩
theorem det_pick (c x y : Operand) (h : opK E tm m (.pick c x y) κ = some r) : Det E tm m (.pick c x y) := by
  simp only [opK] at h
  split at h
  · rename_i t ht
    rcases cond_some h with ⟨rfl, h⟩ | ⟨rfl, h⟩
    · exact ⟨_, _, fun κ => by simp only [opK, ht]; rfl, shape_same (fun n hn => ⟨x, by simp [Op.operands], hn⟩) rfl⟩
    · exact ⟨_, _, fun κ => by simp only [opK, ht]; rfl, shape_same (fun n hn => ⟨y, by simp [Op.operands], hn⟩) rfl⟩
  · cases h
theorem det_not (t : TypeId) (x : Operand) (h : opK E tm m (.unOp .not t x) κ = some r) : Det E tm m (.unOp .not t x) := by
  simp only [opK] at h
  split at h
  · rename_i b hb
    exact ⟨_, _, fun κ => by simp only [opK, hb]; rfl, shape_plain rfl rfl⟩
  · cases h
theorem det_neg (t : TypeId) (x : Operand) (h : opK E tm m (.unOp .neg t x) κ = some r) : Det E tm m (.unOp .neg t x) := by
  simp only [opK] at h
  split at h
  · rename_i k n hb
    exact ⟨_, _, fun κ => by simp only [opK, hb]; rfl, shape_plain rfl rfl⟩
  · cases h
theorem det_convert (s t : TypeId) (x : Operand) (h : opK E tm m (.convert s t x) κ = some r) : Det E tm m (.convert s t x) := by
  simp only [opK] at h
  split at h
  · rename_i sd k _ n hs ht hb
    exact ⟨_, _, fun κ => by simp only [opK, hs, ht, hb]; rfl, shape_plain rfl rfl⟩
  · cases h
theorem det_extract (x : Operand) (i : Nat) (h : opK E tm m (.extract x i) κ = some r) : Det E tm m (.extract x i) := by
  simp only [opK] at h
  split at h
  · rename_i l hl
    split at h
    · rename_i v hv
      refine ⟨_, _, fun κ => by simp only [opK, hl, hv]; rfl, shape_same (fun n hn => ⟨x, by simp [Op.operands], ?_⟩) rfl⟩
      rw [hl]
      have : nameOf (.o v) = some n := by
        simp only [namesV] at hn
        simpa using hn
      exact List.mem_filterMap.2 ⟨v, List.mem_of_getElem? hv, this⟩
    · cases h
  · cases h
theorem det_alloc (t : TypeId) (h : opK E tm m (.alloc t) κ = some r) : Det E tm m (.alloc t) := by
  simp only [opK] at h
  split at h
  · rename_i v hv
    split at h
    · rename_i b hb
      exact ⟨_, _, fun κ => by simp only [opK, hv, hb]; rfl, shape_new (fun n hn => by simpa [namesV, nameOf] using hn) rfl⟩
    · cases h
  · cases h
theorem det_box (t : TypeId) (x : Operand) (h : opK E tm m (.box t x) κ = some r) : Det E tm m (.box t x) := by
  simp only [opK] at h
  split at h
  · rename_i td v ht hv
    split at h
    · rename_i b hb
      obtain ⟨hc, h⟩ := cond_none h
      exact ⟨_, _, fun κ => by simp only [opK, ht, hv, hb, hc]; rfl, shape_new (fun n hn => by simpa [namesV, nameOf] using hn) rfl⟩
    · cases h
  · cases h
theorem det_build (t : TypeId) (ps : Array (Nat × Operand)) (h : opK E tm m (.build t ps) κ = some r) : Det E tm m (.build t ps) := by
  simp only [opK] at h
  split at h
  · rename_i n k ht
    split at h
    · rename_i xs hb
      exact ⟨.o (.r k n xs), m, fun κ => by simp only [opK, ht, hb], shape_plain rfl rfl⟩
    · cases h
  · rename_i zs fs ht
    split at h
    · rename_i pl rs hpl hrs
      split at h
      · rename_i vs hf
        exact ⟨.o (.g vs.toList), m, fun κ => by simp only [opK, ht, hpl, hrs, hf], shape_plain rfl rfl⟩
      · cases h
    · cases h
  · cases h
theorem det_buildSlice (t : TypeId) (n : Nat) (ps : Array (Nat × Operand)) (h : opK E tm m (.buildSlice t n ps) κ = some r) : Det E tm m (.buildSlice t n ps) := by
  simp only [opK] at h
  split at h
  case h_2 => cases h
  rename_i e ht
  split at h
  · rename_i k he
    cases hn : (n == 0) <;> rw [hn] at h
    · change (match buildArr k (List.replicate n 0) (ps.toList.map fun q => (q.1, opnd tm q.2)) with | some xs => _ | none => none) = some r at h
      split at h
      case h_2 => cases h
      rename_i xs hb
      obtain ⟨hc, h⟩ := cond_none h
      exact ⟨_, _, fun κ => by simp only [opK, ht, he, hn, hb, hc]; rfl, shape_new (fun n hn => by simpa [namesV, nameOf] using hn) rfl⟩
    · change (bif ps.size == 0 then κ (.o .z) m else none) = some r at h
      obtain ⟨hc, h⟩ := cond_none h
      exact ⟨_, _, fun κ => by simp only [opK, ht, he, hn, hc]; rfl, shape_plain rfl rfl⟩
  · rename_i zs fs he
    split at h
    case h_2 => cases h
    rename_i rs hrs
    split at h
    case h_2 => cases h
    rename_i vs hf
    obtain ⟨hc, h⟩ := cond_none h
    exact ⟨_, _, fun κ => by simp only [opK, ht, he, hrs, hf, hc]; rfl, shape_new (fun n hn => by simpa [namesV, nameOf] using hn) rfl⟩
  · cases h
theorem det_load (t : TypeId) (x : Operand) (h : opK E tm m (.load t x) κ = some r) : Det E tm m (.load t x) := by
  simp only [opK] at h
  split at h
  case h_2 => cases h
  rename_i td i k ht hv
  unfold loadV at h
  split at h
  · rename_i s kd n xs hm
    split at h
    · obtain ⟨hk, h⟩ := cond_none h
      exact ⟨_, _, fun κ => by simp only [opK, ht, hv, loadV, hm, hk]; rfl, shape_plain rfl rfl⟩
    · obtain ⟨hk, h⟩ := cond_none h
      exact ⟨_, _, fun κ => by simp only [opK, ht, hv, loadV, hm, hk]; rfl, shape_plain rfl rfl⟩
    · cases h
  · rename_i s vs hm
    obtain ⟨hk, h⟩ := cond_none h
    split at h
    · rename_i v hc
      refine ⟨_, _, fun κ => by simp only [opK, ht, hv, loadV, hm, hk, hc]; rfl, shape_plain ?_ rfl⟩
      rcases ofCells_cases hc with ⟨u, _, rfl, _⟩ | ⟨n, k, _, _, _, rfl⟩ | ⟨zs', fs', _, _, rfl⟩ <;> rfl
    · cases h
  · cases h
theorem det_store (t : TypeId) (x y : Operand) (h : opK E tm m (.store t x y) κ = some r) : Det E tm m (.store t x y) := by
  simp only [opK] at h
  split at h
  case h_2 => cases h
  rename_i td i k v ht hv hv'
  have hfoot : (foot tm (.store t x y)).1 = [i] := by simp [foot, hv, nameOf]
  unfold storeV at h
  split at h
  · rename_i kd n xs hm
    split at h
    · obtain ⟨hk, h⟩ := cond_none h
      exact ⟨_, _, fun κ => by simp only [opK, ht, hv, hv', storeV, hm, hk]; rfl, fun n hn => by simp [namesV, nameOf] at hn, .inr ⟨i, _, hfoot, rfl, rfl, ⟨_, hm⟩, blkN_set_w hm⟩⟩
    · obtain ⟨hk, h⟩ := cond_none h
      exact ⟨_, _, fun κ => by simp only [opK, ht, hv, hv', storeV, hm, hk]; rfl, fun n hn => by simp [namesV, nameOf] at hn, .inr ⟨i, _, hfoot, rfl, rfl, ⟨_, hm⟩, by obtain ⟨_, h2, rfl, _⟩ := of_decide_eq_true hk; subst h2; exact blkN_set_w hm⟩⟩
    · cases h
  · rename_i vs hm
    split at h
    · rename_i cs hcs
      obtain ⟨hk, h⟩ := cond_none h
      exact ⟨_, _, fun κ => by simp only [opK, ht, hv, hv', storeV, hm, hcs, hk]; rfl, fun n hn => by simp [namesV, nameOf] at hn, .inr ⟨i, _, hfoot, rfl, rfl, ⟨_, hm⟩, blkN_set_c hm⟩⟩
    · cases h
  · cases h
theorem det_makeSlice (t : TypeId) (x y : Operand) (h : opK E tm m (.makeSlice t x y) κ = some r) : Det E tm m (.makeSlice t x y) := by
  simp only [opK] at h
  split at h
  case h_2 => cases h
  rename_i k kx l ky c hk hv hv'
  obtain ⟨hc, h⟩ := cond_none h
  exact ⟨_, _, fun κ => by simp only [opK, hk, hv, hv', hc]; rfl, shape_new (fun n hn => by simpa [namesV, nameOf] using hn) rfl⟩
theorem det_fieldAddr (t : TypeId) (x : Operand) (f : Nat) (h : opK E tm m (.fieldAddr t x f) κ = some r) : Det E tm m (.fieldAddr t x f) := by
  simp only [opK] at h
  split at h
  · rename_i zs fs i k ht hv
    split at h
    · rename_i off ft hf
      split at h
      case h_2 => cases h
      rename_i fd' hfd
      obtain ⟨hz, h⟩ := cond_none' h
      exact ⟨_, _, fun κ => by simp only [opK, ht, hv, hf, hfd, hz]; rfl, shape_same (fun n hn => ⟨x, by simp [Op.operands], by rw [hv]; simpa [namesV, nameOf] using hn⟩) rfl⟩
    · cases h
  · cases h
theorem det_field (t : TypeId) (x : Operand) (f : Nat) (h : opK E tm m (.field t x f) κ = some r) : Det E tm m (.field t x f) := by
  simp only [opK] at h
  split at h
  case h_2 => cases h
  rename_i zs fs vs ht hv
  split at h
  case h_2 => cases h
  rename_i off ft hf
  split at h
  case h_2 => cases h
  rename_i td hft
  split at h
  case h_2 => cases h
  rename_i v hc
  refine ⟨.o v, m, fun κ => by simp only [opK, ht, hv, hf, hft, hc], shape_plain ?_ rfl⟩
  rcases ofCells_cases hc with ⟨u, _, rfl, _⟩ | ⟨n, k, _, _, _, rfl⟩ | ⟨zs', fs', _, _, rfl⟩ <;> rfl
theorem det_indexAddr (t : TypeId) (x y : Operand) (h : opK E tm m (.indexAddr t x y) κ = some r) : Det E tm m (.indexAddr t x y) := by
  simp only [opK] at h
  split at h
  · rename_i n kk i k kd j ht hv hv'
    obtain ⟨hc, h⟩ := cond_none h
    exact ⟨_, _, fun κ => by simp only [opK, ht, hv, hv', hc]; rfl, shape_same (fun n hn => ⟨x, by simp [Op.operands], by rw [hv]; simpa [namesV, nameOf] using hn⟩) rfl⟩
  · rename_i e i kd j ht hv hv'
    split at h
    case h_2 => cases h
    rename_i ke s kd' n xs he hm
    obtain ⟨hc, h⟩ := cond_none h
    exact ⟨_, _, fun κ => by simp only [opK, ht, hv, hv', he, hm, hc]; rfl, shape_same (fun n hn => ⟨x, by simp [Op.operands], by rw [hv]; simpa [namesV, nameOf] using hn⟩) rfl⟩
  · rename_i e i k n kd j ht hv hv'
    split at h
    · rename_i sz hsz
      obtain ⟨hc, h⟩ := cond_none h
      exact ⟨_, _, fun κ => by simp only [opK, ht, hv, hv', hsz, hc]; rfl, shape_same (fun n hn => ⟨x, by simp [Op.operands], by rw [hv]; simpa [namesV, nameOf] using hn⟩) rfl⟩
    · cases h
  · rename_i n zs e i k kd j ht hv hv'
    split at h
    · rename_i sz hsz
      obtain ⟨hc, h⟩ := cond_none h
      exact ⟨_, _, fun κ => by simp only [opK, ht, hv, hv', hsz, hc]; rfl, shape_same (fun n hn => ⟨x, by simp [Op.operands], by rw [hv]; simpa [namesV, nameOf] using hn⟩) rfl⟩
    · cases h
  · cases h
theorem det_index (t : TypeId) (x y : Operand) (h : opK E tm m (.index t x y) κ = some r) : Det E tm m (.index t x y) := by
  simp only [opK] at h
  split at h
  · rename_i n kk k' n' xs kd j ht hv hv'
    obtain ⟨hc, h⟩ := cond_none h
    exact ⟨_, _, fun κ => by simp only [opK, ht, hv, hv', hc]; rfl, shape_plain rfl rfl⟩
  · rename_i s kd j ht hv hv'
    obtain ⟨hc, h⟩ := cond_none h
    exact ⟨_, _, fun κ => by simp only [opK, ht, hv, hv', hc]; rfl, shape_plain rfl rfl⟩
  · cases h
end
end Go.Vm

namespace Go.Vm
open Go.RowKit (Below)
variable {P : Program}

section
variable {E : Env} {tm : List V} {m : Mem} {κ : V → Mem → R} {r : List (Own × D)}
theorem det_bin (op : BinOp) (t yt : TypeId) (x y : Operand) (hn : isNilTest op y = false) (h : opK E tm m (.binOp op t x y yt) κ = some r) : Det E tm m (.binOp op t x y yt) := by
  simp only [opK] at h
  rw [hn, cond_false] at h
  unfold binK at h
  split at h
  case h_2 => cases h
  rename_i bad v hb
  obtain ⟨h0, h⟩ := cond_none' h
  exact ⟨.o (.p v), m, fun κ => by simp only [opK]; rw [hn, cond_false]; simp only [binK, hb, h0]; rfl, shape_plain rfl rfl⟩

/-- The bounds of a slice expression. -/
theorem det_bds {n : Nat} (lo hi : Option V) (κ' : Nat → Nat → R) (h : sliceBds n lo hi κ' = some r) : ∃ l h', ∀ κ : Nat → Nat → R, sliceBds n lo hi κ = κ l h' := by
  unfold sliceBds at h
  dsimp only at h
  split at h
  · split at h
    · exact ⟨0, n, fun κ => rfl⟩
    · obtain ⟨hc, h⟩ := cond_none h
      exact ⟨_, _, fun κ => by simp only [sliceBds, hc]; rfl⟩
    · cases h
  · split at h
    · obtain ⟨hc, h⟩ := cond_none h
      exact ⟨_, _, fun κ => by simp only [sliceBds, hc]; rfl⟩
    · obtain ⟨hc, h⟩ := cond_none h
      obtain ⟨hc', h⟩ := cond_none h
      exact ⟨_, _, fun κ => by simp only [sliceBds, hc, hc']; rfl⟩
    · obtain ⟨_, h⟩ := cond_none h
      cases h
  · cases h
theorem det_slice (t : TypeId) (x : Operand) (lo hi : Option Operand) (h : opK E tm m (.slice t x lo hi none) κ = some r) : Det E tm m (.slice t x lo hi none) := by
  have same : ∀ {v : V} {i : Nat}, nameOf (opnd tm x) = some i → nameOf v = some i → (∀ x, v = .o x → True) → namesV v = [i] → Shape tm m (.slice t x lo hi none) v m := by
    intro v i h1 _ _ h3
    refine shape_same (fun n hn => ⟨x, by simp [Op.operands], ?_⟩) rfl
    rw [h3] at hn
    generalize opnd tm x = y at h1
    cases y with
    | o y => simp only [namesV, h1]; simpa using hn
    | t l => cases h1
  simp only [opK] at h
  split at h
  · rename_i n k i ht hv
    split at h
    case h_2 => cases h
    rename_i s kd n' xs hm
    obtain ⟨hn, h⟩ := cond_none h
    cases hnn : (lo.isNone && hi.isNone) <;> rw [hnn] at h
    · obtain ⟨l, h', hd⟩ := det_bds _ _ (fun l h => κ (.o (.s i l (h - l))) m) h
      exact ⟨.o (.s i l (h' - l)), m, fun κ => by simp only [opK, ht, hv, hm, hn, hnn, cond_true, cond_false, hd], same (by rw [hv]; rfl) rfl (fun _ _ => trivial) rfl⟩
    · exact ⟨.o (.f i), m, fun κ => by simp only [opK, ht, hv, hm, hn, hnn, cond_true], same (by rw [hv]; rfl) rfl (fun _ _ => trivial) rfl⟩
  · rename_i e i ht hv
    split at h
    case h_2 => cases h
    rename_i ke s kd n xs he hm
    obtain ⟨l, h', hd⟩ := det_bds _ _ (fun l h => κ (.o (.s i l (h - l))) m) h
    exact ⟨.o (.s i l (h' - l)), m, fun κ => by simp only [opK, ht, hv, he, hm, hd], same (by rw [hv]; rfl) rfl (fun _ _ => trivial) rfl⟩
  · rename_i e i k n ht hv
    split at h
    case h_2 => cases h
    rename_i ke he
    obtain ⟨l, h', hd⟩ := det_bds _ _ (fun l h => κ (.o (.s i (k + l) (h - l))) m) h
    exact ⟨.o (.s i (k + l) (h' - l)), m, fun κ => by simp only [opK, ht, hv, he, hd], same (by rw [hv]; rfl) rfl (fun _ _ => trivial) rfl⟩
  · rename_i e ht hv
    split at h
    case h_2 => cases h
    rename_i td he
    obtain ⟨l, h', hd⟩ := det_bds _ _ (fun _ _ => κ (.o .z) m) h
    exact ⟨.o .z, m, fun κ => by simp only [opK, ht, hv, he, hd], shape_plain rfl rfl⟩
  · rename_i n kx i k hne ht hv
    split at h
    case h_2 => cases h
    rename_i s vs hm
    obtain ⟨hn, h⟩ := cond_none h
    cases hnn : (lo.isNone && hi.isNone) <;> rw [hnn] at h
    · cases h
    · refine ⟨.o (.s i k n), m, fun κ => ?_, same (by rw [hv]; rfl) rfl (fun _ _ => trivial) rfl⟩
      match k, hne, hv, hn with
      | 0, hne, hv, hn => exact (hne rfl).elim
      | k + 1, _, hv, hn => simp only [opK, ht, hv, hm, hn, hnn, cond_true]
  · cases h
theorem det_slice3 (t : TypeId) (x z : Operand) (lo hi : Option Operand) (h : opK E tm m (.slice t x lo hi (some z)) κ = some r) : Det E tm m (.slice t x lo hi (some z)) := by
  simp only [opK, slice3K] at h
  split at h
  case h_2 => cases h
  rename_i e ht
  split at h
  case h_2 => cases h
  rename_i td he
  split at h
  case h_2 => cases h
  rename_i v k1 h1 k2 c hv hlo hh hz
  replace h := cond_none h
  obtain ⟨hc, h⟩ := h
  exact ⟨.o .z, m, fun κ => by simp only [opK, slice3K, ht, he, hv, hlo, hh, hz, hc, cond_true], shape_plain rfl rfl⟩
theorem det_look (b : Builtin) (ts : Array TypeId) (args : Array Operand) (hb : b ≠ .append ∧ b ≠ .copy) (h : opK E tm m (.call ⟨.builtin b, args, ts⟩) κ = some r) : Det E tm m (.call ⟨.builtin b, args, ts⟩) := by
  have hfoot : (foot tm (.call ⟨.builtin b, args, ts⟩)).1 = [] := rfl
  have fin : ∀ v : Value, (∀ κ, builtinK E b ts.toList m (args.toList.map (opnd tm)) κ = κ (.o (.p v)) m) → Det E tm m (.call ⟨.builtin b, args, ts⟩) := fun v hv => ⟨.o (.p v), m, fun κ => by simp only [opK]; exact hv κ, shape_plain rfl hfoot⟩
  simp only [opK] at h
  unfold builtinK at h
  split at h
  · rename_i x hargs
    split at h
    case h_2 => cases h
    rename_i t tl hts
    split at h
    · rename_i ht
      exact fin _ fun κ => by simp only [builtinK, hargs, hts, ht]; rfl
    · rename_i ht
      split at h
      case h_2 => cases h
      rename_i hm
      exact fin _ fun κ => by simp only [builtinK, hargs, hts, ht, hm]; rfl
    · rename_i ht
      exact fin _ fun κ => by simp only [builtinK, hargs, hts, ht]; rfl
    · rename_i ht
      exact fin _ fun κ => by simp only [builtinK, hargs, hts, ht]; rfl
    · cases h
  · rename_i k x k' y hargs
    cases hd : decide (k = k') <;> rw [hd] at h
    · cases h
    · exact fin _ fun κ => by simp only [builtinK, hargs, hd]; rfl
  · rename_i k x k' y hargs
    cases hd : decide (k = k') <;> rw [hd] at h
    · cases h
    · exact fin _ fun κ => by simp only [builtinK, hargs, hd]; rfl
  · exact absurd rfl hb.1
  · exact absurd rfl hb.2
  · exact absurd rfl hb.2
  · cases h

theorem op_det (o : Op) (hw : writesMore o = false) (hc : ∀ f args ts, o ≠ .call ⟨.value (.func f), args, ts⟩) (h : opK E tm m o κ = some r) : Det E tm m o := by
  cases o
  case move x => exact det_move x h
  case assign x => exact det_assign x h
  case pick c x y => exact det_pick c x y h
  case alloc t => exact det_alloc t h
  case box t x => exact det_box t x h
  case build t ps => exact det_build t ps h
  case buildSlice t n ps => exact det_buildSlice t n ps h
  case load t x => exact det_load t x h
  case store t x y => exact det_store t x y h
  case binOp op t x y yt => exact det_bin op t yt x y hw h
  case unOp op t x =>
    cases op
    case not => exact det_not t x h
    case neg => exact det_neg t x h
    all_goals (simp [opK] at h)
  case convert s t x => exact det_convert s t x h
  case makeSlice t x y => exact det_makeSlice t x y h
  case slice t x lo hi mx =>
    cases mx
    · exact det_slice t x lo hi h
    · exact det_slice3 t x _ lo hi h
  case fieldAddr t x f => exact det_fieldAddr t x f h
  case field t x f => exact det_field t x f h
  case indexAddr t x y => exact det_indexAddr t x y h
  case index t x y => exact det_index t x y h
  case extract x i => exact det_extract x i h
  case call c =>
    obtain ⟨callee, args, ts⟩ := c
    cases callee
    case value x =>
      cases x
      case func f => exact absurd rfl (hc f args ts)
      all_goals (simp [opK] at h)
    case builtin b =>
      refine det_look b ts args ?_ h
      constructor <;> (rintro rfl; cases hw)
    case invoke => simp [opK] at h
  all_goals (simp [opK] at h)
end
end Go.Vm

namespace Go.Vm
open Go.RowKit (Below)
variable {P : Program}

/-- Wherever this operation is met, with operands that read so, it comes to this. -/
def OpEff (P : Program) (o : Oper) (tm : List V) (m : Mem) (v : V) (m' : Mem) : Prop :=
  ∀ (ρ : Nm) (a : Act) (w : World), (∀ x ∈ o.op.operands, VR ρ m w (opnd tm x) (a.eval x)) → Touch ρ m w ((foot tm o.op).1 ++ (foot tm o.op).2) →
    Does P o a w fun rv w' => ∃ ρ', Eff ρ m w (foot tm o.op) v m' rv w' ρ'

section
variable {E : Env} {tm : List V} {m : Mem} {κ : V → Mem → R} {r : List (Own × D)}

theorem det_content {v : V} {κ' : D → R} (h : contentK m v κ' = some r) : ∃ d, ∀ κ : D → R, contentK m v κ = κ d := by
  unfold contentK at h
  split at h
  · exact ⟨_, fun κ => rfl⟩
  · exact ⟨_, fun κ => rfl⟩
  · exact ⟨_, fun κ => rfl⟩
  · exact ⟨_, fun κ => rfl⟩
  · rename_i i
    split at h
    · rename_i hm
      exact ⟨_, fun κ => by simp only [contentK, hm]; rfl⟩
    · cases h
  · rename_i i k n
    split at h
    · rename_i hm
      obtain ⟨hc, h⟩ := cond_none h
      exact ⟨_, fun κ => by simp only [contentK, hm, hc]; rfl⟩
    · rename_i hm
      cases hk0 : (k == 0) <;> rw [hk0] at h
      · rw [cond_false] at h
        split at h
        case h_2 => cases h
        rename_i kd hkd
        obtain ⟨hc, h⟩ := cond_none h
        exact ⟨_, fun κ => by simp only [contentK, hm, hk0, hkd, hc, cond_false]; rfl⟩
      · rw [cond_true] at h
        obtain ⟨hc, h⟩ := cond_none h
        exact ⟨_, fun κ => by simp only [contentK, hm, hk0, hc, cond_true]; rfl⟩
    · cases h
  · cases h
theorem det_contents : ∀ (l : List V) (κ' : List D → R), contentsK m l κ' = some r → ∃ ds, ∀ κ : List D → R, contentsK m l κ = κ ds
  | [], κ', h => ⟨[], fun κ => rfl⟩
  | v :: l, κ', h => by
    simp only [contentsK] at h
    obtain ⟨d, hd⟩ := det_content h
    rw [hd] at h
    obtain ⟨ds, hds⟩ := det_contents l _ h
    exact ⟨d :: ds, fun κ => by simp only [contentsK]; rw [hd, hds]⟩

theorem names_vals : ∀ (res : List (Own × D)) (b : Nat) (x : V0), x ∈ valsOf b res → ∀ n, nameOf (.o x) = some n → b ≤ n ∧ n < b + (blksOf (res.length == 1) res).length := by
  have key : ∀ (one : Bool) (res : List (Own × D)) (b : Nat) (x : V0), x ∈ valsOf b res → ∀ n, nameOf (.o x) = some n → b ≤ n ∧ n < b + (blksOf one res).length := by
    intro one res
    induction res with
    | nil => intro b x hx; simp [valsOf] at hx
    | cons q l ih =>
      intro b x hx n hn
      obtain ⟨ow, d⟩ := q
      cases d with
      | w k xs =>
        simp only [valsOf, List.mem_cons] at hx
        simp only [blksOf, blkOfD, List.length_cons]
        rcases hx with rfl | hx
        · cases hn; omega
        · have := ih (b + 1) x hx n hn; omega
      | c k xs =>
        simp only [valsOf, List.mem_cons] at hx
        simp only [blksOf, blkOfD, List.length_cons]
        rcases hx with rfl | hx
        · cases hn; omega
        · have := ih (b + 1) x hx n hn; omega
      | p v =>
        simp only [valsOf, List.mem_cons] at hx
        simp only [blksOf, blkOfD]
        rcases hx with rfl | hx
        · cases hn
        · exact ih b x hx n hn
      | r k j xs =>
        simp only [valsOf, List.mem_cons] at hx
        simp only [blksOf, blkOfD]
        rcases hx with rfl | hx
        · cases hn
        · exact ih b x hx n hn
      | g vs =>
        simp only [valsOf, List.mem_cons] at hx
        simp only [blksOf, blkOfD]
        rcases hx with rfl | hx
        · cases hn
        · exact ih b x hx n hn
  exact fun res => key _ res

theorem op_eff (hE : EnvOK P E) (o : Oper) (hw : writesMore o.op = false) {ρ : Nm} {a : Act} {w : World} (hx : ∀ x ∈ o.op.operands, VR ρ m w (opnd tm x) (a.eval x)) (hb : Touch ρ m w ((foot tm o.op).1 ++ (foot tm o.op).2))
    (h : opK E tm m o.op κ = some r) : ∃ v m', κ v m' = some r ∧ OpEff P o tm m v m' ∧ Shape tm m o.op v m' := by
  by_cases hc : ∀ f args ts, o.op ≠ .call ⟨.value (.func f), args, ts⟩
  · obtain ⟨v, m', hdet, hsh⟩ := op_det o.op hw hc h
    refine ⟨v, m', (hdet κ).symm.trans h, fun ρ a w hx hb => ?_, hsh⟩
    classical
    have h1 : opK E tm m o.op (fun v2 m2 => if v2 = v ∧ m2 = m' then some [] else none) = some [] := by rw [hdet, if_pos ⟨rfl, rfl⟩]
    obtain ⟨v2, m2, h2, h3⟩ := op_owes hE o hw hx hb h1
    by_cases he : v2 = v ∧ m2 = m'
    · obtain ⟨rfl, rfl⟩ := he
      exact h3
    · simp only [if_neg he] at h2
      cases h2
  · obtain ⟨f, args, ts, ho⟩ : ∃ f args ts, o.op = .call ⟨.value (.func f), args, ts⟩ := by
      refine Classical.byContradiction fun hn => hc fun f args ts e => hn ⟨f, args, ts, e⟩
    obtain ⟨dst, op, ty, pos, after, guard⟩ := o
    dsimp only at *
    subst ho
    have hx' : ∀ {ρ : Nm} {a : Act} {w : World}, (∀ x ∈ (Op.call ⟨.value (.func f), args, ts⟩).operands, VR ρ m w (opnd tm x) (a.eval x)) → ∀ x ∈ args.toList, VR ρ m w (opnd tm x) (a.eval x) :=
      fun hx y hy => hx _ (by simp only [Op.operands, Call.operands]; simp at hy ⊢; exact .inr hy)
    simp only [opK] at h
    split at h
    case h_2 => cases h
    rename_i F hF
    obtain ⟨ds, hds⟩ := det_contents _ _ h
    have real : ∀ (ρ : Nm) (a : Act) (w : World), (∀ x ∈ args.toList, VR ρ m w (opnd tm x) (a.eval x)) → Touch ρ m w (args.toList.filterMap fun x => nameOf (opnd tm x)) →
        all2 (DR w) ds (args.toList.map a.eval) ∧ ∀ v, v ∈ args.toList.map a.eval → ∀ ad n cap, v = .slice (some ad) n cap → n ≠ 0 → ∃ x, x ∈ args.toList ∧ ∃ i o, nameOf (opnd tm x) = some i ∧ liveAt m i ∧ ρ i = some (ad.block, o) := by
      intro ρ a w hx hb
      classical
      have h1 : contentsK m (args.toList.map (opnd tm)) (fun ds2 => if ds2 = ds then some [] else none) = some [] := by rw [hds, if_pos rfl]
      obtain ⟨ds2, h2, h3, h4⟩ := contents_dr (r := []) a.eval tm args.toList _ hx hb h1
      by_cases he : ds2 = ds
      · subst he; exact ⟨h3, h4⟩
      · simp only [if_neg he] at h2; cases h2
    obtain ⟨g1, _⟩ := real ρ a w (hx' hx) (by simpa [foot] using hb)
    rw [hds] at h
    obtain ⟨res, h4, h5⟩ := hE.fn f F hF ds _ r (all_wf ds _ g1) h
    obtain ⟨h6, h7⟩ := cond_none' h4
    rw [resV_eq] at h7
    refine ⟨_, _, h7, fun ρ a w hx hb => ?_, ?_, .inl ⟨rfl, _, rfl⟩⟩
    · obtain ⟨k1, k2⟩ := real ρ a w (hx' hx) (by simpa [foot] using hb)
      exact call_real f args ts k1 k2 h5 h6
    · intro n hn
      left
      have : ∃ x, x ∈ valsOf m.length res ∧ nameOf (.o x) = some n := by
        generalize valsOf m.length res = l at hn
        match l, hn with
        | [], hn => simp [lone, namesV] at hn
        | [x], hn => simp only [lone, namesV] at hn; exact ⟨x, by simp, by simpa using hn⟩
        | x :: y :: l, hn =>
          obtain ⟨q, hz, he⟩ := List.mem_filterMap.1 (show n ∈ (x :: y :: l).filterMap fun x => nameOf (.o x) from hn)
          exact ⟨q, hz, he⟩
      obtain ⟨x, hx1, hx2⟩ := this
      have := names_vals res m.length x hx1 n hx2
      simp only [List.length_append]
      omega
end
end Go.Vm

namespace Go.Vm
open Go.RowKit (Below)
variable {P : Program}

theorem does_exists {o : Oper} {a : Act} {w : World} {post : Value → World → Prop} (h : Does P o a w post) : ∃ rv w', post rv w' := by
  have h1 := h (fun _ _ => ∃ rv w', post rv w') (fun _ _ _ => ∃ rv w', post rv w') (fun rv w' hp => ⟨rv, w', hp⟩)
  unfold Oper.wp at h1
  generalize (execOp a.eval o).run P w = x at h1
  cases x with
  | ok n w' =>
    cases n <;> simp only [Oper.upon] at h1 <;> first | exact h1 | skip
    · obtain ⟨e, w2, _, h2, _⟩ := h1 []
      cases e with
      | returned v => exact h2
      | panicked c => exact h2
      | outgrown => obtain ⟨_, _, h3⟩ := h2; exact h3
    · obtain ⟨_, _, h2, _⟩ := h1 default []
      exact h2
  | halt q w' => cases q <;> simp only [Oper.upon] at h1 <;> exact h1

/-- Is an operation wanted, by what is told? -/
def wantV (ops : Array Oper) (tm : List V) (o : Oper) : Option Bool := match o.guard with
  | none => some true
  | some (j, want) => match (ops[j]?).bind (·.dst) with
    | some d => match getT tm d with
      | .o (.p (.bool b)) => some (b == want)
      | .t [] => some false
      | _ => none
    | none => none

/-- Two operations do not touch one block, if one of them writes it. -/
def noClash (f g : List Nat × List Nat) : Prop := ∀ n, n ∈ f.1 → n ∉ g.1 ∧ n ∉ g.2
def friendly (f g : List Nat × List Nat) : Prop := noClash f g ∧ noClash g f

structure StepOK (P : Program) (ops : Array Oper) (o : Oper) (tm : List V) (m : Mem) (v : V) (ex : Bool) (tm' : List V) (m' : Mem) : Prop where
  next : tm' = putT tm o.dst v
  want : wantV ops tm o = some ex
  names : ∀ t n, n ∈ namesV (getT tm t) → n < m.length
  skip : ex = false → v = .t [] ∧ m' = m
  more : ex = true → writesMore o.op = false
  eff : ex = true → OpEff P o tm m v m'
  shape : ex = true → Shape tm m o.op v m'
  sts : StLe m m' ∧ (∀ i, i < m.length → mineAt m i → mineAt m' i) ∧ (∀ i n, i < m.length → blkN m i = some n → blkN m' i = some n)

theorem vr_names {ρ : Nm} {m : Mem} {w : World} {x : V} {rx : Value} (h : VR ρ m w x rx) : ∀ n, n ∈ namesV x → n < m.length := by
  have one : ∀ {y : V0} {ry : Value}, VR0 ρ m w y ry → ∀ n, nameOf (.o y) = some n → n < m.length := by
    intro y ry h n hn
    cases y <;> cases hn
    · exact h.1
    · exact h.1
    · exact h.1
  intro n hn
  cases x with
  | o y => simp only [namesV, Option.mem_toList] at hn; exact one h n hn
  | t l =>
    obtain ⟨rs, _, h2⟩ := h
    obtain ⟨y, hy, hn⟩ := List.mem_filterMap.1 hn
    have : ∀ (l : List V0) (rs : List Value), all2 (VR0 ρ m w) l rs → ∀ y, y ∈ l → ∃ ry, VR0 ρ m w y ry := by
      intro l
      induction l with
      | nil => intro _ _ y hy; cases hy
      | cons z' l ih =>
        intro rs h y hy
        match rs, h with
        | r :: rs, h =>
          rcases List.mem_cons.1 hy with rfl | hy
          · exact ⟨r, h.1⟩
          · exact ih rs h.2 y hy
    obtain ⟨ry, hr⟩ := this l rs h2 y hy
    exact one hr n hn

theorem shape_sts {tm : List V} {m m' : Mem} {o : Op} {v : V} (h : Shape tm m o v m') : StLe m m' ∧ (∀ i, i < m.length → mineAt m i → mineAt m' i) ∧ (∀ i n, i < m.length → blkN m i = some n → blkN m' i = some n) := by
  rcases h.2 with ⟨_, nb, rfl⟩ | ⟨n, blk', hf, _, rfl, hmn, hsame⟩
  · refine ⟨StLe.append m nb, fun i hi ⟨b, hb⟩ => ⟨b, by rw [List.getElem?_append_left hi, hb]⟩, fun i n hi hb => ?_⟩
    unfold blkN at hb ⊢
    rwa [List.getElem?_append_left hi]
  · obtain ⟨b0, hb0⟩ := hmn
    have hlt : n < m.length := (List.getElem?_eq_some_iff.1 hb0).1
    refine ⟨StLe.set m n .mine blk' (fun _ => ⟨b0, hb0⟩) (fun k q xs e => ?_), fun i hi ⟨b, hb⟩ => ?_, fun i q hi hb => ?_⟩
    · rw [← hsame]
      unfold blkN
      rw [List.getElem?_set_self hlt, e]
    · by_cases e : n = i
      · subst e; exact ⟨blk', List.getElem?_set_self hi⟩
      · exact ⟨b, by rw [List.getElem?_set_ne e, hb]⟩
    · by_cases e : n = i
      · subst e; rw [hsame, hb]
      · unfold blkN at hb ⊢
        rwa [List.getElem?_set_ne e]
end Go.Vm

namespace Go.Vm
open Go.RowKit (Below)
variable {P : Program}

/-- What stands ahead, by its bits. -/
theorem ahead_fold (acc : List Nat) (j : Nat) : ∀ (es : List Edge) (s : Nat), (es.foldl (fun s e => bif Region.binds .any e && decide (e.on < acc.length) then s ||| (2 ^ e.on) ||| acc.getD e.on 0 else s) s).testBit j = true →
    s.testBit j = true ∨ ∃ e, e ∈ es ∧ Region.binds .any e = true ∧ e.on < acc.length ∧ (j = e.on ∨ (acc.getD e.on 0).testBit j = true)
  | [], s, h => .inl h
  | e :: es, s, h => by
    rw [List.foldl_cons] at h
    rcases ahead_fold acc j es _ h with h1 | ⟨e', h1, h2⟩
    · cases hc : (Region.binds .any e && decide (e.on < acc.length)) with
      | false => rw [hc] at h1; exact .inl h1
      | true =>
        rw [hc] at h1
        simp only [cond_true, Nat.testBit_or, Bool.or_eq_true] at h1
        obtain ⟨k1, k2⟩ := Bool.and_eq_true_iff.1 hc
        rcases h1 with (h1 | h1) | h1
        · exact .inl h1
        · right
          refine ⟨e, by simp, k1, of_decide_eq_true k2, .inl ?_⟩
          rw [Nat.testBit_two_pow] at h1
          exact (of_decide_eq_true h1).symm
        · exact .inr ⟨e, by simp, k1, of_decide_eq_true k2, .inr h1⟩
    · exact .inr ⟨e', by simp [h1], h2⟩
theorem aheadsFrom_len : ∀ (l : List Oper) (acc : List Nat), (aheadsFrom l acc).length = acc.length + l.length ∧ ∀ i, i < acc.length → (aheadsFrom l acc).getD i 0 = acc.getD i 0
  | [], acc => ⟨by simp [aheadsFrom], fun _ _ => rfl⟩
  | o :: l, acc => by
    obtain ⟨h1, h2⟩ := aheadsFrom_len l (acc ++ [aheadOf acc o.after.toList])
    refine ⟨by rw [aheadsFrom, h1]; simp; omega, fun i hi => ?_⟩
    rw [aheadsFrom, h2 i (by simp; omega)]
    simp [List.getD_eq_getElem?_getD, List.getElem?_append_left hi]
theorem aheadsFrom_bits : ∀ (l : List Oper) (acc : List Nat) (i : Nat) (o : Oper), l[i]? = some o → ∀ j, ((aheadsFrom l acc).getD (acc.length + i) 0).testBit j = true →
    ∃ e, e ∈ o.after ∧ Region.binds .any e = true ∧ e.on < acc.length + i ∧ (j = e.on ∨ ((aheadsFrom l acc).getD e.on 0).testBit j = true)
  | [], acc, i, o, h, j, hj => by simp at h
  | o' :: l, acc, 0, o, h, j, hj => by
    simp only [List.getElem?_cons_zero, Option.some.injEq] at h
    subst h
    obtain ⟨h1, h2⟩ := aheadsFrom_len l (acc ++ [aheadOf acc o'.after.toList])
    rw [aheadsFrom, h2 _ (by simp), List.getD_eq_getElem?_getD, Nat.add_zero, List.getElem?_append_right (Nat.le_refl _)] at hj
    simp only [Nat.sub_self, List.getElem?_cons_zero, Option.getD_some] at hj
    rcases ahead_fold acc j _ _ hj with h3 | ⟨e, k1, k2, k3, k4⟩
    · simp at h3
    · refine ⟨e, by simpa using k1, k2, by omega, k4.imp id fun k4 => ?_⟩
      rw [(aheadsFrom_len (o' :: l) acc).2 _ k3]
      exact k4
  | o' :: l, acc, i + 1, o, h, j, hj => by
    have := aheadsFrom_bits l (acc ++ [aheadOf acc o'.after.toList]) i o (by simpa using h) j (by rw [aheadsFrom] at hj; rw [show (acc ++ [aheadOf acc o'.after.toList]).length + i = acc.length + (i + 1) from by simp; omega]; exact hj)
    obtain ⟨e, k1, k2, k3, k4⟩ := this
    exact ⟨e, k1, k2, by simp at k3; omega, k4⟩
/-- Whoever stands ahead by an edge, or ahead of such a one. -/
theorem aheads_bits (ops : List Oper) (i j : Nat) (o : Oper) (h : ops[i]? = some o) (hj : ((aheads ops).getD i 0).testBit j = true) :
    ∃ e, e ∈ o.after ∧ Region.binds .any e = true ∧ e.on < i ∧ (j = e.on ∨ ((aheads ops).getD e.on 0).testBit j = true) := by
  have := aheadsFrom_bits ops [] i o h j (by simpa [aheads] using hj)
  simpa [aheads] using this

section
variable {E : Env} {B : Nat} {w0 : World} {ab : Nat → Prop} {r : List (Own × D)}

/-- A region's way in the text's order. -/
structure Trace (P : Program) (all : Array Oper) (L : List Nat) (rest : List Oper) (i : Nat) (acc : Foots) (tms : Nat → List V) (ms : Nat → Mem) (vs : Nat → V) (ex : Nat → Bool) : Prop where
  step : ∀ k o, rest[k]? = some o → StepOK P all o (tms (i + k)) (ms (i + k)) (vs (i + k)) (ex (i + k)) (tms (i + k + 1)) (ms (i + k + 1))
  past : ∀ k o, rest[k]? = some o → ex (i + k) = true → ∀ q, q ∈ acc → (L.getD (i + k) 0).testBit q.1 = true ∨ friendly q.2 (foot (tms (i + k)) o.op)
  pair : ∀ k o k' o', rest[k]? = some o → ex (i + k) = true → k' < k → rest[k']? = some o' → ex (i + k') = true → (L.getD (i + k) 0).testBit (i + k') = true ∨ friendly (foot (tms (i + k')) o'.op) (foot (tms (i + k)) o.op)

theorem friendly_of {a : Nat} {acc : Foots} {f : List Nat × List Nat} (h : clash a acc f = false) : ∀ q, q ∈ acc → a.testBit q.1 = true ∨ friendly q.2 f := by
  intro q hq
  unfold clash at h
  rw [List.any_eq_false] at h
  have h1 := h q hq
  cases ht : a.testBit q.1 with
  | true => exact .inl rfl
  | false =>
    right
    rw [ht] at h1
    simp only [Bool.not_false, Bool.true_and, Bool.or_eq_true, List.any_eq_true, not_or, not_exists, not_and, List.contains_iff_mem] at h1
    exact ⟨fun n hn => ⟨fun hn' => (h1.1 n hn').1 hn, h1.2 n hn⟩, fun n hn => h1.1 n hn⟩

theorem trace_exists (hE : EnvOK P E) (all : Array Oper) (L : List Nat) {κ : List V → Mem → R} : ∀ (rest : List Oper) (i : Nat) (acc : Foots) (ρ : Nm) (tm : List V) (m : Mem) (a : Act) (w : World), St B w0 ab ρ tm m a w →
    evOps E all (some L) rest i acc tm m κ = some r → ∃ (tms : Nat → List V) (ms : Nat → Mem) (vs : Nat → V) (ex : Nat → Bool), tms i = tm ∧ ms i = m ∧ κ (tms (i + rest.length)) (ms (i + rest.length)) = some r ∧ Trace P all L rest i acc tms ms vs ex
  | [], i, acc, ρ, tm, m, a, w, hS, h => ⟨fun _ => tm, fun _ => m, fun _ => .o .u, fun _ => false, rfl, rfl, h, ⟨fun k o h => by simp at h, fun k o h => by simp at h, fun k o k' o' h => by simp at h⟩⟩
  | o :: rest, i, acc, ρ, tm, m, a, w, hS, h => by
    -- one step, then the rest
    have join : ∀ (v : V) (e : Bool) (m' : Mem) (acc' : Foots), StepOK P all o tm m v e (putT tm o.dst v) m' →
        (e = true → (∀ q, q ∈ acc → (L.getD i 0).testBit q.1 = true ∨ friendly q.2 (foot tm o.op)) ∧ acc' = (i, foot tm o.op) :: acc) → (e = false → acc' = acc) →
        (∃ (tms : Nat → List V) (ms : Nat → Mem) (vs : Nat → V) (ex : Nat → Bool), tms (i + 1) = putT tm o.dst v ∧ ms (i + 1) = m' ∧ κ (tms (i + 1 + rest.length)) (ms (i + 1 + rest.length)) = some r ∧ Trace P all L rest (i + 1) acc' tms ms vs ex) →
        ∃ (tms : Nat → List V) (ms : Nat → Mem) (vs : Nat → V) (ex : Nat → Bool), tms i = tm ∧ ms i = m ∧ κ (tms (i + (o :: rest).length)) (ms (i + (o :: rest).length)) = some r ∧ Trace P all L (o :: rest) i acc tms ms vs ex := by
      rintro v e m' acc' hs he he' ⟨tms, ms, vs, ex, h1, h2, h3, hT⟩
      have sub : ∀ q, q ∈ acc → q ∈ acc' := by
        intro q hq
        cases e with
        | true => rw [(he rfl).2]; exact List.mem_cons_of_mem _ hq
        | false => rw [he' rfl]; exact hq
      refine ⟨fun j => if j = i then tm else tms j, fun j => if j = i then m else ms j, fun j => if j = i then v else vs j, fun j => if j = i then e else ex j, if_pos rfl, if_pos rfl, ?_, ⟨?_, ?_, ?_⟩⟩
      · have e1 : i + (o :: rest).length = i + 1 + rest.length := by simp; omega
        try dsimp only
        rw [e1, if_neg (by omega), if_neg (by omega)]
        exact h3
      · intro k o' hk
        cases k with
        | zero =>
          simp only [List.getElem?_cons_zero, Option.some.injEq] at hk
          subst hk
          try dsimp only
          rw [if_pos (by omega), if_pos (by omega), if_pos (by omega), if_pos (by omega), if_neg (by omega), if_neg (by omega), Nat.add_zero, h1, h2]
          exact hs
        | succ k =>
          have := hT.step k o' (by simpa using hk)
          try dsimp only
          rw [if_neg (by omega), if_neg (by omega), if_neg (by omega), if_neg (by omega), if_neg (by omega), if_neg (by omega), show i + (k + 1) = i + 1 + k from by omega]
          exact this
      · intro k o' hk hx q hq
        cases k with
        | zero =>
          simp only [List.getElem?_cons_zero, Option.some.injEq] at hk
          subst hk
          try dsimp only at hx ⊢
          rw [if_pos (by omega)] at hx
          rw [if_pos (by omega), Nat.add_zero]
          exact (he hx).1 q hq
        | succ k =>
          try dsimp only at hx ⊢
          rw [if_neg (by omega), show i + (k + 1) = i + 1 + k from by omega] at hx
          rw [if_neg (by omega), show i + (k + 1) = i + 1 + k from by omega]
          exact hT.past k o' (by simpa using hk) hx q (sub q hq)
      · intro k o1 k' o2 hk hx hlt hk' hx'
        cases k with
        | zero => omega
        | succ k =>
          try dsimp only at hx hx' ⊢
          rw [if_neg (by omega), show i + (k + 1) = i + 1 + k from by omega] at hx
          cases k' with
          | zero =>
            simp only [List.getElem?_cons_zero, Option.some.injEq] at hk'
            subst hk'
            rw [if_pos (by omega)] at hx'
            rw [if_pos (by omega), if_neg (by omega), show i + (k + 1) = i + 1 + k from by omega, Nat.add_zero]
            have := hT.past k o1 (by simpa using hk) hx (i, foot tm o.op) (by rw [(he hx').2]; simp)
            exact this
          | succ k' =>
            rw [if_neg (by omega), show i + (k' + 1) = i + 1 + k' from by omega] at hx'
            rw [if_neg (by omega), if_neg (by omega), show i + (k + 1) = i + 1 + k from by omega, show i + (k' + 1) = i + 1 + k' from by omega]
            exact hT.pair k o1 k' o2 (by simpa using hk) hx (by omega) (by simpa using hk') hx'
    have hnames : ∀ t n, n ∈ namesV (getT tm t) → n < m.length := fun t n hn => vr_names (hS.tms t) n hn
    have go : wantV all tm o = some true → (bif writesMore o.op || clash (L.getD i 0) acc (foot tm o.op) then none else opK E tm m o.op fun v m' => evOps E all (some L) rest (i + 1) ((i, foot tm o.op) :: acc) (putT tm o.dst v) m' κ) = some r →
        ∃ (tms : Nat → List V) (ms : Nat → Mem) (vs : Nat → V) (ex : Nat → Bool), tms i = tm ∧ ms i = m ∧ κ (tms (i + (o :: rest).length)) (ms (i + (o :: rest).length)) = some r ∧ Trace P all L (o :: rest) i acc tms ms vs ex := by
      intro hw h
      obtain ⟨hc, h⟩ := cond_none' h
      obtain ⟨hm, hcl⟩ := Bool.or_eq_false_iff.1 hc
      obtain ⟨v, m', h1, h2, h3⟩ := op_eff hE o hm (fun x _ => hS.opnd x) (hS.touch _) h
      obtain ⟨rv, w', ρ', he⟩ := does_exists (h2 ρ a w (fun x _ => hS.opnd x) (hS.touch _))
      obtain ⟨g1, g2, g3⟩ := hS.inv.eff he
      refine join v true m' ((i, foot tm o.op) :: acc) ⟨rfl, hw, hnames, fun h => (by cases h), fun _ => hm, fun _ => h2, fun _ => h3, shape_sts h3⟩ (fun _ => ⟨friendly_of hcl, rfl⟩) (fun h => (by cases h)) ?_
      exact trace_exists hE all L rest (i + 1) _ ρ' _ m' _ w' (hS.put g1 g2 g3 o.dst) h1
    have pass : wantV all tm o = some false → evOps E all (some L) rest (i + 1) acc (putT tm o.dst (.t [])) m κ = some r →
        ∃ (tms : Nat → List V) (ms : Nat → Mem) (vs : Nat → V) (ex : Nat → Bool), tms i = tm ∧ ms i = m ∧ κ (tms (i + (o :: rest).length)) (ms (i + (o :: rest).length)) = some r ∧ Trace P all L (o :: rest) i acc tms ms vs ex := by
      intro hw h
      refine join (.t []) false m acc ⟨rfl, hw, hnames, fun _ => ⟨rfl, rfl⟩, fun h => (by cases h), fun h => (by cases h), fun h => (by cases h), ⟨StLe.refl m, fun _ _ h => h, fun _ _ _ h => h⟩⟩ (fun h => (by cases h)) (fun _ => rfl) ?_
      exact trace_exists hE all L rest (i + 1) acc ρ _ m _ w (hS.put (v := .t []) (rv := undef) hS.inv (fun _ _ h => h) ⟨[], rfl, trivial⟩ o.dst) h
    unfold evOps at h
    cases hg : o.guard with
    | none =>
      rw [hg] at h
      exact go (by simp [wantV, hg]) h
    | some q =>
      obtain ⟨j, want⟩ := q
      rw [hg] at h
      simp only at h
      split at h
      case h_2 => cases h
      rename_i d hd
      split at h
      case h_3 => cases h
      case h_2 =>
        rename_i hb
        exact pass (by simp only [wantV, hg, hd, hb]) h
      rename_i b hb
      have hwv : wantV all tm o = some (b == want) := by simp only [wantV, hg, hd, hb]
      rcases cond_some h with ⟨rfl, h⟩ | ⟨rfl, h⟩
      · rw [set_same tm d _ (.o .u) hb] at h
        cases want
        · exact pass hwv h
        · exact go hwv h
      · rw [set_same tm d _ (.o .u) hb] at h
        cases want
        · exact go hwv h
        · exact pass hwv h
end
end Go.Vm

namespace Go.Vm
open Go.RowKit (Below)
variable {P : Program}

/-- What one name owes, for what was told of it to be told still. -/
def Fit (ρ : Nm) (m : Mem) (w : World) (ρ' : Nm) (m' : Mem) (w' : World) (n : Nat) : Prop :=
  n < m'.length ∧ (mineAt m' n → mineAt m n) ∧ (∀ c, blkN m' n = some c → blkN m n = some c) ∧ ∀ b o, ρ n = some (b, o) → ρ' n = some (b, o) ∧ bsize w' b = bsize w b
theorem SlR.swap {ρ ρ' : Nm} {m m' : Mem} {w w' : World} {i k n : Nat} {r : Value} (h : SlR ρ m w i k n r) (hf : Fit ρ m w ρ' m' w' i) : SlR ρ' m' w' i k n r := by
  obtain ⟨hi, hm, hn, hr⟩ := hf
  obtain ⟨_, ad, cap, h1, h2, h3, h4, h5⟩ := h
  refine ⟨hi, ad, cap, h1, h2, h3, ?_, ?_⟩
  · rcases h4 with h4 | ⟨b, o, h4, h4'⟩
    · exact .inl h4
    · exact .inr ⟨b, o, (hr b o h4).1, h4'⟩
  · intro hm'
    rcases h5 (hm hm') with h5 | ⟨b, h5, h5', h5''⟩
    · exact .inl h5
    · exact .inr ⟨b, (hr b 0 h5).1, h5', by rw [(hr b 0 h5).2]; exact h5''⟩
theorem VR0.swap {ρ ρ' : Nm} {m m' : Mem} {w w' : World} {x : V0} {r : Value} (h : VR0 ρ m w x r) (hf : ∀ n, nameOf (.o x) = some n → Fit ρ m w ρ' m' w' n) : VR0 ρ' m' w' x r := by
  cases x with
  | p v => exact h
  | r k n xs => exact h
  | g vs => exact h
  | a i k =>
    obtain ⟨hi, b, o, h1, h2⟩ := h
    obtain ⟨k1, _, _, k2⟩ := hf i rfl
    exact ⟨k1, b, o, (k2 b o h1).1, h2⟩
  | s i k n => exact SlR.swap h (hf i rfl)
  | f i =>
    obtain ⟨hi, h⟩ := h
    have hk := hf i rfl
    exact ⟨hk.1, fun n hn => (h n (hk.2.2.1 n hn)).swap hk⟩
  | z => exact h
  | u => trivial
theorem VR.swap {ρ ρ' : Nm} {m m' : Mem} {w w' : World} {x : V} {r : Value} (h : VR ρ m w x r) (hf : ∀ n, n ∈ namesV x → Fit ρ m w ρ' m' w' n) : VR ρ' m' w' x r := by
  cases x with
  | o x => exact VR0.swap h fun n hn => hf n (by simp [namesV, hn])
  | t l =>
    obtain ⟨rs, h1, h2⟩ := h
    refine ⟨rs, h1, ?_⟩
    have key : ∀ (l : List V0) (rs : List Value), (∀ n, n ∈ l.filterMap (fun x => nameOf (.o x)) → Fit ρ m w ρ' m' w' n) → all2 (VR0 ρ m w) l rs → all2 (VR0 ρ' m' w') l rs := by
      intro l
      induction l with
      | nil => intro rs _ h; cases rs <;> exact h
      | cons x l ih =>
        intro rs hf h
        cases rs with
        | nil => exact h
        | cons y rs =>
          refine ⟨VR0.swap h.1 fun n hn => hf n (by simp only [List.mem_filterMap]; exact ⟨x, by simp, hn⟩), ih rs (fun n hn => hf n ?_) h.2⟩
          simp only [List.mem_filterMap] at hn ⊢
          obtain ⟨y, h1, h2⟩ := hn
          exact ⟨y, List.mem_cons_of_mem _ h1, h2⟩
    exact key l rs hf h2

theorem get_splice {α : Type} (l new : List α) (k n : Nat) (h : k + new.length ≤ l.length) : (splice l k new)[n]? = if k ≤ n ∧ n < k + new.length then new[n - k]? else l[n]? := by
  unfold splice
  have h1 : (l.take k).length = k := by simp; omega
  by_cases ha : n < k
  · rw [if_neg (by omega), List.append_assoc, List.getElem?_append_left (by omega), List.getElem?_take_of_lt ha]
  · by_cases hb : n < k + new.length
    · rw [if_pos ⟨by omega, hb⟩, List.append_assoc, List.getElem?_append_right (by omega), h1, List.getElem?_append_left (by omega)]
    · rw [if_neg (by omega), List.append_assoc, List.getElem?_append_right (by omega), h1, List.getElem?_append_right (by omega), List.getElem?_drop]
      congr 1
      omega
theorem splice_length {α : Type} (l new : List α) (k : Nat) (h : k + new.length ≤ l.length) : (splice l k new).length = l.length := by
  unfold splice
  simp
  omega

section
variable {B : Nat} {w0 : World} {ab : Nat → Prop} {ρ ρ' : Nm} {m mD nb : Mem} {w w' : World} {fr : List Nat}
theorem Inv.pad (hI : Inv B w0 ab ρ m w) (k : Nat) : Inv B w0 ab ρ (m ++ List.replicate k (.old, .dead)) w := by
  have split : ∀ {i : Nat} {p : Own × Blk}, (m ++ List.replicate k (Own.old, Blk.dead))[i]? = some p → (i < m.length ∧ m[i]? = some p) ∨ (m.length ≤ i ∧ p = (.old, .dead)) := by
    intro i p h
    by_cases hi : i < m.length
    · rw [List.getElem?_append_left hi] at h
      exact .inl ⟨hi, h⟩
    · rw [List.getElem?_append_right (by omega), List.getElem?_replicate] at h
      split at h
      · exact .inr ⟨by omega, (Option.some.inj h).symm⟩
      · cases h
  refine ⟨hI.below, hI.ble, ?_, ?_, ?_, ?_, ?_, hI.lt, ?_, hI.abB, ?_⟩
  · intro i s b h
    rcases split h with ⟨_, h⟩ | ⟨_, h⟩
    · exact hI.blk i s b h
    · cases h; trivial
  · intro i b h
    rcases split h with ⟨_, h⟩ | ⟨_, h⟩
    · exact hI.mine i b h
    · cases h
  · intro i b j s b' c o o' h h' hd hc hc'
    rcases split h with ⟨_, h⟩ | ⟨_, h⟩
    · rcases split h' with ⟨_, h'⟩ | ⟨_, h'⟩
      · exact hI.apart i b j s b' c o o' h h' hd hc hc'
      · cases h'; exact absurd rfl hd
    · cases h
  · intro i b h
    rcases split h with ⟨_, h⟩ | ⟨_, h⟩
    · exact hI.new i b h
    · cases h
  · intro i b h c o hc
    rcases split h with ⟨_, h⟩ | ⟨hi, h⟩
    · exact hI.old i b h c o hc
    · rw [hI.dom i hi] at hc; cases hc
  · intro i hi
    exact hI.dom i (by simp at hi; omega)
  · intro i b h
    rcases split h with ⟨_, h⟩ | ⟨_, h⟩
    · exact hI.live i b h
    · cases h

/-- New blocks, in places that were kept free for them. -/
theorem Inv.fill (hI : Inv B w0 ab ρ mD w) (hlen : m.length + nb.length ≤ mD.length)
    (hB : Below w.heap.size w w') (hρ : ∀ n, n < m.length ∨ m.length + nb.length ≤ n → ρ' n = ρ n) (hN : NewOK ρ m w w' fr ρ' nb) (hfr : ∀ n, n ∈ fr → mD[n]? = m[n]?) : Inv B w0 ab ρ' (splice mD m.length nb) w' := by
  have hheap : ∀ i c o, ρ i = some (c, o) → w'.heap[c]? = w.heap[c]? := fun i c o hc => hB.block c (hI.lt i c o hc)
  have split : ∀ {i : Nat} {p : Own × Blk}, (splice mD m.length nb)[i]? = some p → (ρ' i = ρ i ∧ mD[i]? = some p) ∨ ∃ j, i = m.length + j ∧ nb[j]? = some p := by
    intro i p h
    rw [get_splice _ _ _ _ hlen] at h
    split at h
    · rename_i hi
      exact .inr ⟨i - m.length, by omega, h⟩
    · rename_i hi
      exact .inl ⟨hρ i (by omega), h⟩
  have nlt : ∀ {j : Nat} {p : Own × Blk}, nb[j]? = some p → j < nb.length := fun h => (List.getElem?_eq_some_iff.1 h).1
  refine ⟨hI.below.trans (hB.mono hI.ble), Nat.le_trans hI.ble hB.size, ?_, ?_, ?_, ?_, ?_, ?_, ?_, hI.abB, ?_⟩
  · intro i s b h
    replace h := split h; rcases h with ⟨hi, h⟩ | ⟨j, rfl, h⟩
    · exact (hI.blk i s b h).keep hi (hheap i)
    · exact hN.blk j s b h
  · intro i b h
    replace h := split h; rcases h with ⟨hi, h⟩ | ⟨j, rfl, h⟩
    · obtain ⟨h1, h2⟩ := hI.mine i b h
      exact ⟨h1.keep hi (hheap i), fun c o hc => h2 c o (by rw [← hi, hc])⟩
    · obtain ⟨h1, h2⟩ := hN.mine j b h
      exact ⟨h1, fun c o hc => Nat.le_trans hI.ble (h2 c o hc)⟩
  · intro i b j s b' c o o' h h' hd hc hc'
    replace h := split h; rcases h with ⟨hi, h⟩ | ⟨i', rfl, h⟩
    · rw [hi] at hc
      replace h' := split h'; rcases h' with ⟨hj, h'⟩ | ⟨j', rfl, h'⟩
      · rw [hj] at hc'
        exact hI.apart i b j s b' c o o' h h' hd hc hc'
      · have hlt := hI.lt i c o hc
        exfalso
        cases s with
        | mine => have := (hN.mine j' b' h').2 c o' hc'; omega
        | new => have := hN.new j' b' h' c o' hc'; omega
        | old =>
          rcases hN.old j' b' h' c o' hc' with h1 | ⟨n, hnf, hn, hnm, o'', h1⟩
          · omega
          · obtain ⟨s2, b2, hmn, hdead⟩ := hn
            have := hI.apart i b n s2 b2 c o o'' h (by rw [hfr n hnf]; exact hmn) hdead hc h1
            subst this
            exact hnm ⟨b, by rw [← hfr i hnf]; exact h⟩
    · have hge := (hN.mine i' b h).2 c o hc
      replace h' := split h'; rcases h' with ⟨hj, h'⟩ | ⟨j', rfl, h'⟩
      · rw [hj] at hc'
        have := hI.lt j c o' hc'
        omega
      · rw [hN.apart i' b j' c o o' h (nlt h') hc hc']
  · intro i b h c o hc
    replace h := split h; rcases h with ⟨hi, h⟩ | ⟨j, rfl, h⟩
    · exact hI.new i b h c o (by rw [← hi, hc])
    · exact Nat.le_trans hI.ble (hN.new j b h c o hc)
  · intro i b h c o hc
    replace h := split h; rcases h with ⟨hi, h⟩ | ⟨j, rfl, h⟩
    · exact hI.old i b h c o (by rw [← hi, hc])
    · rcases hN.old j b h c o hc with h1 | ⟨n, hnf, hn, hnm, o', h1⟩
      · exact .inl (Nat.le_trans hI.ble h1)
      · obtain ⟨s2, b2, hmn, _⟩ := hn
        cases s2 with
        | mine => exact absurd ⟨b2, hmn⟩ hnm
        | new => exact .inl (hI.new n b2 (by rw [hfr n hnf]; exact hmn) c o' h1)
        | old => exact hI.old n b2 (by rw [hfr n hnf]; exact hmn) c o' h1
  · intro i c o hc
    by_cases hi : i < m.length ∨ m.length + nb.length ≤ i
    · rw [hρ i hi] at hc
      exact Nat.lt_of_lt_of_le (hI.lt i c o hc) hB.size
    · exact hN.lt (i - m.length) c o (by omega) (by rw [show m.length + (i - m.length) = i from by omega]; exact hc)
  · intro i hi
    rw [splice_length _ _ _ hlen] at hi
    rw [hρ i (.inr (by omega))]
    exact hI.dom i hi
  · intro i b h
    replace h := split h; rcases h with ⟨hi, h⟩ | ⟨j, rfl, h⟩
    · exact hI.live i b h
    · exact hN.live j _ b h
end
end Go.Vm

namespace Go.Vm
open Go.RowKit (Below)
variable {P : Program}

theorem foot_names (tm : List V) (o : Op) : ∀ n, n ∈ (foot tm o).1 ++ (foot tm o).2 → ∃ x, x ∈ o.operands ∧ n ∈ namesV (opnd tm x) := by
  have one : ∀ (v : V) (n : Nat), n ∈ (nameOf v).toList → n ∈ namesV v := by
    intro v n h
    cases v with
    | o x => exact h
    | t l => cases h
  intro n hn
  unfold foot at hn
  split at hn
  · rename_i t x y
    exact ⟨x, by simp [Op.operands], one _ _ (by simpa using hn)⟩
  · rename_i t x
    exact ⟨x, by simp [Op.operands], one _ _ (by simpa using hn)⟩
  · rename_i t x lo hi mx
    exact ⟨x, by simp [Op.operands], one _ _ (by simpa using hn)⟩
  · simp at hn
  · rename_i c _
    simp only [List.nil_append, List.mem_filterMap] at hn
    obtain ⟨x, h1, h2⟩ := hn
    refine ⟨x, ?_, one _ _ (by rw [h2]; simp)⟩
    obtain ⟨callee, args, ts⟩ := c
    simp at h1
    cases callee <;> simp [Op.operands, Call.operands, h1]
  · simp at hn

theorem calm_edge {ops : Array Oper} (hc : calm ops = true) {i : Nat} {o : Oper} (ho : ops[i]? = some o) {e : Edge} (he : e ∈ o.after) (hb : Region.binds .any e = true) : e.on < i := by
  unfold calm at hc
  have h1 := List.all_eq_true.1 hc (o, i) (List.mk_mem_zipIdx_iff_getElem?.2 (by simpa using ho))
  simp only [Bool.and_eq_true] at h1
  have h2 := Array.all_eq_true_iff_forall_mem.1 h1.1 e he
  simpa [hb] using h2
theorem calm_apart {ops : Array Oper} (hc : calm ops = true) {i j : Nat} {o o' : Oper} (ho : ops[i]? = some o) (ho' : ops[j]? = some o') (hij : i < j) : apart2 ops (((aheads ops.toList).getD j 0).testBit i) o o' = true := by
  unfold calm at hc
  have h1 := List.all_eq_true.1 hc (o, i) (List.mk_mem_zipIdx_iff_getElem?.2 (by simpa using ho))
  simp only [Bool.and_eq_true] at h1
  have h2 := List.all_eq_true.1 h1.2 (o', j) (List.mk_mem_zipIdx_iff_getElem?.2 (by simpa using ho'))
  simp only [Bool.or_eq_true, decide_eq_true_eq] at h2
  exact h2.resolve_left (by omega)

section
variable {E : Env} {B : Nat} {w0 : World} {ab : Nat → Prop} {ops : Array Oper} {tms : Nat → List V} {ms : Nat → Mem} {vs : Nat → V} {ex : Nat → Bool}

abbrev Tr (P : Program) (ops : Array Oper) (tms : Nat → List V) (ms : Nat → Mem) (vs : Nat → V) (ex : Nat → Bool) : Prop := Trace P ops (aheads ops.toList) ops.toList 0 [] tms ms vs ex

theorem tr_step (hT : Tr P ops tms ms vs ex) {i : Nat} {o : Oper} (ho : ops[i]? = some o) : StepOK P ops o (tms i) (ms i) (vs i) (ex i) (tms (i + 1)) (ms (i + 1)) := by
  have := hT.step i o (by simpa using ho)
  simpa using this
theorem tr_pair (hT : Tr P ops tms ms vs ex) {i j : Nat} {o o' : Oper} (ho : ops[i]? = some o) (ho' : ops[j]? = some o') (hij : i < j) (hi : ex i = true) (hj : ex j = true) :
    ((aheads ops.toList).getD j 0).testBit i = true ∨ friendly (foot (tms i) o.op) (foot (tms j) o'.op) := by
  have := hT.pair j o' i o (by simpa using ho') (by simpa using hj) hij (by simpa using ho) (by simpa using hi)
  simpa using this

def writes (ops : Array Oper) (tms : Nat → List V) (ex : Nat → Bool) (i n : Nat) : Prop := ∃ o, ops[i]? = some o ∧ ex i = true ∧ n ∈ (foot (tms i) o.op).1
def lays (ops : Array Oper) (i t : Nat) : Prop := ∃ o, ops[i]? = some o ∧ o.dst = some t
def born (ms : Nat → Mem) (K : Nat) (D : Nat → Prop) (n : Nat) : Prop := n < (ms 0).length ∨ ∃ q, q < K ∧ D q ∧ (ms q).length ≤ n ∧ n < (ms (q + 1)).length

theorem tr_mono (hT : Tr P ops tms ms vs ex) {i : Nat} : ∀ {j : Nat}, i ≤ j → j ≤ ops.size → (ms i).length ≤ (ms j).length ∧ ∀ n, n < (ms i).length → (mineAt (ms j) n ↔ mineAt (ms i) n) ∧ blkN (ms j) n = blkN (ms i) n := by
  intro j hij
  induction hij with
  | refl => exact fun _ => ⟨Nat.le_refl _, fun _ _ => ⟨Iff.rfl, rfl⟩⟩
  | @step j hij ih =>
    intro hj
    obtain ⟨h1, h2⟩ := ih (by omega)
    have hs := (tr_step hT (Array.getElem?_eq_getElem (show j < ops.size by omega))).sts
    refine ⟨Nat.le_trans h1 hs.1.1, fun n hn => ?_⟩
    have hn' : n < (ms j).length := by omega
    obtain ⟨g1, g2⟩ := h2 n hn
    refine ⟨⟨fun h => g1.1 (hs.1.2.1 n hn' h), fun h => hs.2.1 n hn' (g1.2 h)⟩, ?_⟩
    rw [← g2]
    apply Option.ext
    intro c
    exact ⟨fun h => hs.1.2.2 n c hn' h, fun h => hs.2.2 n c hn' h⟩
theorem tr_same (hT : Tr P ops tms ms vs ex) {i n : Nat} (hn : n < (ms i).length) : ∀ {j : Nat}, i ≤ j → j ≤ ops.size → (∀ q, i ≤ q → q < j → ¬ writes ops tms ex q n) → (ms j)[n]? = (ms i)[n]? := by
  intro j hij
  induction hij with
  | refl => exact fun _ _ => rfl
  | @step j hij ih =>
    intro hj hw
    have hlt : j < ops.size := by omega
    have hs := tr_step hT (Array.getElem?_eq_getElem hlt)
    have hlen := (tr_mono hT hij (by omega)).1
    rw [← ih (by omega) (fun q h1 h2 => hw q h1 (by omega))]
    cases hx : ex j with
    | false => rw [(hs.skip hx).2]
    | true =>
      rcases (hs.shape hx).2 with ⟨_, nb, e⟩ | ⟨k, blk', hf, _, e, _⟩
      · rw [e, List.getElem?_append_left (by omega)]
      · rw [e, List.getElem?_set_ne]
        intro e'
        subst e'
        exact hw j hij (by omega) ⟨_, Array.getElem?_eq_getElem hlt, hx, by rw [hf]; simp⟩
theorem tr_sameT (hT : Tr P ops tms ms vs ex) {i t : Nat} : ∀ {j : Nat}, i ≤ j → j ≤ ops.size → (∀ q, i ≤ q → q < j → ¬ lays ops q t) → (tms j).length = (tms i).length ∧ getT (tms j) t = getT (tms i) t := by
  intro j hij
  induction hij with
  | refl => exact fun _ _ => ⟨rfl, rfl⟩
  | @step j hij ih =>
    intro hj hw
    have hlt : j < ops.size := by omega
    have hs := tr_step hT (Array.getElem?_eq_getElem hlt)
    obtain ⟨g1, g2⟩ := ih (by omega) (fun q h1 h2 => hw q h1 (by omega))
    rw [← g1, ← g2, hs.next, length_putT, getT_putT, if_neg]
    · exact ⟨rfl, rfl⟩
    · intro h
      exact hw j hij (by omega) ⟨_, Array.getElem?_eq_getElem hlt, h.1⟩
theorem tr_len (hT : Tr P ops tms ms vs ex) : ∀ {j : Nat}, j ≤ ops.size → (tms j).length = (tms 0).length := by
  intro j
  induction j with
  | zero => exact fun _ => rfl
  | succ j ih =>
    intro hj
    rw [(tr_step hT (Array.getElem?_eq_getElem (show j < ops.size by omega))).next, length_putT, ih (by omega)]

/-- Some operations of a drawn region are done: D. -/
structure Dr (B : Nat) (w0 : World) (ab : Nat → Prop) (ops : Array Oper) (tms : Nat → List V) (ms : Nat → Mem) (ex : Nat → Bool) (D : Nat → Prop) (ρ : Nm) (mD : Mem) (a : Act) (w : World) : Prop where
  inv : Inv B w0 ab ρ mD w
  len : mD.length = (ms ops.size).length
  size : (tms 0).length = a.tmps.size
  defers : a.defers = []
  closed : ∀ i j, D j → ((aheads ops.toList).getD j 0).testBit i = true → D i
  slots : ∀ t τ, τ ≤ ops.size → (∀ q, lays ops q t → (D q ↔ q < τ)) → VR ρ mD w (getT (tms τ) t) (a.tmps.getD t undef) ∧ ∀ n, n ∈ namesV (getT (tms τ) t) → born ms ops.size D n
  cells : ∀ n τ, τ ≤ ops.size → n < (ms τ).length → born ms ops.size D n → (∀ q, writes ops tms ex q n → (D q ↔ q < τ)) → mD[n]? = (ms τ)[n]?
  wborn : ∀ q n, D q → writes ops tms ex q n → born ms ops.size D n
  like : ∀ n τ, τ ≤ ops.size → n < (ms τ).length → born ms ops.size D n → (mineAt mD n ↔ mineAt (ms τ) n) ∧ blkN mD n = blkN (ms τ) n

def plus (D : Nat → Prop) (i : Nat) : Nat → Prop := fun j => D j ∨ j = i
theorem born_plus {D : Nat → Prop} {K i n : Nat} (h : born ms K D n) : born ms K (plus D i) n := h.imp id fun ⟨q, h1, h2, h3⟩ => ⟨q, h1, .inl h2, h3⟩

variable {D : Nat → Prop} {ρ : Nm} {mD : Mem} {a : Act} {w : World} {i : Nat} {o : Oper}

theorem dr_ahead (hD : Dr B w0 ab ops tms ms ex D ρ mD a w) (ho : ops[i]? = some o) (hr : ∀ e ∈ o.after, Region.binds .any e = true → D e.on) {j : Nat} (h : ((aheads ops.toList).getD i 0).testBit j = true) : D j := by
  obtain ⟨e, h1, h2, _, h4⟩ := aheads_bits ops.toList i j o (by simpa using ho) h
  rcases h4 with rfl | h4
  · exact hr e h1 h2
  · exact hD.closed _ _ (hr e h1 h2) h4

/-- An operation that may be done now sees what it sees in the text's order. -/
theorem dr_look (hc : calm ops = true) (hD : Dr B w0 ab ops tms ms ex D ρ mD a w) (ho : ops[i]? = some o) (hi : ¬ D i) (hr : ∀ e ∈ o.after, Region.binds .any e = true → D e.on) {t : Nat} (ht : t ∈ looks ops o) :
    VR ρ mD w (getT (tms i) t) (a.tmps.getD t undef) ∧ ∀ n, n ∈ namesV (getT (tms i) t) → born ms ops.size D n := by
  have hlt : i < ops.size := (Array.getElem?_eq_some_iff.1 ho).1
  refine hD.slots t i (by omega) fun q ⟨o', ho', hd⟩ => ?_
  rcases Nat.lt_trichotomy q i with h | rfl | h
  · refine ⟨fun _ => h, fun _ => dr_ahead hD ho hr ?_⟩
    have := calm_apart hc ho' ho h
    simp only [apart2, hd, Bool.and_eq_true, Bool.or_eq_true, Bool.not_eq_true', List.contains_eq_mem, decide_eq_false_iff_not] at this
    exact this.1.1.resolve_right (fun h => h ht)
  · exact ⟨fun h => absurd h hi, fun h => absurd h (Nat.lt_irrefl _)⟩
  · refine ⟨fun hq => absurd (hD.closed i q hq ?_) hi, fun h' => by omega⟩
    have := calm_apart hc ho ho' h
    simp only [apart2, hd, Bool.and_eq_true, Bool.or_eq_true, Bool.not_eq_true', List.contains_eq_mem, decide_eq_false_iff_not] at this
    exact this.2.resolve_right (fun h => h ht)
theorem dr_opnd (hc : calm ops = true) (hD : Dr B w0 ab ops tms ms ex D ρ mD a w) (ho : ops[i]? = some o) (hi : ¬ D i) (hr : ∀ e ∈ o.after, Region.binds .any e = true → D e.on) {x : Operand} (hx : x ∈ o.op.operands) :
    VR ρ mD w (opnd (tms i) x) (a.eval x) ∧ ∀ n, n ∈ namesV (opnd (tms i) x) → born ms ops.size D n := by
  cases x with
  | tmp t => exact dr_look hc hD ho hi hr (by
      unfold looks
      rw [List.mem_append, List.mem_filterMap]
      exact .inl ⟨.tmp t, by simpa using hx, rfl⟩)
  | const v =>
    refine ⟨vr_const v, fun n hn => ?_⟩
    exfalso
    have h := vr_names (ρ := fun _ => none) (m := []) (w := w) (x := .o (constV v)) (vr_const v) n hn
    simp at h
  | global g => exact ⟨trivial, fun n hn => by simp [opnd, namesV, nameOf] at hn⟩
  | func f => exact ⟨trivial, fun n hn => by simp [opnd, namesV, nameOf] at hn⟩

theorem dr_wanted (hT : Tr P ops tms ms vs ex) (hc : calm ops = true) (hD : Dr B w0 ab ops tms ms ex D ρ mD a w) (ho : ops[i]? = some o) (hi : ¬ D i) (hr : ∀ e ∈ o.after, Region.binds .any e = true → D e.on) :
    Region.wanted o (yielded ops a.tmps) = ex i := by
  have hw := (tr_step hT ho).want
  unfold wantV at hw
  cases hg : o.guard with
  | none =>
    rw [hg] at hw
    simp only [Option.some.injEq] at hw
    rw [← hw]
    simp [Region.wanted, hg]
  | some q =>
    obtain ⟨j, want⟩ := q
    rw [hg] at hw
    simp only at hw
    split at hw
    case h_2 => cases hw
    rename_i d hd
    split at hw
    case h_3 => cases hw
    case h_2 =>
      rename_i hb
      have hl := (dr_look hc hD ho hi hr (t := d) (by simp [looks, hg, hd])).1
      rw [hb] at hl
      obtain ⟨rs, h1, _⟩ := hl
      have h2 : a.tmps[d]? = some (.tuple rs.toArray) ∨ a.tmps[d]? = none := by
        cases hq : a.tmps[d]? with
        | none => exact .inr rfl
        | some v => rw [Array.getD_eq_getD_getElem?, hq] at h1; simp at h1; rw [h1]; exact .inl rfl
      have hy : yielded ops a.tmps j = none := by rcases h2 with h2 | h2 <;> simp [yielded, hd, h2]
      simp only [Option.some.injEq] at hw
      rw [← hw]
      cases want <;> simp [Region.wanted, hg, hy]
    rename_i b hb
    have hl := (dr_look hc hD ho hi hr (t := d) (by simp [looks, hg, hd])).1
    rw [hb] at hl
    have h1 : a.tmps.getD d undef = .bool b := hl.1
    have h2 : a.tmps[d]? = some (.bool b) := by
      cases hq : a.tmps[d]? with
      | none => rw [Array.getD_eq_getD_getElem?, hq] at h1; cases h1
      | some v => rw [Array.getD_eq_getD_getElem?, hq] at h1; simp at h1; rw [h1]
    have hy : yielded ops a.tmps j = some b := by simp [yielded, hd, h2]
    simp only [Option.some.injEq] at hw
    rw [← hw]
    simp [Region.wanted, hg, hy]

theorem dr_foot (hT : Tr P ops tms ms vs ex) (hc : calm ops = true) (hD : Dr B w0 ab ops tms ms ex D ρ mD a w) (ho : ops[i]? = some o) (hi : ¬ D i) (hr : ∀ e ∈ o.after, Region.binds .any e = true → D e.on) (hx : ex i = true)
    {n : Nat} (hn : n ∈ (foot (tms i) o.op).1 ++ (foot (tms i) o.op).2) : born ms ops.size D n ∧ n < (ms i).length ∧ mD[n]? = (ms i)[n]? := by
  have hlt : i < ops.size := (Array.getElem?_eq_some_iff.1 ho).1
  obtain ⟨x, hxo, hxn⟩ := foot_names _ _ n hn
  have hb := (dr_opnd hc hD ho hi hr hxo).2 n hxn
  have hl : n < (ms i).length := by
    cases x with
    | tmp t => exact (tr_step hT ho).names t n hxn
    | const v =>
      exfalso
      have h := vr_names (ρ := fun _ => none) (m := []) (w := w) (x := .o (constV v)) (vr_const v) n hxn
      simp at h
    | global g => simp [opnd, namesV, nameOf] at hxn
    | func f => simp [opnd, namesV, nameOf] at hxn
  refine ⟨hb, hl, hD.cells n i (by omega) hl hb fun q ⟨o', ho', hx', hn'⟩ => ?_⟩
  rcases Nat.lt_trichotomy q i with h | rfl | h
  · refine ⟨fun _ => h, fun _ => dr_ahead hD ho hr ?_⟩
    refine (tr_pair hT ho' ho h hx' hx).resolve_right fun hf => ?_
    have := hf.1 n hn'
    rcases List.mem_append.1 hn with h1 | h1
    · exact this.1 h1
    · exact this.2 h1
  · exact ⟨fun h => absurd h hi, fun h => absurd h (Nat.lt_irrefl _)⟩
  · refine ⟨fun hq => absurd (hD.closed i q hq ?_) hi, fun h' => by omega⟩
    refine (tr_pair hT ho ho' h hx hx').resolve_right fun hf => ?_
    rcases List.mem_append.1 hn with h1 | h1
    · exact (hf.1 n h1).1 hn'
    · exact (hf.2 n hn').2 h1

/-- Slots, after one more operation. -/
theorem dr_slots (hT : Tr P ops tms ms vs ex) (hc : calm ops = true) (hD : Dr B w0 ab ops tms ms ex D ρ mD a w) (ho : ops[i]? = some o) (hi : ¬ D i) {ρ' : Nm} {mD' : Mem} {w' : World} {rv : Value}
    (hk : ∀ x rx, VR ρ mD w x rx → (∀ n, n ∈ namesV x → born ms ops.size D n) → VR ρ' mD' w' x rx) (hv : VR ρ' mD' w' (vs i) rv) (hvn : ∀ n, n ∈ namesV (vs i) → born ms ops.size (plus D i) n) :
    ∀ t τ, τ ≤ ops.size → (∀ q, lays ops q t → (plus D i q ↔ q < τ)) → VR ρ' mD' w' (getT (tms τ) t) ((a.put o.dst rv).tmps.getD t undef) ∧ ∀ n, n ∈ namesV (getT (tms τ) t) → born ms ops.size (plus D i) n := by
  have hlt : i < ops.size := (Array.getElem?_eq_some_iff.1 ho).1
  intro t τ hτ hcons
  by_cases hl : o.dst = some t
  · have h1 : i < τ := (hcons i ⟨o, ho, hl⟩).1 (.inr rfl)
    have huniq : ∀ q, lays ops q t → q = i := by
      rintro q ⟨o', ho', hd⟩
      rcases Nat.lt_trichotomy q i with h | h | h
      · have := calm_apart hc ho' ho h
        simp [apart2, hd, hl] at this
      · exact h
      · have := calm_apart hc ho ho' h
        simp [apart2, hd, hl] at this
    have h2 := (tr_sameT hT (i := i + 1) (t := t) (j := τ) h1 hτ (fun q hq1 _ hq => by have := huniq q hq; omega)).2
    rw [h2, (tr_step hT ho).next, getT_putT, getD_put, hl, tr_len hT (by omega), hD.size]
    by_cases hs : t < a.tmps.size
    · rw [if_pos ⟨rfl, hs⟩, if_pos ⟨rfl, hs⟩]
      exact ⟨hv, hvn⟩
    · rw [if_neg (fun h => hs h.2), if_neg (fun h => hs h.2)]
      have : getT (tms i) t = .o .u := by
        unfold getT
        rw [List.getD_eq_getElem?_getD, List.getElem?_eq_none (by rw [tr_len hT (by omega), hD.size]; omega)]
        rfl
      rw [this]
      exact ⟨trivial, fun n hn => by simp [namesV, nameOf] at hn⟩
  · have hne : ∀ q, lays ops q t → q ≠ i := by
      rintro q ⟨o', ho', hd⟩ rfl
      rw [ho] at ho'
      cases ho'
      exact hl hd
    obtain ⟨g1, g2⟩ := hD.slots t τ hτ fun q hq => by
      rw [← hcons q hq]
      exact ⟨.inl, fun h => h.resolve_right (hne q hq)⟩
    rw [getD_put, if_neg (fun h => hl h.1)]
    exact ⟨hk _ _ g1 g2, fun n hn => born_plus (g2 n hn)⟩
theorem dr_closed (hD : Dr B w0 ab ops tms ms ex D ρ mD a w) (ho : ops[i]? = some o) (hr : ∀ e ∈ o.after, Region.binds .any e = true → D e.on) :
    ∀ k j, plus D i j → ((aheads ops.toList).getD j 0).testBit k = true → plus D i k := by
  rintro k j (h | rfl) hb
  · exact .inl (hD.closed k j h hb)
  · exact .inl (dr_ahead hD ho hr hb)
end
end Go.Vm

namespace Go.Vm
open Go.RowKit (Below)
variable {P : Program}

theorem at_congr {m m' : Mem} {n : Nat} (h : m[n]? = m'[n]?) : (mineAt m n ↔ mineAt m' n) ∧ blkN m n = blkN m' n := by
  refine ⟨?_, ?_⟩
  · unfold mineAt
    rw [h]
  · unfold blkN
    rw [h]
theorem eff_cases {ρ ρ' : Nm} {m m' : Mem} {w w' : World} {fr : List Nat × List Nat} {v : V} {rv : Value} (h : Eff ρ m w fr v m' rv w' ρ') :
    (∃ nb, m' = m ++ nb ∧ Below w.heap.size w w' ∧ (∀ n, n < m.length ∨ m.length + nb.length ≤ n → ρ' n = ρ n) ∧ NewOK ρ m w w' fr.2 ρ' nb ∧ VR ρ' m' w' v rv) ∨
    ∃ i b blk blk', m' = m.set i (.mine, blk') ∧ ρ' = ρ ∧ v = .o .u ∧ rv = undef ∧ i ∈ fr.1 ∧ m[i]? = some (.mine, blk) ∧ ρ i = some (b, 0) ∧ w'.heap.size = w.heap.size ∧ (w'.os = w.os ∧ w'.tape = w.tape ∧ w'.output = w.output) ∧
      (∀ k, k ≠ b → w'.heap[k]? = w.heap[k]?) ∧ bsize w' b = bsize w b ∧ BlkOK ρ w' i blk' ∧ MineOK ρ w' i ∧ blk' ≠ .dead ∧ (∀ k n xs, blk' = .w k n xs → blkN m i = some n) := by
  cases h with
  | ext nb ρ' v rv w' hB hρ hN hV => exact .inl ⟨nb, rfl, hB, hρ, hN, hV⟩
  | put i b blk blk' w' hfw hm hb hs he hf hz hbk hmn hd hn => exact .inr ⟨i, b, blk, blk', rfl, rfl, rfl, rfl, hfw, hm, hb, hs, he, hf, hz, hbk, hmn, hd, hn⟩

section
variable {E : Env} {B : Nat} {w0 : World} {ab : Nat → Prop} {ops : Array Oper} {tms : Nat → List V} {ms : Nat → Mem} {vs : Nat → V} {ex : Nat → Bool}
variable {D : Nat → Prop} {ρ : Nm} {mD : Mem} {a : Act} {w : World} {i : Nat} {o : Oper}

theorem like_any (hT : Tr P ops tms ms vs ex) {s τ n : Nat} (hs : s ≤ ops.size) (hτ : τ ≤ ops.size) (h1 : n < (ms s).length) (h2 : n < (ms τ).length) : (mineAt (ms s) n ↔ mineAt (ms τ) n) ∧ blkN (ms s) n = blkN (ms τ) n := by
  rcases Nat.le_total s τ with h | h
  · obtain ⟨g1, g2⟩ := (tr_mono hT h hτ).2 n h1
    exact ⟨g1.symm, g2.symm⟩
  · exact (tr_mono hT h hs).2 n h2
theorem born_size (hT : Tr P ops tms ms vs ex) {n : Nat} (h : born ms ops.size D n) : n < (ms ops.size).length := by
  rcases h with h | ⟨q, h1, _, _, h2⟩
  · exact Nat.lt_of_lt_of_le h (tr_mono hT (Nat.zero_le _) (Nat.le_refl _)).1
  · exact Nat.lt_of_lt_of_le h2 (tr_mono hT (show q + 1 ≤ ops.size by omega) (Nat.le_refl _)).1
/-- What was born is not born again. -/
theorem born_out (hT : Tr P ops tms ms vs ex) (hi : ¬ D i) (hlt : i < ops.size) {n : Nat} (h : born ms ops.size D n) : n < (ms i).length ∨ (ms (i + 1)).length ≤ n := by
  rcases h with h | ⟨q, h1, h2, h3, h4⟩
  · exact .inl (Nat.lt_of_lt_of_le h (tr_mono hT (Nat.zero_le _) (by omega)).1)
  · rcases Nat.lt_trichotomy q i with h | rfl | h
    · exact .inl (Nat.lt_of_lt_of_le h4 (tr_mono hT (show q + 1 ≤ i from h) (by omega)).1)
    · exact absurd h2 hi
    · exact .inr (Nat.le_trans (tr_mono hT (show i + 1 ≤ q from h) (by omega)).1 h3)

theorem dr_skip (hT : Tr P ops tms ms vs ex) (hc : calm ops = true) (hD : Dr B w0 ab ops tms ms ex D ρ mD a w) (ho : ops[i]? = some o) (hi : ¬ D i) (hr : ∀ e ∈ o.after, Region.binds .any e = true → D e.on) (hx : ex i = false) :
    Dr B w0 ab ops tms ms ex (plus D i) ρ mD (a.put o.dst undef) w := by
  have hlt : i < ops.size := (Array.getElem?_eq_some_iff.1 ho).1
  obtain ⟨hv, hm⟩ := (tr_step hT ho).skip hx
  have hb : ∀ n, born ms ops.size (plus D i) n → born ms ops.size D n := by
    intro n h
    rcases h with h | ⟨q, h1, h2 | h2, h3, h4⟩
    · exact .inl h
    · exact .inr ⟨q, h1, h2, h3, h4⟩
    · subst h2; rw [hm] at h4; omega
  have hne : ∀ q n, writes ops tms ex q n → q ≠ i := by
    rintro q n ⟨o', h1, h2, h3⟩ rfl
    rw [hx] at h2
    cases h2
  refine ⟨hD.inv, hD.len, by rw [size_put]; exact hD.size, by rw [defers_put]; exact hD.defers, dr_closed hD ho hr, dr_slots hT hc hD ho hi (fun _ _ h _ => h) (by rw [hv]; exact ⟨[], rfl, trivial⟩) (by rw [hv]; intro n hn; simp [namesV] at hn), ?_, ?_, ?_⟩
  · intro n τ hτ hn hbn hcons
    exact hD.cells n τ hτ hn (hb n hbn) fun q hq => by
      rw [← hcons q hq]
      exact ⟨.inl, fun h => h.resolve_right (hne q n hq)⟩
  · rintro q n (h | rfl) hw
    · exact born_plus (hD.wborn q n h hw)
    · exact absurd rfl (hne q n hw)
  · exact fun n τ hτ hn hbn => hD.like n τ hτ hn (hb n hbn)

theorem dr_next (hT : Tr P ops tms ms vs ex) (hc : calm ops = true) (hD : Dr B w0 ab ops tms ms ex D ρ mD a w) (ho : ops[i]? = some o) (hi : ¬ D i) (hr : ∀ e ∈ o.after, Region.binds .any e = true → D e.on) (hx : ex i = true)
    {ρ' : Nm} {mD' : Mem} {w' : World} {rv : Value} (hI : Inv B w0 ab ρ' mD' w') (hlen : mD'.length = mD.length)
    (hA : ∀ n, (ms i).length ≤ n → n < (ms (i + 1)).length → mD'[n]? = (ms (i + 1))[n]?)
    (hB : ∀ n, n ∈ (foot (tms i) o.op).1 → mD'[n]? = (ms (i + 1))[n]?)
    (hC : ∀ n, n < (ms i).length ∨ (ms (i + 1)).length ≤ n → n ∉ (foot (tms i) o.op).1 → mD'[n]? = mD[n]?)
    (hρ : ∀ n, n < (ms i).length ∨ (ms (i + 1)).length ≤ n → ρ' n = ρ n) (hsz : ∀ n b o, ρ n = some (b, o) → bsize w' b = bsize w b) (hv : VR ρ' (ms (i + 1)) w' (vs i) rv) :
    Dr B w0 ab ops tms ms ex (plus D i) ρ' mD' (a.put o.dst rv) w' := by
  have hlt : i < ops.size := (Array.getElem?_eq_some_iff.1 ho).1
  have hstep := tr_step hT ho
  have hle : (ms i).length ≤ (ms (i + 1)).length := (tr_mono hT (Nat.le_succ i) (by omega)).1
  have hfl : ∀ n, n ∈ (foot (tms i) o.op).1 → n < (ms (i + 1)).length := fun n hn => Nat.lt_of_lt_of_le (dr_foot hT hc hD ho hi hr hx (List.mem_append_left _ hn)).2.1 hle
  have like : ∀ n τ, τ ≤ ops.size → n < (ms τ).length → born ms ops.size (plus D i) n → (mineAt mD' n ↔ mineAt (ms τ) n) ∧ blkN mD' n = blkN (ms τ) n := by
    intro n τ hτ hn hb
    have viaNext : n < (ms (i + 1)).length → mD'[n]? = (ms (i + 1))[n]? → (mineAt mD' n ↔ mineAt (ms τ) n) ∧ blkN mD' n = blkN (ms τ) n := by
      intro h1 h2
      obtain ⟨g1, g2⟩ := at_congr h2
      obtain ⟨k1, k2⟩ := like_any hT (show i + 1 ≤ ops.size by omega) hτ h1 hn
      exact ⟨g1.trans k1, g2.trans k2⟩
    have old : born ms ops.size D n → (mineAt mD' n ↔ mineAt (ms τ) n) ∧ blkN mD' n = blkN (ms τ) n := by
      intro hb
      by_cases hf : n ∈ (foot (tms i) o.op).1
      · exact viaNext (hfl n hf) (hB n hf)
      · obtain ⟨g1, g2⟩ := at_congr (hC n (born_out hT hi hlt hb) hf)
        obtain ⟨k1, k2⟩ := hD.like n τ hτ hn hb
        exact ⟨g1.trans k1, g2.trans k2⟩
    rcases hb with hb | ⟨q, h1, h2 | rfl, h3, h4⟩
    · exact old (.inl hb)
    · exact old (.inr ⟨q, h1, h2, h3, h4⟩)
    · exact viaNext h4 (hA n h3 h4)
  refine ⟨hI, by rw [hlen]; exact hD.len, by rw [size_put]; exact hD.size, by rw [defers_put]; exact hD.defers, dr_closed hD ho hr, dr_slots hT hc hD ho hi ?_ ?_ ?_, ?_, ?_, like⟩
  · intro x rx hxr hxn
    refine hxr.swap fun n hn => ?_
    have hb := hxn n hn
    have hs := born_size hT hb
    obtain ⟨g1, g2⟩ := like n ops.size (Nat.le_refl _) hs (born_plus hb)
    obtain ⟨k1, k2⟩ := hD.like n ops.size (Nat.le_refl _) hs hb
    exact ⟨by rw [hlen, hD.len]; exact hs, fun h => k1.2 (g1.1 h), fun c h => by rw [k2, ← g2]; exact h, fun b o hb' => ⟨by rw [hρ n (born_out hT hi hlt hb), hb'], hsz n b o hb'⟩⟩
  · refine hv.swap fun n hn => ?_
    have hl := vr_names hv n hn
    have hs : n < (ms ops.size).length := Nat.lt_of_lt_of_le hl (tr_mono hT (show i + 1 ≤ ops.size by omega) (Nat.le_refl _)).1
    have hb : born ms ops.size (plus D i) n := by
      rcases (hstep.shape hx).1 n hn with h | ⟨x, h1, h2⟩
      · exact .inr ⟨i, hlt, .inr rfl, h.1, h.2⟩
      · exact born_plus ((dr_opnd hc hD ho hi hr h1).2 n h2)
    obtain ⟨g1, g2⟩ := like n (i + 1) (by omega) hl hb
    exact ⟨by rw [hlen, hD.len]; exact hs, g1.1, fun c h => by rw [← g2]; exact h, fun b o hb' => ⟨hb', rfl⟩⟩
  · intro n hn
    rcases (hstep.shape hx).1 n hn with h | ⟨x, h1, h2⟩
    · exact .inr ⟨i, hlt, .inr rfl, h.1, h.2⟩
    · exact born_plus ((dr_opnd hc hD ho hi hr h1).2 n h2)
  · intro n τ hτ hn hb hcons
    have old : born ms ops.size D n → mD'[n]? = (ms τ)[n]? := by
      intro hb
      by_cases hf : n ∈ (foot (tms i) o.op).1
      · have hw : writes ops tms ex i n := ⟨o, ho, hx, hf⟩
        have hiτ : i < τ := (hcons i hw).1 (.inr rfl)
        rw [hB n hf]
        refine (tr_same hT (hfl n hf) hiτ hτ fun q h1 h2 hq => ?_).symm
        have hDq : D q := ((hcons q hq).2 h2).resolve_right (by omega)
        obtain ⟨o', ho', hx', hn'⟩ := hq
        refine hi (hD.closed i q hDq ((tr_pair hT ho ho' h1 hx hx').resolve_right fun hfr => ?_))
        exact (hfr.1 n hf).1 hn'
      · rw [hC n (born_out hT hi hlt hb) hf]
        refine hD.cells n τ hτ hn hb fun q hq => ?_
        rw [← hcons q hq]
        refine ⟨.inl, fun h => h.resolve_right ?_⟩
        rintro rfl
        obtain ⟨o', ho', _, hn'⟩ := hq
        rw [ho] at ho'
        cases ho'
        exact hf hn'
    rcases hb with hb | ⟨q, h1, h2 | rfl, h3, h4⟩
    · exact old (.inl hb)
    · exact old (.inr ⟨q, h1, h2, h3, h4⟩)
    · rw [hA n h3 h4]
      have hqτ : q + 1 ≤ τ := by
        refine Nat.lt_of_not_le fun h => ?_
        have := (tr_mono hT h (by omega)).1
        omega
      refine (tr_same hT h4 hqτ hτ fun p k1 k2 hp => ?_).symm
      have hDp : D p := ((hcons p hp).2 k2).resolve_right (by omega)
      rcases born_out hT hi hlt (hD.wborn p n hDp hp) with h | h <;> omega
  · rintro q n (h | rfl) hw
    · exact born_plus (hD.wborn q n h hw)
    · obtain ⟨o', ho', _, hn'⟩ := hw
      rw [ho] at ho'
      cases ho'
      exact born_plus (dr_foot hT hc hD ho hi hr hx (List.mem_append_left _ hn')).1

theorem dr_go (hT : Tr P ops tms ms vs ex) (hc : calm ops = true) (hD : Dr B w0 ab ops tms ms ex D ρ mD a w) (ho : ops[i]? = some o) (hi : ¬ D i) (hr : ∀ e ∈ o.after, Region.binds .any e = true → D e.on) (hx : ex i = true) :
    Does P o a w fun rv w' => ∃ ρ' mD', Dr B w0 ab ops tms ms ex (plus D i) ρ' mD' (a.put o.dst rv) w' := by
  have hlt : i < ops.size := (Array.getElem?_eq_some_iff.1 ho).1
  have hstep := tr_step hT ho
  have hfoot := fun n => dr_foot hT hc hD ho hi hr hx (n := n)
  have hlast : (ms (i + 1)).length ≤ mD.length := by rw [hD.len]; exact (tr_mono hT (show i + 1 ≤ ops.size by omega) (Nat.le_refl _)).1
  refine (hstep.eff hx ρ a w ?_ ?_).mono ?_
  · intro x hxo
    obtain ⟨g1, g2⟩ := dr_opnd hc hD ho hi hr hxo
    refine g1.swap fun n hn => ?_
    have hl : n < (ms i).length := by
      cases x with
      | tmp t => exact hstep.names t n hn
      | const v =>
        exfalso
        have h := vr_names (ρ := fun _ => none) (m := []) (w := w) (x := .o (constV v)) (vr_const v) n hn
        simp at h
      | global g => simp [opnd, namesV, nameOf] at hn
      | func f => simp [opnd, namesV, nameOf] at hn
    obtain ⟨k1, k2⟩ := hD.like n i (by omega) hl (g2 n hn)
    exact ⟨hl, k1.2, fun c h => by rw [k2]; exact h, fun b o hb => ⟨hb, rfl⟩⟩
  · intro n hn s b hb
    rw [← (hfoot n hn).2.2] at hb
    exact ⟨hD.inv.blk n s b hb, fun hs => by subst hs; exact (hD.inv.mine n b hb).1⟩
  · rintro rv w' ⟨ρ', he⟩
    rcases eff_cases he with ⟨nb, hm', hBel, hρ, hN, hV⟩ | ⟨i0, b, blk, blk', hm', rfl, hv, rfl, hfw, hm, hb, hs, hos, hf, hz, hbk, hmn, hd, hn⟩
    · have hl1 : (ms (i + 1)).length = (ms i).length + nb.length := by rw [hm', List.length_append]
      have hlen : (ms i).length + nb.length ≤ mD.length := by omega
      refine ⟨ρ', splice mD (ms i).length nb, dr_next hT hc hD ho hi hr hx (hD.inv.fill hlen hBel hρ hN fun n hn => (hfoot n (List.mem_append_right _ hn)).2.2) (splice_length _ _ _ hlen) ?_ ?_ ?_ ?_ ?_ hV⟩
      · intro n h1 h2
        rw [get_splice _ _ _ _ hlen, if_pos ⟨h1, by omega⟩, hm', List.getElem?_append_right h1]
      · intro n hn'
        obtain ⟨_, h1, h2⟩ := hfoot n (List.mem_append_left _ hn')
        rw [get_splice _ _ _ _ hlen, if_neg (by omega), h2, hm', List.getElem?_append_left h1]
      · intro n h1 _
        rw [get_splice _ _ _ _ hlen, if_neg (by omega)]
      · intro n h1
        exact hρ n (by omega)
      · intro n b o hb
        unfold bsize
        rw [hBel.block b (hD.inv.lt n b o hb)]
    · have hf0 := hfoot i0 (List.mem_append_left _ hfw)
      have hmD : mD[i0]? = some (.mine, blk) := by rw [hf0.2.2, hm]
      have hl0 : i0 < mD.length := (List.getElem?_eq_some_iff.1 hmD).1
      have hl1 : (ms (i + 1)).length = (ms i).length := by rw [hm', List.length_set]
      have hblk : blkN mD i0 = blkN (ms i) i0 := (at_congr hf0.2.2).2
      obtain ⟨g1, _, _⟩ := hD.inv.eff (Eff.put (fr := (foot (tms i) o.op)) i0 b blk blk' w' hfw hmD hb hs hos hf hz hbk hmn hd (fun k n xs e => by rw [hblk]; exact hn k n xs e))
      refine ⟨ρ', mD.set i0 (.mine, blk'), dr_next hT hc hD ho hi hr hx g1 (by simp) ?_ ?_ ?_ (fun _ _ => rfl) ?_ (by rw [hv]; trivial)⟩
      · intro n h1 h2
        omega
      · intro n hn'
        rcases (hstep.shape hx).2 with ⟨h1, _⟩ | ⟨n0, _, h1, _⟩
        · rw [h1] at hfw; cases hfw
        · rw [h1] at hfw hn'
          simp only [List.mem_singleton] at hfw hn'
          subst hfw
          subst hn'
          rw [List.getElem?_set_self hl0, hm', List.getElem?_set_self (by omega)]
      · intro n _ hn'
        rw [List.getElem?_set_ne]
        rintro rfl
        exact hn' hfw
      · intro n b1 o1 hb1
        by_cases e : b1 = b
        · subst e; exact hz
        · unfold bsize
          rw [hf b1 e]
end
end Go.Vm

namespace Go.Vm
open Go.RowKit (Below)
variable {P : Program}

section
variable {E : Env} {B : Nat} {w0 : World} {ab : Nat → Prop} {ops : Array Oper} {tms : Nat → List V} {ms : Nat → Mem} {vs : Nat → V} {ex : Nat → Bool}

theorem dr_start {ρ : Nm} {tm : List V} {m : Mem} {a : Act} {w : World} (hT : Tr P ops tms ms vs ex) (h0 : tms 0 = tm) (hm0 : ms 0 = m) (hS : St B w0 ab ρ tm m a w) :
    ∃ mD, Dr B w0 ab ops tms ms ex (fun _ => False) ρ mD a w := by
  subst h0
  subst hm0
  have hle := (tr_mono hT (Nat.zero_le ops.size) (Nat.le_refl _)).1
  have hb : ∀ n, born ms ops.size (fun _ => False) n → n < (ms 0).length := by
    rintro n (h | ⟨_, _, h, _⟩)
    · exact h
    · exact h.elim
  have hget : ∀ n, n < (ms 0).length → (ms 0 ++ List.replicate ((ms ops.size).length - (ms 0).length) (Own.old, Blk.dead))[n]? = (ms 0)[n]? := fun n hn => List.getElem?_append_left hn
  refine ⟨ms 0 ++ List.replicate ((ms ops.size).length - (ms 0).length) (.old, .dead), hS.inv.pad _, by simp; omega, hS.len, hS.defers, fun _ _ h => h.elim, ?_, ?_, fun _ _ h => h.elim, ?_⟩
  · intro t τ hτ hcons
    have hno : ∀ q, 0 ≤ q → q < τ → ¬ lays ops q t := fun q _ hq hl => (hcons q hl).2 hq
    rw [(tr_sameT hT (Nat.zero_le τ) hτ hno).2]
    have hv := hS.tms t
    exact ⟨hv.mono (fun _ _ _ _ h => ⟨h, rfl⟩) (StLe.append _ _), fun n hn => .inl (vr_names hv n hn)⟩
  · intro n τ hτ hn hbn hcons
    have h0 := hb n hbn
    rw [hget n h0]
    exact (tr_same hT h0 (Nat.zero_le τ) hτ fun q _ hq hw => (hcons q hw).2 hq).symm
  · intro n τ hτ hn hbn
    have h0 := hb n hbn
    obtain ⟨g1, g2⟩ := at_congr (hget n h0)
    obtain ⟨k1, k2⟩ := like_any hT (Nat.zero_le _) hτ h0 hn
    exact ⟨g1.trans k1, g2.trans k2⟩

theorem dr_end {D : Nat → Prop} {ρ : Nm} {mD : Mem} {a : Act} {w : World} (hT : Tr P ops tms ms vs ex) (hD : Dr B w0 ab ops tms ms ex D ρ mD a w) (hall : ∀ q, q < ops.size → D q) :
    St B w0 ab ρ (tms ops.size) (ms ops.size) a w := by
  have hborn : ∀ n, n < (ms ops.size).length → born ms ops.size D n := by
    intro n hn
    have key : ∀ k, k ≤ ops.size → n < (ms k).length → born ms ops.size D n := by
      intro k
      induction k with
      | zero => exact fun _ h => .inl h
      | succ k ih =>
        intro hk h
        by_cases h' : n < (ms k).length
        · exact ih (by omega) h'
        · exact .inr ⟨k, by omega, hall k (by omega), by omega, h⟩
    exact key _ (Nat.le_refl _) hn
  have hmem : mD = ms ops.size := by
    apply List.ext_getElem?
    intro n
    by_cases hn : n < (ms ops.size).length
    · exact hD.cells n ops.size (Nat.le_refl _) hn (hborn n hn) fun q ⟨o, ho, _, _⟩ => by
        have := (Array.getElem?_eq_some_iff.1 ho).1
        exact ⟨fun _ => this, fun _ => hall q this⟩
    · rw [List.getElem?_eq_none (by rw [hD.len]; omega), List.getElem?_eq_none (by omega)]
  subst hmem
  refine ⟨hD.inv, by rw [tr_len hT (Nat.le_refl _)]; exact hD.size, fun t => ?_, hD.defers⟩
  exact (hD.slots t ops.size (Nat.le_refl _) fun q ⟨o, ho, _⟩ => by
    have := (Array.getElem?_eq_some_iff.1 ho).1
    exact ⟨fun _ => this, fun _ => hall q this⟩).1

theorem ready_all {listed : Array Bool} (hc : calm ops = true) (hs : listed.size = ops.size) (h : Region.ready .any ops listed = []) : ∀ q, q < ops.size → listed.getD q false = true := by
  intro q
  induction q using Nat.strongRecOn with
  | ind q ih =>
    intro hq
    refine Classical.byContradiction fun hn => ?_
    have hmem : q ∈ Region.ready .any ops listed := by
      rw [mem_ready]
      have ho := Array.getElem?_eq_getElem (xs := ops) hq
      refine ⟨?_, _, ho, fun e he hb => ?_⟩
      · have hl : q < listed.size := by omega
        simp [hl] at hn ⊢
        exact hn
      · have := calm_edge hc ho he hb
        exact ih e.on this (by omega)
    rw [h] at hmem
    cases hmem

theorem dr_main {r : List (Own × D)} {κ : List V → Mem → R} (hc : calm ops = true) (hT : Tr P ops tms ms vs ex) (Q : Exit → Act → World → Prop) (hκ : ∀ ρ tm m a w, St B w0 ab ρ tm m a w → κ tm m = some r → Q .normal a w)
    (hfin : κ (tms ops.size) (ms ops.size) = some r) : ∀ (fuel : Nat) (listed : Array Bool) (ρ : Nm) (mD : Mem) (a : Act) (w : World), listed.size = ops.size → listed.toList.count false ≤ fuel →
      Dr B w0 ab ops tms ms ex (fun j => listed.getD j false = true) ρ mD a w → wpAny P .any ops Q fuel listed a w := by
  intro fuel
  induction fuel with
  | zero =>
    intro listed ρ mD a w hs hcnt hD
    have hz : listed.toList.count false = 0 := by omega
    rw [List.count_eq_zero] at hz
    have hr : Region.ready .any ops listed = [] := by
      rw [List.eq_nil_iff_forall_not_mem]
      intro j hj
      rw [mem_ready] at hj
      obtain ⟨h1, o, ho, _⟩ := hj
      have hlt : j < listed.size := by rw [hs]; exact (Array.getElem?_eq_some_iff.1 ho).1
      apply hz
      simp [hlt] at h1
      rw [← h1]
      simp
    exact ⟨hr, hκ ρ _ _ a w (dr_end hT hD (ready_all hc hs hr)) hfin⟩
  | succ fuel ih =>
    intro listed ρ mD a w hs hcnt hD
    refine ⟨fun hr => hκ ρ _ _ a w (dr_end hT hD (ready_all hc hs hr)) hfin, fun i hi => ?_⟩
    rw [mem_ready] at hi
    obtain ⟨h1, o, ho, hr⟩ := hi
    have hlt : i < listed.size := by rw [hs]; exact (Array.getElem?_eq_some_iff.1 ho).1
    have hfalse : listed[i] = false := by simpa [hlt] using h1
    have hni : ¬ listed.getD i false = true := by simp [hlt, hfalse]
    have hnext : (fun j => (listed.setIfInBounds i true).getD j false = true) = plus (fun j => listed.getD j false = true) i := by
      funext j
      apply propext
      unfold plus
      by_cases e : j = i
      · subst e; simp [hlt]
      · rw [getD_set_ne false (Ne.symm e)]
        exact ⟨.inl, fun h => h.resolve_right e⟩
    have hcnt' : (listed.setIfInBounds i true).toList.count false ≤ fuel := by
      rw [Array.toList_setIfInBounds, List.count_set (by simpa using hlt)]
      have hpos : 0 < listed.toList.count false := by
        rw [List.count_pos_iff]
        rw [← hfalse]
        simp
      have e1 : (listed.toList[i]'(by simpa using hlt) == false) = true := by simp [hfalse]
      rw [e1, if_pos rfl, if_neg (by decide)]
      omega
    have go : ∀ ρ' mD' a' w', Dr B w0 ab ops tms ms ex (plus (fun j => listed.getD j false = true) i) ρ' mD' a' w' → wpAny P .any ops Q fuel (listed.setIfInBounds i true) a' w' := fun ρ' mD' a' w' h =>
      ih _ ρ' mD' a' w' (by simpa using hs) hcnt' (by rw [hnext]; exact h)
    have hw := dr_wanted hT hc hD ho hni hr
    unfold wpOp
    rw [ho]
    simp only
    rw [hw]
    cases hx : ex i with
    | false =>
      rw [if_neg (by simp)]
      exact go _ _ _ _ (dr_skip hT hc hD ho hni hr hx)
    | true =>
      rw [if_pos rfl]
      exact .inl (dr_go hT hc hD ho hni hr hx _ _ fun rv w' ⟨ρ', mD', h⟩ => go _ _ _ _ h)
end

section
variable {E : Env} {B : Nat} {w0 : World} {ab : Nat → Prop} {ρ : Nm} {tm : List V} {m : Mem} {a : Act} {w : World} {r : List (Own × D)}
theorem draw_ops (hE : EnvOK P E) (hm : P.follows .mixedOrders = true) (ops : Array Oper) (hc : calm ops = true) (Q : Exit → Act → World → Prop) {κ : List V → Mem → R} (hκ : ∀ ρ tm m a w, St B w0 ab ρ tm m a w → κ tm m = some r → Q .normal a w)
    (hS : St B w0 ab ρ tm m a w) (h : evOps E ops (some (aheads ops.toList)) ops.toList 0 [] tm m κ = some r) (id : Nat) : (Code.region id ops true).wp P Q a w := by
  refine wp_region_any hm ?_
  have hS' : St B w0 ab ρ tm m a { w with drawn := w.drawn + 1 } := ⟨hS.inv.drawn _, hS.len, fun t => (hS.tms t).drawn, hS.defers⟩
  obtain ⟨tms, ms, vs, ex, h0, hm0, hfin, hT⟩ := trace_exists hE ops (aheads ops.toList) ops.toList 0 [] ρ tm m a _ hS' h
  obtain ⟨mD, hD⟩ := dr_start hT h0 hm0 hS'
  refine dr_main hc hT Q hκ (by simpa using hfin) ops.size _ ρ mD a _ (by simp) (by simp) ?_
  have : (fun j => (Array.replicate ops.size false).getD j false = true) = fun _ => False := by
    funext j
    apply propext
    simp [Array.getElem?_replicate]
    split <;> simp
  rw [this]
  exact hD
end
end Go.Vm

namespace Go.Vm
open Go.RowKit (Below)
variable {P : Program}

theorem insOnce_mem (ns : List Nat) (i : Nat) : i ∈ insOnce ns i ∧ ∀ j, j ∈ ns → j ∈ insOnce ns i := by
  unfold insOnce
  cases h : ns.contains i
  · exact ⟨by simp, fun j hj => by simp [hj]⟩
  · exact ⟨by simpa using h, fun j hj => hj⟩
theorem insOnce_nodup (ns : List Nat) (i : Nat) (h : ns.Nodup) : (insOnce ns i).Nodup := by
  unfold insOnce
  cases hc : ns.contains i
  · have : i ∉ ns := by simpa using hc
    rw [cond_false, List.nodup_append]
    exact ⟨h, by simp, fun a ha b hb => by simp at hb; subst hb; intro e; subst e; exact this ha⟩
  · exact h
theorem namesOf_spec (tm : List V) : ∀ (L : List Nat) (ns : List Nat), ns.Nodup → (L.foldl (fun ns t => match nameOf (getT tm t) with | some i => insOnce ns i | none => ns) ns).Nodup ∧
    (∀ j, j ∈ ns → j ∈ (L.foldl (fun ns t => match nameOf (getT tm t) with | some i => insOnce ns i | none => ns) ns)) ∧
    ∀ t, t ∈ L → ∀ i, nameOf (getT tm t) = some i → i ∈ (L.foldl (fun ns t => match nameOf (getT tm t) with | some i => insOnce ns i | none => ns) ns)
  | [], ns, h => ⟨h, fun _ h => h, fun _ h => by cases h⟩
  | t :: L, ns, h => by
    simp only [List.foldl_cons]
    cases hn : nameOf (getT tm t) with
    | none =>
      obtain ⟨g1, g2, g3⟩ := namesOf_spec tm L ns h
      refine ⟨g1, g2, fun t' ht i hi => ?_⟩
      rcases List.mem_cons.1 ht with rfl | ht
      · rw [hn] at hi; cases hi
      · exact g3 t' ht i hi
    | some i0 =>
      obtain ⟨g1, g2, g3⟩ := namesOf_spec tm L (insOnce ns i0) (insOnce_nodup ns i0 h)
      refine ⟨g1, fun j hj => g2 j ((insOnce_mem ns i0).2 j hj), fun t' ht i hi => ?_⟩
      rcases List.mem_cons.1 ht with rfl | ht
      · rw [hn] at hi; cases hi; exact g2 _ (insOnce_mem ns i0).1
      · exact g3 t' ht i hi

section
variable {E : Env} {B : Nat} {w0 : World} {ab : Nat → Prop} {ρ : Nm} {tm : List V} {m : Mem} {a : Act} {w : World} {r : List (Own × D)}

/-- Memory without what no live slot leads to; the blocks named anew. -/
theorem St.gc (h : St B w0 ab ρ tm m a w) (L : List Nat) : ∃ ρ', St B w0 ab ρ' (gcT L tm) (gcM L tm m) a w := by
  obtain ⟨hnd, _, hmem⟩ := namesOf_spec tm L [] List.nodup_nil
  change (namesOf tm L).Nodup at hnd
  change ∀ t, t ∈ L → ∀ i, nameOf (getT tm t) = some i → i ∈ namesOf tm L at hmem
  generalize hns : namesOf tm L = ns at hnd hmem
  let ρ' : Nm := fun i => (ns[i]?).bind ρ
  have hM : gcM L tm m = ns.map fun i => m.getD i (.old, .dead) := by unfold gcM; rw [hns]
  have hlen : (gcM L tm m).length = ns.length := by rw [hM]; simp
  have hget : ∀ {i : Nat} {p : Own × Blk}, (gcM L tm m)[i]? = some p → ∃ n, ns[i]? = some n ∧ ρ' i = ρ n ∧ (m[n]? = some p ∨ p = (.old, .dead) ∧ ρ n = none) := by
    intro i p hp
    rw [hM, List.getElem?_map] at hp
    cases hq : ns[i]? with
    | none => rw [hq] at hp; cases hp
    | some n =>
      rw [hq] at hp
      simp only [Option.map_some, Option.some.injEq] at hp
      refine ⟨n, rfl, by show (ns[i]?).bind ρ = _; rw [hq]; rfl, ?_⟩
      by_cases hn : n < m.length
      · left
        rw [← hp, List.getD_eq_getElem?_getD, List.getElem?_eq_getElem hn]
        rfl
      · right
        rw [List.getD_eq_getElem?_getD, List.getElem?_eq_none (by omega)] at hp
        exact ⟨hp.symm, h.inv.dom n (by omega)⟩
  have hidx : ∀ {i : Nat}, i ∈ ns → i < m.length → (gcM L tm m)[ns.idxOf i]? = m[i]? ∧ ρ' (ns.idxOf i) = ρ i ∧ ns.idxOf i < ns.length := by
    intro i hi hlt
    have h1 := List.idxOf_lt_length_of_mem hi
    have h2 : ns[ns.idxOf i]? = some i := by rw [List.getElem?_eq_getElem h1]; simp
    refine ⟨?_, ?_, h1⟩
    · rw [hM, List.getElem?_map, h2]
      simp [List.getElem?_eq_getElem hlt]
    · show (ns[ns.idxOf i]?).bind ρ = _
      rw [h2]
      rfl
  refine ⟨ρ', ⟨⟨h.inv.below, h.inv.ble, ?_, ?_, ?_, ?_, ?_, ?_, ?_, h.inv.abB, ?_⟩, ?_, ?_, h.defers⟩⟩
  · intro i s b hb
    obtain ⟨n, h1, h2, h3 | ⟨h3, _⟩⟩ := hget hb
    · have := h.inv.blk n s b h3
      cases b with
      | w k q xs => unfold BlkOK at this ⊢; rw [h2]; exact this
      | c vs => unfold BlkOK at this ⊢; rw [h2]; exact this
      | dead => trivial
    · cases h3; trivial
  · intro i b hb
    obtain ⟨n, h1, h2, h3 | ⟨h3, _⟩⟩ := hget hb
    · obtain ⟨g1, g2⟩ := h.inv.mine n b h3
      exact ⟨fun c o hc => g1 c o (by rw [← h2, hc]), fun c o hc => g2 c o (by rw [← h2, hc])⟩
    · cases h3
  · intro i b j s b' c o o' hb hb' hd hc hc'
    obtain ⟨n, h1, h2, h3 | ⟨h3, _⟩⟩ := hget hb
    · obtain ⟨n', h1', h2', h3' | ⟨h3', _⟩⟩ := hget hb'
      · have := h.inv.apart n b n' s b' c o o' h3 h3' hd (by rw [← h2, hc]) (by rw [← h2', hc'])
        subst this
        obtain ⟨hi, e1⟩ := List.getElem?_eq_some_iff.1 h1
        obtain ⟨hj, e2⟩ := List.getElem?_eq_some_iff.1 h1'
        rcases Nat.lt_trichotomy i j with hlt | hlt | hlt
        · exact absurd (e1.trans e2.symm) (List.pairwise_iff_getElem.1 hnd i j hi hj hlt)
        · exact hlt
        · exact absurd (e2.trans e1.symm) (List.pairwise_iff_getElem.1 hnd j i hj hi hlt)
      · cases h3'; exact absurd rfl hd
    · cases h3
  · intro i b hb c o hc
    obtain ⟨n, h1, h2, h3 | ⟨h3, _⟩⟩ := hget hb
    · exact h.inv.new n b h3 c o (by rw [← h2, hc])
    · cases h3
  · intro i b hb c o hc
    obtain ⟨n, h1, h2, h3 | ⟨h3, h4⟩⟩ := hget hb
    · exact h.inv.old n b h3 c o (by rw [← h2, hc])
    · rw [h2, h4] at hc; cases hc
  · intro i c o hc
    have : (ns[i]?).bind ρ = some (c, o) := hc
    cases hq : ns[i]? with
    | none => rw [hq] at this; cases this
    | some n => rw [hq] at this; exact h.inv.lt n c o this
  · intro i hi
    show (ns[i]?).bind ρ = none
    rw [List.getElem?_eq_none (by omega)]
    rfl
  · intro i b hb
    obtain ⟨n, h1, h2, h3 | ⟨h3, _⟩⟩ := hget hb
    · exact h.inv.live n b h3
    · cases h3
  · unfold gcT
    simp [h.len]
  · intro t
    have ht : getT (gcT L tm) t = if t < tm.length ∧ t ∈ L then renV ns (getT tm t) else .o .u := by
      unfold gcT getT
      rw [hns, List.getD_eq_getElem?_getD, List.getElem?_map, List.getElem?_zipIdx]
      by_cases hl : t < tm.length
      · rw [List.getElem?_eq_getElem hl]
        by_cases hL : t ∈ L
        · simp [hl, hL, List.getD_eq_getElem?_getD]
        · simp [hL]
      · rw [List.getElem?_eq_none (by omega), if_neg (fun h => hl h.1)]
        rfl
    rw [ht]
    split
    case isFalse => trivial
    rename_i hc
    have hv := h.tms t
    have hn := hmem t hc.2
    generalize getT tm t = x at hv hn
    have slr : ∀ {i k n : Nat}, i ∈ ns → SlR ρ m w i k n (a.tmps.getD t undef) → SlR ρ' (gcM L tm m) w (ns.idxOf i) k n (a.tmps.getD t undef) := by
      intro i k n hi hs
      obtain ⟨hlt, ad, cap, g1, g2, g3, g4, g5⟩ := hs
      obtain ⟨k1, k2, k3⟩ := hidx hi hlt
      refine ⟨by rw [hlen]; exact k3, ad, cap, g1, g2, g3, by rw [k2]; exact g4, ?_⟩
      rintro ⟨b, hb⟩
      rw [k1] at hb
      rw [k2]
      exact g5 ⟨b, hb⟩
    cases x with
    | t l => trivial
    | o x =>
      cases x with
      | a i k =>
        obtain ⟨hlt, b, o, g1, g2⟩ := hv
        obtain ⟨k1, k2, k3⟩ := hidx (hn i rfl) hlt
        exact ⟨by rw [hlen]; exact k3, b, o, by rw [k2]; exact g1, g2⟩
      | s i k n => exact slr (hn i rfl) hv
      | f i =>
        obtain ⟨hlt, g1⟩ := hv
        obtain ⟨k1, k2, k3⟩ := hidx (hn i rfl) hlt
        refine ⟨by rw [hlen]; exact k3, fun n hb => slr (hn i rfl) (g1 n ?_)⟩
        unfold blkN at hb ⊢
        rwa [k1] at hb
      | p v => exact hv
      | r k n xs => exact hv
      | g vs => exact hv
      | z => exact hv
      | u => trivial

def X.out : X → Exit
  | .normal => .normal
  | .exit id => .exit id
  | .ret => .ret

/-- Is what is told in range? -/
def V0.wf : V0 → Prop
  | .p v => wfB v = true
  | .r k n xs => xs.length = n ∧ n ≤ lim ∧ inR k xs
  | .g vs => wfL vs
  | .s _ _ n => n ≤ lim
  | _ => True
def V.wf : V → Prop
  | .o x => x.wf
  | .t _ => True
def Blk.wf : Blk → Prop
  | .w k n xs => xs.length = n ∧ n ≤ lim ∧ inR k xs
  | .c vs => wfL vs
  | .dead => True
def memWF (m : Mem) : Prop := ∀ (i : Nat) (s : Own) (b : Blk), m[i]? = some (s, b) → b.wf
theorem St.wfT (h : St B w0 ab ρ tm m a w) (t : Nat) : (getT tm t).wf := by
  have := h.tms t
  generalize getT tm t = v at this
  cases v with
  | t l => trivial
  | o x =>
    cases x with
    | p v => exact this.2
    | r k n xs => exact ⟨this.2.1, this.2.2.1, this.2.2.2⟩
    | g vs => exact this.2
    | s i k n => obtain ⟨_, _, _, _, _, h, _⟩ := this; exact h
    | _ => trivial
theorem St.wfM (h : St B w0 ab ρ tm m a w) : memWF m := fun i s b hb => by
  have := h.inv.blk i s b hb
  cases b with
  | w k n xs => exact ⟨this.1, this.2.1, this.2.2.1⟩
  | c vs => exact this.1
  | dead => trivial
/-- The slots tell less, or the same. -/
def weaker (tm' tm : List V) : Prop := tm'.length = tm.length ∧ ∀ t, getT tm' t = .o .u ∨ getT tm' t = getT tm t
theorem St.weaker {tm' : List V} (h : St B w0 ab ρ tm m a w) (hw : weaker tm' tm) : St B w0 ab ρ tm' m a w := by
  refine ⟨h.inv, hw.1.trans h.len, fun t => ?_, h.defers⟩
  rcases hw.2 t with e | e <;> rw [e]
  · trivial
  · exact h.tms t
/-- Slots of which just these are told. -/
def lay (N : Nat) (use : List Nat) (vs : List V) : List V := (use.zip vs).foldl (fun l q => l.set q.1 q.2) (List.replicate N (.o .u))
theorem lay_weaker (use : List Nat) (tm : List V) : Vm.weaker (lay tm.length use (use.map (getT tm))) tm := by
  have key : ∀ (use : List Nat) (l : List V), Vm.weaker l tm → Vm.weaker ((use.zip (use.map (getT tm))).foldl (fun l q => l.set q.1 q.2) l) tm := by
    intro use
    induction use with
    | nil => intro l h; exact h
    | cons u use ih =>
      intro l h
      simp only [List.map_cons, List.zip_cons_cons, List.foldl_cons]
      refine ih _ ⟨by simpa using h.1, fun t => ?_⟩
      by_cases e : u = t
      · subst e
        right
        unfold getT
        by_cases hl : u < l.length
        · simp [List.getD_eq_getElem?_getD, List.getElem?_set_self hl]
        · have hl' : ¬ u < tm.length := by rw [← h.1]; exact hl
          rw [List.set_eq_of_length_le (by omega)]
          simp [List.getD_eq_getElem?_getD, List.getElem?_eq_none (Nat.le_of_not_lt hl), List.getElem?_eq_none (Nat.le_of_not_lt hl')]
      · have : getT (l.set u (getT tm u)) t = getT l t := by
          unfold getT
          simp [List.getD_eq_getElem?_getD, List.getElem?_set_ne e]
        rw [this]
        exact h.2 t
  refine key use _ ⟨by simp, fun t => ?_⟩
  left
  unfold getT
  by_cases h : t < tm.length
  · simp [List.getD_eq_getElem?_getD, h]
  · simp [List.getD_eq_getElem?_getD, h]

/-- What a loop's contract owes: that the loop, taken round by round, comes to the same. -/
def LoopOK (E : Env) (b : Nat) (x : Code) (F : List V → Mem → (X → List V → Mem → R) → R) : Prop :=
  ∀ tm m κ r, (∀ t, (getT tm t).wf) → memWF m → F tm m κ = some r → ∃ tm' fuel, weaker tm' tm ∧ loopX (E.live b) (E.out b) (fun tm m κ => ev E b x tm m κ) fuel tm' m κ = some r
/-- A contract over the slots that are used. -/
def lpC (N : Nat) (use : List Nat) (G : List V → Mem → (X → List V → Mem → R) → R) : List V → Mem → (X → List V → Mem → R) → R := fun tm m κ => bif tm.length == N then G (use.map (getT tm)) m κ else none
theorem loopOK_lpC {E : Env} {b : Nat} {x : Code} {N : Nat} {use : List Nat} {G : List V → Mem → (X → List V → Mem → R) → R}
    (h : ∀ vs m κ r, (∀ v ∈ vs, v.wf) → memWF m → G vs m κ = some r → ∃ fuel, loopX (E.live b) (E.out b) (fun tm m κ => ev E b x tm m κ) fuel (lay N use vs) m κ = some r) : LoopOK E b x (lpC N use G) := by
  intro tm m κ r ht hm hF
  unfold lpC at hF
  cases hN : (tm.length == N) <;> rw [hN] at hF
  · cases hF
  · have hN : tm.length = N := by simpa using hN
    subst hN
    obtain ⟨fuel, hf⟩ := h _ m κ r (fun v hv => by
      obtain ⟨t, _, rfl⟩ := List.mem_map.1 hv
      exact ht t) hm hF
    exact ⟨_, fuel, lay_weaker use tm, hf⟩
def LoopsOK (E : Env) (l : List (Nat × Code)) : Prop := ∀ q, q ∈ l → ∀ F, E.lp q.1 = some F → LoopOK E q.1 q.2 F
theorem loopsOK_none {E : Env} (h : ∀ b, E.lp b = none) (l : List (Nat × Code)) : LoopsOK E l := fun q _ F hF => by rw [h] at hF; cases hF

theorem ev_sound (hE : EnvOK P E) (hm : P.follows .mixedOrders = true) : ∀ (c : Code) (b : Nat) (_ : LoopsOK E (loopsOf b c)) (Q : Exit → Act → World → Prop) (κ : X → List V → Mem → R) (_ : ∀ x ρ tm m a w, St B w0 ab ρ tm m a w → κ x tm m = some r → Q x.out a w)
    (ρ : Nm) (tm : List V) (m : Mem) (a : Act) (w : World), St B w0 ab ρ tm m a w → ev E b c tm m κ = some r → c.wp P Q a w := by
  intro c
  induction c with
  | skip => intro b hL Q κ hκ ρ tm m a w hS h; exact wp_skip (hκ .normal _ _ _ _ _ hS h)
  | region id ops draw =>
    intro b hL Q κ hκ ρ tm m a w hS h
    simp only [ev] at h
    obtain ⟨h0, h⟩ := cond_none' h
    cases draw with
    | false => exact wp_region_list (seq_ops hE ops Q (fun ρ tm m a w hS h => hκ .normal _ _ _ _ _ hS h) ops.toList 0 [] ρ tm m a w hS h)
    | true =>
      have hcalm : calm ops = true := by simpa using h0
      exact draw_ops hE hm ops hcalm Q (fun ρ tm m a w hS h => hκ .normal _ _ _ _ _ hS h) (hS.lendAll ops.toList) h id
  | seq x y ihx ihy =>
    intro b hL Q κ hκ ρ tm m a w hS h
    simp only [ev] at h
    refine wp_seq (ihx b (fun q hq => hL q (by simp [loopsOf, hq])) _ _ (fun e ρ tm m a w hS h => ?_) ρ tm m a w hS h)
    cases e with
    | normal => exact ihy b (fun q hq => hL q (by simp [loopsOf, hq])) Q κ hκ ρ tm m a w hS h
    | exit id => exact hκ (.exit id) _ _ _ _ _ hS h
    | ret => exact hκ .ret _ _ _ _ _ hS h
  | cond c x y ihx ihy =>
    intro b hL Q κ hκ ρ tm m a w hS h
    unfold ev at h
    split at h
    case h_2 => cases h
    rename_i t
    split at h
    case h_2 => cases h
    rename_i v hv
    have hr := hS.tms t
    rw [hv] at hr
    rcases cond_some h with ⟨rfl, h⟩ | ⟨rfl, h⟩
    · rw [set_same tm t _ (.o .u) hv] at h
      exact wp_cond_true hr.1 (ihx b (fun q hq => hL q (by simp [loopsOf, hq])) Q κ hκ ρ tm m a w hS h)
    · rw [set_same tm t _ (.o .u) hv] at h
      exact wp_cond_false hr.1 (ihy b (fun q hq => hL q (by simp [loopsOf, hq])) Q κ hκ ρ tm m a w hS h)
  | block id x ih =>
    intro b hL Q κ hκ ρ tm m a w hS h
    simp only [ev] at h
    refine wp_block (ih id (fun q hq => hL q (by simpa [loopsOf] using hq)) _ _ (fun e ρ tm m a w hS h => ?_) ρ tm m a w hS h)
    cases e with
    | normal => exact hκ .normal _ _ _ _ _ hS h
    | exit j =>
      show if j = id then _ else _
      by_cases e : j = id
      · subst e
        rw [if_pos rfl]
        simp only [beq_self_eq_true, cond_true] at h
        exact hκ .normal _ _ _ _ _ hS h
      · rw [if_neg e]
        have : (j == id) = false := by simpa using e
        change (bif j == id then _ else _) = some r at h
        rw [this] at h
        exact hκ (.exit j) _ _ _ _ _ hS h
    | ret => exact hκ .ret _ _ _ _ _ hS h
  | loop x ih =>
    intro b hL Q κ hκ ρ tm m a w hS h
    simp only [ev] at h
    have key : ∀ (f : Nat) (ρ : Nm) (tm : List V) (m : Mem) (a : Act) (w : World), St B w0 ab ρ tm m a w → loopN (E.live b) (fun tm m κ => ev E b x tm m κ) f tm m κ = some r → Code.rounds P x Q f a w := by
      intro f
      induction f with
      | zero => intro ρ tm m a w _ h; cases h
      | succ f ihf =>
        intro ρ tm m a w hS h
        rw [rounds_succ]
        simp only [loopN] at h
        refine ih b (fun q hq => hL q (by simp [loopsOf, hq])) _ _ (fun e ρ tm m a w hS h => ?_) ρ tm m a w hS h
        cases e with
        | normal =>
          obtain ⟨ρ', hS'⟩ := hS.gc (E.live b)
          exact ihf ρ' _ _ a w hS' h
        | exit id => exact hκ (.exit id) _ _ _ _ _ hS h
        | ret => exact hκ .ret _ _ _ _ _ hS h
    have keyX : ∀ (f : Nat) (ρ : Nm) (tm : List V) (m : Mem) (a : Act) (w : World), St B w0 ab ρ tm m a w → loopX (E.live b) (E.out b) (fun tm m κ => ev E b x tm m κ) f tm m κ = some r → Code.rounds P x Q f a w := by
      intro f
      induction f with
      | zero => intro ρ tm m a w _ h; cases h
      | succ f ihf =>
        intro ρ tm m a w hS h
        rw [rounds_succ]
        simp only [loopX] at h
        refine ih b (fun q hq => hL q (by simp [loopsOf, hq])) _ _ (fun e ρ tm m a w hS h => ?_) ρ tm m a w hS h
        cases e with
        | normal =>
          obtain ⟨ρ', hS'⟩ := hS.gc (E.live b)
          exact ihf ρ' _ _ a w hS' h
        | exit id =>
          obtain ⟨ρ', hS'⟩ := hS.gc (E.out b)
          exact hκ (.exit id) _ _ _ _ _ hS' h
        | ret =>
          obtain ⟨ρ', hS'⟩ := hS.gc (E.out b)
          exact hκ .ret _ _ _ _ _ hS' h
    obtain ⟨ρ', hS'⟩ := hS.gc (E.live b)
    split at h
    · rename_i F hF
      obtain ⟨tm', n, hwk, hn⟩ := hL (b, x) (by simp [loopsOf]) F hF _ _ _ _ hS'.wfT hS'.wfM h
      exact wp_loop_rounds n (keyX n ρ' _ _ a w (hS'.weaker hwk) hn)
    · exact wp_loop_rounds E.fuel (key E.fuel ρ' _ _ a w hS' h)
  | exit id => intro b hL Q κ hκ ρ tm m a w hS h; exact wp_exit (hκ (.exit id) _ _ _ _ _ hS h)
  | ret => intro b hL Q κ hκ ρ tm m a w hS h; exact wp_ret (hκ .ret _ _ _ _ _ hS h)
  | rangeFunc _ _ _ _ _ _ => intro b hL Q κ hκ ρ tm m a w hS h; cases h
  | scope _ _ => intro b hL Q κ hκ ρ tm m a w hS h; cases h
  | label _ => intro b hL Q κ hκ ρ tm m a w hS h; cases h
  | goto _ => intro b hL Q κ hκ ρ tm m a w hS h; cases h
  | refuse _ => intro b hL Q κ hκ ρ tm m a w hS h; cases h
end
end Go.Vm

namespace Go.Vm
open Go.RowKit (Below)
variable {P : Program}

theorem argV_eq : ∀ (ds : List D) (m : Mem), argV m ds = ((valsOf m.length (ds.map fun d => (Own.old, d))).map V.o, m ++ blksOf true (ds.map fun d => (Own.old, d)))
  | [], m => by simp [argV, valsOf, blksOf]
  | .p v :: l, m => by simp [argV, valsOf, blksOf, blkOfD, argV_eq l m]
  | .r k n xs :: l, m => by simp [argV, valsOf, blksOf, blkOfD, argV_eq l m]
  | .g cs :: l, m => by simp [argV, valsOf, blksOf, blkOfD, argV_eq l m]
  | .w k xs :: l, m => by simp [argV, valsOf, blksOf, blkOfD, argV_eq l, unlessOne]
  | .c n cs :: l, m => by simp [argV, valsOf, blksOf, blkOfD, argV_eq l, unlessOne]

/-- The arguments, as if they were results that lead to what was there. -/
theorem args_res {w : World} {q : Prop} (all : List Value) : ∀ (ds : List D) (vs : List Value), (∀ v, v ∈ vs → v ∈ all) → all2 (DR w) ds vs → all2 (ResOK w w all q) (ds.map fun d => (Own.old, d)) vs
  | [], [], _, _ => trivial
  | _ :: ds, v :: vs, hv, ⟨h1, h2⟩ => ⟨⟨h1, fun _ _ ad n cap he hn hb => .inr ⟨v, hv v (List.mem_cons_self ..), ad, n, cap, he, hn, hb⟩⟩, args_res all ds vs (fun u hu => hv u (List.mem_cons_of_mem _ hu)) h2⟩

theorem dr_block {w : World} {d : D} {v : Value} (h : DR w d v) {ad : Addr} {n cap : Nat} (he : v = .slice (some ad) n cap) (hn : n ≠ 0) : ad.block < w.heap.size := by
  have cell : ∀ {c' o' : Nat} {u : Value}, w.cell? ⟨c', o', none⟩ = some u → c' < w.heap.size := by
    intro c' o' u h
    unfold World.cell? at h
    cases hq : w.heap[c']? with
    | none => rw [hq] at h; cases h
    | some ob => exact (Array.getElem?_eq_some_iff.1 hq).1
  subst he
  cases d with
  | p q => obtain ⟨e, hw⟩ := h; subst e; cases hw
  | r k n' xs => obtain ⟨e, _⟩ := h; cases e
  | g vs => obtain ⟨e, _⟩ := h; cases e
  | w k xs =>
    obtain ⟨ad', cap', e, _, _, _, g⟩ := h
    cases e
    rcases g with g | ⟨b', o', e, g⟩
    · exact absurd g hn
    · cases e
      exact cell (g 0 (.int k (xs.getD 0 0)) (by rw [List.getElem?_map, getD_of (by omega)]; rfl))
  | c n' cs =>
    obtain ⟨ad', cap', e, _, _, _, g5, g⟩ := h
    cases e
    rcases g with g | ⟨b', o', e, g⟩
    · exact absurd g hn
    · cases e
      cases cs with
      | nil => exact absurd (g5.2 rfl) hn
      | cons u cs => exact cell (g 0 u rfl)

theorem blk_ok {w : World} {d : D} {v : Value} {b : Blk} {ρ : Nm} {i : Nat} (h : DR w d v) (hb : blkOfD d = some b) (hρ : ρ i = adrOf .old v) : BlkOK ρ w i b := by
  cases d with
  | w k xs =>
    cases hb
    obtain ⟨ad, cap, rfl, g1, g2, g3, g4⟩ := h
    refine ⟨rfl, g2, g3, ?_⟩
    by_cases hz : xs.length = 0
    · exact .inl hz
    · rcases g4 with g4 | ⟨b, o, rfl, g4⟩
      · exact absurd g4 hz
      · exact .inr ⟨b, o, by rw [hρ]; simp [adrOf, hz], g4⟩
  | c n cs =>
    cases hb
    obtain ⟨ad, cap, rfl, g1, g2, g3, g5, g4⟩ := h
    refine ⟨g3, ?_⟩
    by_cases hz : n = 0
    · exact .inl (g5.1 hz)
    · rcases g4 with g4 | ⟨b, o, rfl, g4⟩
      · exact absurd g4 hz
      · exact .inr ⟨b, o, by rw [hρ]; simp [adrOf, hz], g4⟩
  | _ => cases hb

/-- At a call's beginning. -/
theorem start (w : World) (ds : List D) (vs : List Value) (k : Nat) (h : all2 (DR w) ds vs) :
    ∃ ρ, St w.heap.size w (fun c => ∃ v, v ∈ vs ∧ ∃ ad n cap, v = .slice (some ad) n cap ∧ n ≠ 0 ∧ ad.block = c) ρ ((argV [] ds).1 ++ List.replicate k (.o .u)) (argV [] ds).2
      { tmps := vs.toArray ++ Array.replicate k undef, defers := [] } w := by
  have hR : all2 (ResOK w w vs ((true : Bool) = true)) (ds.map fun d => (Own.old, d)) vs := args_res vs ds vs (fun _ h => h) h
  obtain ⟨hl, hs⟩ := blks_spec true _ vs hR
  rw [argV_eq]
  simp only [List.nil_append, List.length_nil]
  generalize hbl : blksOf true (ds.map fun d => (Own.old, d)) = bs at hl hs
  generalize hal : adrsOf true (ds.map fun d => (Own.old, d)) vs = as at hl hs
  let ρ : Nm := fun i => (as[i]?).join
  have get : ∀ {i : Nat} {s : Own} {b : Blk}, bs[i]? = some (s, b) → s = .old ∧ ∃ d v, DR w d v ∧ blkOfD d = some b ∧ ρ i = adrOf .old v ∧ ResOK w w vs ((true : Bool) = true) (.old, d) v := by
    intro i s b hb
    obtain ⟨ow, d, r, h1, h2, h3, h4, h5⟩ := hs i s b hb
    obtain ⟨d', _, e⟩ := List.mem_map.1 h2
    cases e
    refine ⟨h3, d, r, h1.1, h4, ?_, h1⟩
    show (as[i]?).join = _
    rw [h5, h3]
    rfl
  have adr : ∀ {v : Value} {c o : Nat}, adrOf .old v = some (c, o) → ∃ ad n cap, v = .slice (some ad) n cap ∧ c = ad.block ∧ n ≠ 0 := by
    intro v c o h
    unfold adrOf at h
    split at h
    · rename_i ad n cap
      simp only [] at h
      split at h
      · cases h
      · rename_i hc; cases h; exact ⟨ad, n, cap, rfl, rfl, hc⟩
    · cases h
  have at' : ∀ {i c o : Nat}, ρ i = some (c, o) → ∃ d v, DR w d v ∧ ResOK w w vs ((true : Bool) = true) (.old, d) v ∧ d.isSl = true ∧ adrOf .old v = some (c, o) := by
    intro i c o hc
    by_cases hi : i < bs.length
    · obtain ⟨⟨s, b⟩, hb⟩ : ∃ p, bs[i]? = some p := ⟨_, List.getElem?_eq_getElem hi⟩
      obtain ⟨_, d, v, g1, g2, g3, g4⟩ := get hb
      exact ⟨d, v, g1, g4, (by cases d <;> first | rfl | (cases g2)), by rw [← g3, hc]⟩
    · have : ρ i = none := by show (as[i]?).join = none; rw [List.getElem?_eq_none (by omega)]; rfl
      rw [this] at hc
      cases hc
  refine ⟨ρ, ⟨⟨Below.refl _ _, Nat.le_refl _, ?_, ?_, ?_, ?_, ?_, ?_, ?_, ?_, ?_⟩, ?_, ?_, rfl⟩⟩
  · intro i s b hb
    obtain ⟨_, d, v, g1, g2, g3, _⟩ := get hb
    exact blk_ok g1 g2 g3
  · intro i b hb
    obtain ⟨e, _⟩ := get hb
    cases e
  · intro i b j s b' c o o' hb
    obtain ⟨e, _⟩ := get hb
    cases e
  · intro i b hb
    obtain ⟨e, _⟩ := get hb
    cases e
  · intro i b hb c o hc
    obtain ⟨d, v, g1, g2, g3, g4⟩ := at' hc
    obtain ⟨ad, n, cap, rfl, rfl, hn⟩ := adr g4
    exact g2.2 g3 _ _ _ _ rfl hn rfl
  · intro i c o hc
    obtain ⟨d, v, g1, g2, g3, g4⟩ := at' hc
    obtain ⟨ad, n, cap, he, rfl, hn⟩ := adr g4
    exact dr_block g1 he hn
  · intro i hi
    show (as[i]?).join = none
    rw [List.getElem?_eq_none (by omega)]
    rfl
  · rintro c ⟨v, hv, ad, n, cap, he, hn, rfl⟩
    have : ∀ (ds : List D) (vs : List Value), all2 (DR w) ds vs → ∀ v, v ∈ vs → ∃ d, DR w d v := by
      intro ds
      induction ds with
      | nil => intro vs h v hv; match vs, h with | [], _ => cases hv
      | cons d ds ih =>
        intro vs h v hv
        match vs, h with
        | u :: vs, h =>
          rcases List.mem_cons.1 hv with rfl | hv
          · exact ⟨d, h.1⟩
          · exact ih vs h.2 v hv
    obtain ⟨d, hd⟩ := this ds vs h v hv
    exact dr_block hd he hn
  · intro i b hb
    obtain ⟨e, _⟩ := get hb
    cases e
  · have := (vals_vr (ρ' := ρ) (M := bs) (ds.map fun d => (Own.old, d)) vs 0 hR (fun j hj => ⟨by rw [hbl]; simp, by rw [hal]; simp; rfl⟩)).length
    simp [this]
  · intro t
    have hv := vals_vr (ρ' := ρ) (M := bs) (ds.map fun d => (Own.old, d)) vs 0 hR (fun j hj => ⟨by rw [hbl]; simp, by rw [hal]; simp; rfl⟩)
    generalize valsOf 0 (ds.map fun d => (Own.old, d)) = vals at hv
    have key : ∀ (vals : List V0) (vs : List Value) (t : Nat), all2 (VR0 ρ bs w) vals vs → VR ρ bs w (getT (vals.map V.o ++ List.replicate k (.o .u)) t) ((vs ++ List.replicate k undef).getD t undef) := by
      intro vals
      induction vals with
      | nil =>
        intro vs t h
        match vs, h with
        | [], _ =>
          have : getT (List.map V.o [] ++ List.replicate k (.o .u)) t = .o .u := by
            unfold getT
            simp [List.getD_eq_getElem?_getD, List.getElem?_replicate]
            split <;> rfl
          rw [this]
          trivial
      | cons x vals ih =>
        intro vs t h
        match vs, h with
        | v :: vs, h =>
          cases t with
          | zero => exact h.1
          | succ t => exact ih vs t h.2
    have e : (vs.toArray ++ Array.replicate k undef).getD t undef = (vs ++ List.replicate k undef).getD t undef := by
      rw [Array.getD_eq_getD_getElem?, List.getD_eq_getElem?_getD, ← Array.getElem?_toList]
      simp
    show VR ρ bs w _ ((vs.toArray ++ Array.replicate k undef).getD t undef)
    rw [e]
    exact key vals vs t hv
end Go.Vm

namespace Go.Vm
open Go.RowKit (Below)
variable {P : Program}

section
variable {E : Env} {B : Nat} {w0 : World} {vs : List Value} {ρ : Nm} {tm : List V} {m : Mem} {a : Act} {w : World} {r : List (Own × D)}

abbrev leads (vs : List Value) (c : Nat) : Prop := ∃ v, v ∈ vs ∧ ∃ ad n cap, v = .slice (some ad) n cap ∧ n ≠ 0 ∧ ad.block = c
def outRun (a : Act) (rv : ResultVar) : Sem Value := match rv with
  | .tmp t => pure (a.tmps.getD t undef)
  | .cell c t => do loadVar t (← asAddr (a.tmps.getD c undef))

/-- Whose a slice is that goes out. -/
theorem owner_ok (hS : St w0.heap.size w0 (leads vs) ρ tm m a w) (one : Bool) {q : Prop} (hq : q → one = true) {v : V} {rv : Value} {d : D} {κ : D → R} (hv : VR ρ m w v rv) (hd : DR w d rv) (h : contentK m v κ = some r) :
    ResOK w0 w vs q (ownerOf one m v, d) rv := by
  have slr : ∀ {i k n : Nat} {s : Own} {b : Blk}, m[i]? = some (s, b) → SlR ρ m w i k n rv → ∀ (ow : Own), (ow = .mine → s = .mine ∧ k = 0 ∧ one = true) → (ow = .new → s = .mine ∨ s = .new) → (ow = .old → s = .old) → ResOK w0 w vs q (ow, d) rv := by
    intro i k n s b hm hs ow h1 h2 h3
    obtain ⟨hlt, ad, cap, rfl, g1, g2, g3, g4⟩ := hs
    refine ⟨hd, fun _ => ?_⟩
    have blk : ∀ b' ad' n' cap', Value.slice ad n cap = .slice (some ad') n' cap' → n' ≠ 0 → ad'.block = b' → ∃ o, ρ i = some (b', o) := by
      intro b' ad' n' cap' e hn hb
      cases e
      rcases g3 with g3 | ⟨b2, o, g3, e⟩
      · exact absurd g3 hn
      · cases e; cases hb; exact ⟨o, g3⟩
    cases ow with
    | mine =>
      obtain ⟨rfl, rfl, ho⟩ := h1 rfl
      refine ⟨ad, n, cap, rfl, ?_⟩
      rcases g4 ⟨b, hm⟩ with g4 | ⟨b', k1, k2, k3⟩
      · exact .inl g4
      · obtain ⟨k4, k5⟩ := hS.inv.mine i b hm
        refine .inr ⟨b', k2, k5 b' 0 k1, fun _ => ⟨(k4 b' 0 k1).2, by omega⟩⟩
    | new =>
      intro b' ad' n' cap' e hn hb
      obtain ⟨o, ho⟩ := blk b' ad' n' cap' e hn hb
      rcases h2 rfl with rfl | rfl
      · exact (hS.inv.mine i b hm).2 b' o ho
      · exact hS.inv.new i b hm b' o ho
    | old =>
      intro b' ad' n' cap' e hn hb
      obtain ⟨o, ho⟩ := blk b' ad' n' cap' e hn hb
      have := h3 rfl
      subst this
      exact hS.inv.old i b hm b' o ho
  unfold contentK at h
  split at h
  · refine ⟨hd, fun hs => ?_⟩
    cases d with
    | w k xs => obtain ⟨rfl, hw⟩ := hv; obtain ⟨ad, cap, e, _⟩ := hd; subst e; cases hw
    | c n cs => obtain ⟨rfl, hw⟩ := hv; obtain ⟨ad, cap, e, _⟩ := hd; subst e; cases hw
    | _ => cases hs
  · refine ⟨hd, fun hs => ?_⟩
    cases d with
    | w k xs => obtain ⟨rfl, _⟩ := hv; obtain ⟨ad, cap, e, _⟩ := hd; cases e
    | c n cs => obtain ⟨rfl, _⟩ := hv; obtain ⟨ad, cap, e, _⟩ := hd; cases e
    | _ => cases hs
  · refine ⟨hd, fun hs => ?_⟩
    cases d with
    | w k xs => obtain ⟨rfl, _⟩ := hv; obtain ⟨ad, cap, e, _⟩ := hd; cases e
    | c n cs => obtain ⟨rfl, _⟩ := hv; obtain ⟨ad, cap, e, _⟩ := hd; cases e
    | _ => cases hs
  · obtain ⟨ad, hr⟩ := hv
    exact ⟨hd, fun _ => ⟨ad, 0, 0, hr, .inl rfl⟩⟩
  · rename_i i
    split at h
    case h_2 => cases h
    rename_i s kd n xs hm
    refine slr hm (hv.2 n (by unfold blkN; rw [hm])) _ ?_ ?_ ?_ <;> simp only [ownerOf, hm] <;> cases s <;> cases one <;> simp
  · rename_i i k n
    have hsl : SlR ρ m w i k n rv := hv
    have : ∃ s b, m[i]? = some (s, b) := by
      cases hm : m[i]? with
      | none => rw [hm] at h; cases h
      | some p => exact ⟨p.1, p.2, rfl⟩
    obtain ⟨s, b, hm⟩ := this
    refine slr hm hsl _ ?_ ?_ ?_ <;> simp only [ownerOf, hm] <;> cases s <;> cases one <;> simp <;> (cases hk : (k == 0) <;> simp_all)
  · cases h

theorem out_ok (hE : EnvOK P E) (hS : St w0.heap.size w0 (leads vs) ρ tm m a w) (one : Bool) {q : Prop} (hq : q → one = true) (rv : ResultVar) (ty : TypeId) (κ : Own × D → R) (h : outK E one tm m rv ty κ = some r) :
    ∃ d x, κ d = some r ∧ (outRun a rv).run P w = .ok x w ∧ ResOK w0 w vs q d x := by
  unfold outK at h
  split at h
  · rename_i t
    have hv := hS.tms t
    split at h
    · rename_i hz
      split at h
      case h_2 => cases h
      rename_i k hk
      rw [hz] at hv
      obtain ⟨ad, he⟩ := hv
      refine ⟨_, a.tmps.getD t undef, h, rfl, ⟨ad, 0, by simpa using he, Nat.le_refl _, Nat.zero_le _, fun x hx => by simp at hx, .inl rfl⟩, fun _ => ?_⟩
      cases one
      · intro b ad' n cap e hn
        rw [he] at e
        cases e
        exact absurd rfl hn
      · exact ⟨ad, 0, 0, he, .inl rfl⟩
    · obtain ⟨d, h1, h2, _⟩ := content_dr hv (hS.touch _) h
      exact ⟨_, _, h1, rfl, owner_ok hS one hq hv h2 h⟩
  · rename_i t ty'
    have hv := hS.tms t
    split at h
    case h_2 => cases h
    rename_i i td hz ht
    rw [hz] at hv
    obtain ⟨hi, b, o, h1, h2⟩ := hv
    have run : ∀ x, (Instr.loadAt ty' (.pointer (some ⟨b, o, none⟩))).run P w = .ok x w → (outRun a (.cell t ty')).run P w = .ok x w := by
      intro x hx
      simp only [Instr.loadAt, Instr.sureAddr, Sem.run_bind, Sem.run_pure, Result.andThen_ok] at hx
      simp only [outRun, h2, asAddr, Sem.run_bind, Sem.run_pure, Result.andThen_ok, Nat.add_zero, hx]
    split at h
    · rename_i s kd n xs hm
      split at h
      case h_2 => cases h
      rename_i n' k'
      replace h := cond_none h
      obtain ⟨hc, h⟩ := h
      have hc := of_decide_eq_true hc
      subst hc
      obtain ⟨hl, hlim, hR, hB⟩ := hS.inv.blk i s _ hm
      obtain ⟨_, e, hu, _⟩ := (hE.ty _ _ ht).2.2
      have hr : w.rangeAt b o (xs.map (Value.int kd)) := by
        rcases hB with hB | ⟨b', o', h3, h4⟩
        · have : xs = [] := List.eq_nil_of_length_eq_zero (by omega)
          subst this
          intro j v hj
          simp at hj
        · rw [h1] at h3; cases h3; exact h4
      exact ⟨_, _, h, run _ (run_loadAt_mid w b o ty' _ _ hr hu rfl (by rw [(hE.ty _ _ ht).1]; simp [Ty.size, hl])), ⟨rfl, hl, hlim, hR⟩, fun h => by cases h⟩
    · rename_i s cs hm
      replace h := cond_none h
      obtain ⟨hc, h⟩ := h
      have hc := of_decide_eq_true hc
      obtain ⟨hw, hB⟩ := hS.inv.blk i s _ hm
      have hr : w.rangeAt b o cs := by
        rcases hB with rfl | ⟨b', o', h3, h4⟩
        · intro j v hj
          simp at hj
        · rw [h1] at h3; cases h3; exact h4
      split at h
      · rename_i v hcs
        obtain ⟨x, h5, h6⟩ := load_cells (ρ := ρ) (m := m) hE ht hcs hc.symm hw hr
        exact ⟨_, x, h, run _ h5, h6, fun h => by cases h⟩
      · rename_i gs hcs
        obtain ⟨x, h5, h6⟩ := load_cells (ρ := ρ) (m := m) hE ht hcs hc.symm hw hr
        exact ⟨_, x, h, run _ h5, h6, fun h => by cases h⟩
      · cases h
    · cases h

theorem outs_ok (hE : EnvOK P E) (hS : St w0.heap.size w0 (leads vs) ρ tm m a w) (one : Bool) {q : Prop} (hq : q → one = true) : ∀ (rts : List (ResultVar × TypeId)) (κ : List (Own × D) → R), outsK E one tm m rts κ = some r →
    ∃ ds xs, κ ds = some r ∧ ((rts.map (·.1)).mapM (outRun a)).run P w = .ok xs w ∧ all2 (ResOK w0 w vs q) ds xs
  | [], κ, h => ⟨[], [], h, rfl, trivial⟩
  | (rv, ty) :: l, κ, h => by
    simp only [outsK] at h
    obtain ⟨d, x, h1, h2, h3⟩ := out_ok hE hS one hq rv ty _ h
    obtain ⟨ds, xs, g1, g2, g3⟩ := outs_ok hE hS one hq l _ h1
    refine ⟨d :: ds, x :: xs, g1, ?_, h3, g3⟩
    simp only [List.map_cons, List.mapM_cons, Sem.run_bind, h2, Result.andThen_ok, g2, Sem.run_pure]
end

theorem results_run (fn : Func) (a : Act) (w : World) (xs : List Value) (h : (fn.results.toList.mapM (outRun a)).run P w = .ok xs w) : (results fn a.tmps).run P w = .ok (tupleOf xs) w := by
  have e0 : results fn a.tmps = (do let vs ← fn.results.mapM (outRun a); pure (if h : vs.size = 1 then vs[0] else .tuple vs)) := by
    unfold results
    congr 2
  have e : fn.results.mapM (outRun a) = (List.toArray <$> fn.results.toList.mapM (outRun a)) := Array.mapM_eq_mapM_toList
  rw [e0, Sem.run_bind, e]
  have h2 : (List.toArray <$> fn.results.toList.mapM (outRun a)).run P w = .ok xs.toArray w := by
    rw [map_eq_pure_bind, Sem.run_bind, h]
    rfl
  rw [h2]
  match xs with
  | [] => rfl
  | [x] => rfl
  | x :: y :: l => simp [tupleOf]

theorem all2_length {w : World} : ∀ (ds : List D) (vs : List Value), all2 (DR w) ds vs → ds.length = vs.length := fun _ _ h => h.length

/-- THE EVALUATOR IS RIGHT. -/
theorem fn_calls {E : Env} (hE : EnvOK P E) (hm : P.follows .mixedOrders = true) {k : FuncId} {f : Func} (hf : P.funcs[k]? = some f) (hname : (f.name == "runtime.NumGoroutine") = false) (hrl : f.results.size = f.resultTypes.size) (hL : ∀ c, f.body = some c → LoopsOK E (loopsOf 0 c)) {ds : List D} {res : List (Own × D)}
    (h : evFn E f ds = some res) (w : World) (vs : List Value) (hds : all2 (DR w) ds vs) :
    (callFunc k vs.toArray).run P w = .ok (.enter k vs.toArray) w ∧ Calls P k vs.toArray w fun e w' => ∃ rv, e = .returned rv ∧ Below w.heap.size w w' ∧ ∃ rs, rv = tupleOf rs ∧ all2 (ResOK w w' vs (res.length = 1)) res rs := by
  unfold evFn at h
  split at h
  case h_1 => cases h
  rename_i c hc
  obtain ⟨hn, h⟩ := cond_none h
  have hnlen : ds.length = f.params.size := by
    have := (Bool.and_eq_true_iff.1 hn).1
    simpa using this
  have hvl : ds.length = vs.length := hds.length
  refine ⟨?_, ?_⟩
  · have h1 : f.name ≠ "runtime.NumGoroutine" := by simpa using hname
    simp [callFunc, Sem.run_bind, run_program, hf, h1, hc]
  · refine calls_of_wp hf hc ?_
    obtain ⟨ρ, hS⟩ := start w ds vs (f.ntmps - ds.length) hds
    have e : (vs.toArray ++ Array.replicate (f.ntmps - vs.toArray.size) undef : Array Value) = vs.toArray ++ Array.replicate (f.ntmps - ds.length) undef := by
      rw [hvl]
      rfl
    rw [e]
    refine ev_sound hE hm c 0 (hL c hc) _ _ ?_ ρ _ _ _ _ hS h
    intro x ρ tm m a w' hS h
    have fin : outsK E (f.results.size == 1) tm m (f.results.toList.zip f.resultTypes.toList) some = some res → a.defers = [] ∧ ∃ v, (results f a.tmps).run P w' = .ok v w' ∧
        ∃ rv, Ending.returned v = .returned rv ∧ Below w.heap.size w w' ∧ ∃ rs, rv = tupleOf rs ∧ all2 (ResOK w w' vs (res.length = 1)) res rs := by
      intro h
      have hz : (f.results.toList.zip f.resultTypes.toList).map (·.1) = f.results.toList := List.map_fst_zip (by simp; omega)
      have hq : ∀ ds xs, all2 (ResOK w w' vs ((f.results.size == 1) = true)) ds xs → (f.results.toList.mapM (outRun a)).run P w' = .ok xs w' → (ds.length = 1 → (f.results.size == 1) = true) := by
        intro ds xs h1 h2 h3
        have h4 : xs.length = f.results.size := by
          have key : ∀ (l : List ResultVar) (xs : List Value) (w1 w2 : World), (l.mapM (outRun a)).run P w1 = .ok xs w2 → xs.length = l.length := by
            intro l
            induction l with
            | nil => intro xs w1 w2 h; simp at h; simp [h.1.symm]
            | cons rv l ih =>
              intro xs w1 w2 h
              simp only [List.mapM_cons, Sem.run_bind] at h
              cases h5 : (outRun a rv).run P w1 with
              | halt x w3 => rw [h5] at h; cases h
              | ok x w3 =>
                rw [h5] at h
                simp only [Result.andThen_ok] at h
                cases h6 : (l.mapM (outRun a)).run P w3 with
                | halt x w4 => rw [h6] at h; cases h
                | ok ys w4 =>
                  rw [h6] at h
                  simp at h
                  rw [← h.1]
                  simp [ih ys w3 w4 h6]
          simpa using key _ _ _ _ h2
        have := h1.length
        simp
        omega
      obtain ⟨ds', xs, h1, h2, h3⟩ := outs_ok hE hS (f.results.size == 1) (q := (f.results.size == 1) = true) id _ some h
      rw [hz] at h2
      cases h1
      have himp := hq _ xs h3 h2
      obtain ⟨ds2, xs2, g1, g2, g3⟩ := outs_ok hE hS (f.results.size == 1) (q := res.length = 1) himp _ some h
      rw [hz] at g2
      cases g1
      exact ⟨hS.defers, _, results_run f a w' xs2 g2, _, rfl, hS.inv.below, xs2, rfl, g3⟩
    cases x with
    | normal => exact fin h
    | exit id => cases h
    | ret => exact fin h
theorem fn_sound {E : Env} (hE : EnvOK P E) (hm : P.follows .mixedOrders = true) {k : FuncId} {f : Func} (hf : P.funcs[k]? = some f) (hname : (f.name == "runtime.NumGoroutine") = false) (hrl : f.results.size = f.resultTypes.size) (hL : ∀ c, f.body = some c → LoopsOK E (loopsOf 0 c)) {ds : List D} {res : List (Own × D)}
    (h : evFn E f ds = some res) : CallOK P k ds res := fun w vs hds => .inr (fn_calls hE hm hf hname hrl hL h w vs hds)
/-- A contract by the evaluator itself. -/
theorem fnOK_ev {E : Env} (hE : EnvOK P E) (hm : P.follows .mixedOrders = true) {k : FuncId} {f : Func} (hf : P.funcs[k]? = some f) (hname : (f.name == "runtime.NumGoroutine") = false) (hrl : f.results.size = f.resultTypes.size) (hL : ∀ c, f.body = some c → LoopsOK E (loopsOf 0 c)) {F : List D → (List (Own × D) → R) → R}
    (h : ∀ ds κ r, (∀ d ∈ ds, d.wf) → F ds κ = some r → ∃ res, κ res = some r ∧ evFn E f ds = some res) : FnOK P k F := fun ds κ r hw hF => by
  obtain ⟨res, h1, h2⟩ := h ds κ r hw hF
  exact ⟨res, h1, fn_sound hE hm hf hname hrl hL h2⟩
end Go.Vm

namespace Go.Vm
variable {P : Program}

theorem all_range_int : ∀ (xs ys : List Int), xs.length = ys.length → ((List.range xs.length).all fun i => xs.getD i 0 == ys.getD i 0) = decide (xs = ys)
  | [], [], _ => rfl
  | x :: xs, y :: ys, h => by
    have ih := all_range_int xs ys (by simpa using h)
    rw [List.length_cons, List.range_succ_eq_map, List.all_cons, List.all_map]
    simp only [List.getD_cons_zero, Function.comp_def, List.getD_cons_succ, ih]
    by_cases e : x = y <;> simp [e]
  | [], _ :: _, h => by simp at h
  | _ :: _, [], h => by simp at h

theorem eqOK_arr {t e : TypeId} {n : Nat} {k : IntKind} (hg : P.eqGuardType P.depth t = false) (ht : P.underlying t = some (.array n e)) (he : P.underlying e = some (.int k)) (hs : (P.info? e).map (·.size) = some 1) : EqOK P t (.arr n k) := by
  refine ⟨hg, fun w xs ys hx hy => ?_⟩
  have hsz : ∀ w, (sizeOf e).run P w = .ok 1 w := by
    intro w
    cases hq : P.info? e with
    | none => simp [hq] at hs
    | some i =>
      have : i.size = 1 := by simpa [hq] using hs
      simp [sizeOf, typeInfo, hq, this]
  rw [← all_range_int xs ys (hx.trans hy.symm), hx, List.range_eq_range', Op.equalIn]
  simp only [Sem.run_bind, run_underlying ht, Result.andThen_ok, hsz, Std.Legacy.Range.forIn_eq_forIn_range', Std.Legacy.Range.size, Nat.sub_zero, Nat.add_sub_cancel, Nat.div_one]
  have hl : ∀ i ∈ List.range' 0 n 1, i < n := fun i hi => by simpa using (List.mem_range'_1.1 hi).2
  generalize List.range' 0 n 1 = l at hl ⊢
  induction l with
  | nil => simp
  | cons i l ih =>
    have hi : i < n := hl i (by simp)
    have px : (part e (xs.map (Value.int k)).toArray (i * 1)).run P w = .ok (.int k (xs.getD i 0)) w := by
      simp [part, isAgg, run_underlying he, List.getD, List.getElem?_eq_getElem (show i < xs.length by omega)]
    have py : (part e (ys.map (Value.int k)).toArray (i * 1)).run P w = .ok (.int k (ys.getD i 0)) w := by
      simp [part, isAgg, run_underlying he, List.getD, List.getElem?_eq_getElem (show i < ys.length by omega)]
    have pe : (Op.equalIn 9999 e (.int k (xs.getD i 0)) (.int k (ys.getD i 0))).run P w = .ok (xs.getD i 0 == ys.getD i 0) w :=
      run_equalIn_int w 9998 e k k _ _ he
    simp only [List.forIn_cons, Sem.run_bind, px, py, pe, Result.andThen_ok, List.all_cons]
    cases hb : (xs.getD i 0 == ys.getD i 0)
    · simp
    · simp only [Bool.not_true, Bool.false_eq_true, if_false, Sem.run_pure, Result.andThen_ok, Bool.true_and]
      exact ih fun j hj => hl j (by simp [hj])

def litOf : Value → Lit
  | .int k n => .int k n
  | .bool b => .bool b
  | .string s => .string s.data.toList
  | _ => .bool false
theorem eqCells_lits : ∀ (zs xs ys : List Value) (b : Bool), likeZ zs xs = true → likeZ zs ys = true → eqCells xs ys = some b → (b = true ↔ xs.map litOf = ys.map litOf)
  | [], [], [], b, _, _, h => by cases h; simp
  | z :: zs, x :: xs, y :: ys, b, hx, hy, h => by
    cases z <;> cases x <;> first | (simp [likeZ] at hx; done) | skip
    all_goals cases y <;> first | (simp [likeZ] at hy; done) | skip
    · rename_i c0 c1 c2
      simp only [likeZ] at hx hy
      unfold eqCells at h
      cases hq : eqCells xs ys with
      | none => rw [hq] at h; cases h
      | some q =>
        rw [hq] at h
        simp only [Option.map_some, Option.some.injEq] at h
        have ih := eqCells_lits zs xs ys q hx hy hq
        simp only [List.map_cons, litOf, List.cons.injEq, Lit.bool.injEq, ← ih, ← h]
        cases c1 <;> cases c2 <;> simp
    · rename_i k0 x0 k1 x1 k2 x2
      simp only [likeZ, Bool.and_eq_true, decide_eq_true_eq] at hx hy
      obtain ⟨rfl, hx⟩ := hx
      obtain ⟨rfl, hy⟩ := hy
      unfold eqCells at h
      rw [if_pos rfl] at h
      cases hq : eqCells xs ys with
      | none => rw [hq] at h; cases h
      | some q =>
        rw [hq] at h
        simp only [Option.map_some, Option.some.injEq] at h
        have ih := eqCells_lits zs xs ys q hx hy hq
        simp only [List.map_cons, litOf, List.cons.injEq, Lit.int.injEq, true_and, ← ih, ← h]
        by_cases e : x1 = x2
        · simp [e]
        · simp [e, beq_eq_false_iff_ne.2 e]
    · rename_i c0 c1 c2
      simp only [likeZ] at hx hy
      unfold eqCells at h
      cases hq : eqCells xs ys with
      | none => rw [hq] at h; cases h
      | some q =>
        rw [hq] at h
        simp only [Option.map_some, Option.some.injEq] at h
        have ih := eqCells_lits zs xs ys q hx hy hq
        simp only [List.map_cons, litOf, List.cons.injEq, Lit.string.injEq, ← ih, ← h]
        obtain ⟨⟨l1⟩⟩ := c1
        obtain ⟨⟨l2⟩⟩ := c2
        have : ((⟨⟨l1⟩⟩ : ByteArray) == ⟨⟨l2⟩⟩) = (l1 == l2) := by
          show ((⟨l1⟩ : Array UInt8) == ⟨l2⟩) = (l1 == l2)
          simp
        rw [this]
        by_cases e : l1 = l2
        · simp [e]
        · simp [e, beq_eq_false_iff_ne.2 e]
  | [], _ :: _, _, _, hx, _, _ => by simp [likeZ] at hx
  | [], [], _ :: _, _, _, hy, _ => by simp [likeZ] at hy
  | z :: _, [], _, _, hx, _, _ => by cases z <;> simp [likeZ] at hx
  | z :: _, _ :: _, [], _, _, hy, _ => by cases z <;> simp [likeZ] at hy

theorem eqOK_st {t : TypeId} {zs : List Value} {fs : List (Nat × TypeId)} {m D : Nat} (hg : P.eqGuardType P.depth t = false) (hk : P.keyTypeAt m t = true) (hm : m ≤ 10000)
    (hl : ∀ xs, wfL xs → likeZ zs xs = true → (Value.agg xs.toArray).formed P t = true ∧ P.keyLits D t xs = some (xs.map litOf)) : EqOK P t (.st zs fs) := by
  refine ⟨hg, fun w xs ys b hwx hwy hx hy hb => ?_⟩
  obtain ⟨fx, kx⟩ := hl xs hwx hx
  obtain ⟨fy, ky⟩ := hl ys hwy hy
  obtain ⟨r, h1, h2⟩ := run_equalIn_deep (10000 - m) m t hk w D D (.agg xs.toArray) (.agg ys.toArray) _ _ fx fy (by simpa [Value.cells] using kx) (by simpa [Value.cells] using ky)
  rw [show 10000 - m + m = 10000 from by omega] at h1
  rw [h1]
  have : r = b := by
    have h3 := eqCells_lits zs xs ys b hx hy hb
    rw [Bool.eq_iff_iff, h2, h3]
  rw [this]
end Go.Vm
