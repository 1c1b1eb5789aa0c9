/-
  append and copy. No statement is proved here.
-/
import Derived.Test.YtmjbikbakkbajaaVmY
import Derived.Deep.AppendSrc
import Derived.Deep.Upon
namespace Go.Vm
open Go.RowKit (Below)
variable {P : Program}

theorem set_same' {α : Type} (m : List α) (i : Nat) (v : α) (h : m[i]? = some v) : m.set i v = m := by
  obtain ⟨hl, he⟩ := List.getElem?_eq_some_iff.1 h
  apply List.ext_getElem
  · simp
  · intro j h1 h2
    by_cases e : i = j
    · subst e; simp [he]
    · rw [List.getElem_set_ne e]

/-- What is appended. -/
theorem src_of {E : Env} (hE : EnvOK P E) {tx e : TypeId} (ht : E.ty tx = some (.sl e)) {w : World} {kd : IntKind} {ys : List Int} {rv : Value} (hd : DR w (.w kd ys) rv) :
    Src P 1 tx rv ys.length (ys.map (Value.int kd)) w := by
  have hu : P.underlying tx = some (.slice e) := (hE.ty _ _ ht).2.2
  obtain ⟨ad, cap, rfl, _, _, _, h⟩ := hd
  have one : ∀ u ∈ ys.map (Value.int kd), u.oneCell' = true := by
    intro u hu
    obtain ⟨_, _, rfl⟩ := List.mem_map.1 hu
    rfl
  cases ad with
  | none =>
    rcases h with h | ⟨b, o, h, _⟩
    · have : ys = [] := List.eq_nil_of_length_eq_zero h
      subst this
      exact Src.ofNil w hu cap
    · cases h
  | some ad =>
    refine Src.ofSlice w hu ad ys.length cap _ (by simp) (fun j u hj => ?_) one
    rcases h with h | ⟨b, o, h, h'⟩
    · have : ys = [] := List.eq_nil_of_length_eq_zero h
      subst this
      simp at hj
    · cases h
      have := h' j u hj
      simpa [Addr.add_lit] using this

/-- There is no room: a new row. -/
theorem grow_run {E : Env} (hE : EnvOK P E) {t tx e : TypeId} {kd : IntKind} (ht : E.ty t = some (.sl e)) (he : E.ty e = some (.i kd)) {w : World} {x : Value} {ys : List Int} (hs : Src P 1 tx x ys.length (ys.map (Value.int kd)) w)
    (ty : TypeId) (base : Option Addr) (sCap : Nat) (xs : List Int) (hold : (Builtin.firstCells 1 xs.length (.slice base xs.length sCap)).run P w.drew = .ok (xs.map (Value.int kd)).toArray w.drew)
    (hg : sCap < xs.length + ys.length) (hfit : xs.length + ys.length ≤ 17592186044416) :
    ∃ cap cs, (Builtin.append_ #[t, tx] ty #[.slice base xs.length sCap, x]).run P w = .ok (.slice (some ⟨w.heap.size, 0, none⟩) (xs.length + ys.length) cap) (w.drew.alloc (.cells cs e)) ∧
      xs.length + ys.length ≤ cap ∧ cap ≤ cs.size ∧ ∀ (j : Nat) (v : Value), ((xs ++ ys).map (Value.int kd))[j]? = some v → cs[j]? = some v := by
  have hu : P.underlying t = some (.slice e) := (hE.ty _ _ ht).2.2
  obtain ⟨h1, h2, _, bb, h3, h4⟩ := hE.ty _ _ he
  cases hi : P.info? e with
  | none => simp [hi] at h1
  | some i =>
    have hsz : i.size = 1 := by simpa [hi, Ty.size] using h1
    have hz : i.zero = some (.int kd 0) := by simpa [hi, Ty.real] using h2
    have hb : i.bytes = bb := by simpa [hi] using h3
    have hfit' : Builtin.nextslicecap (xs.length + ys.length) sCap * i.bytes ≤ 281474976710656 := by
      refine growslice_fits hg ?_
      have : (xs.length + ys.length) * i.bytes ≤ 17592186044416 * 8 := Nat.mul_le_mul hfit (by omega)
      omega
    have hrun := run_append_grow_src w t tx ty e i (.int kd 0) hu hi hz base xs.length sCap (xs.map (Value.int kd)) (by rw [hsz]; exact hold) x ys.length (ys.map (Value.int kd)) (by rw [hsz]; exact hs) hg (by omega) hfit'
    refine ⟨_, _, hrun, grownCap_ge _ _ _ _, ?_, ?_⟩
    · have := grownCap_ge w (xs.length + ys.length) sCap e
      simp [Builtin.zeroCells, Value.cells]
      omega
    · intro j v hj
      have hlt : j < xs.length + ys.length := by
        have := (List.getElem?_eq_some_iff.1 hj).1
        simpa using this
      rw [List.map_append] at hj
      rw [Array.getElem?_append_left (by simpa using hlt)]
      simpa using hj

section
variable {E : Env} {B : Nat} {w0 : World} {ab : Nat → Prop} {ρ : Nm} {tm : List V} {m : Mem} {a : Act} {w : World} {κ : V → Mem → R} {r : List (Own × D)} {dst : Option Tmp} {ty : TypeId} {pos : String} {after : Array Edge} {guard : Option (Nat × Bool)}

/-- A new row, as the call's own block. -/
theorem new_row (hI : Inv B w0 ab ρ m w) {cs : Array Value} {e : TypeId} {kd : IntKind} {zs : List Int} {cap : Nat} (h1 : zs.length ≤ cap) (h2 : cap ≤ cs.size) (h3 : zs.length ≤ lim) (hr : inR kd zs) (hc : ∀ (j : Nat) (v : Value), (zs.map (Value.int kd))[j]? = some v → cs[j]? = some v) :
    ∃ ρ', Inv B w0 ab ρ' (m ++ [(.mine, .w kd zs.length zs)]) (w.drew.alloc (.cells cs e)) ∧ Keeps ρ m w ρ' (m ++ [(.mine, .w kd zs.length zs)]) (w.drew.alloc (.cells cs e)) ∧
      VR ρ' (m ++ [(.mine, .w kd zs.length zs)]) (w.drew.alloc (.cells cs e)) (.o (.f m.length)) (.slice (some ⟨w.heap.size, 0, none⟩) zs.length cap) := by
  have hI' : Inv B w0 ab ρ m w.drew := hI.drawn _
  have he := eff_new (ρ := ρ) (m := m) (w := w.drew) (fr := ([], [])) cs e (.w kd zs.length zs) (.o (.f m.length)) (.slice (some ⟨w.drew.heap.size, 0, none⟩) zs.length cap) ⟨rfl, h3, hr, hc⟩ (vr_news cs e kd zs.length cap zs h1 h2 h3)
  obtain ⟨g1, g2, g3⟩ := hI'.eff he
  exact ⟨_, g1, fun x rx hx => g2 x rx hx.drawn, g3⟩
/-- Cells written behind those that are told. -/
theorem push_put {i b : Nat} {blk : Blk} (old news : List Value) (hm : m[i]? = some (.mine, blk)) (hb : ρ i = some (b, 0)) (hM : MineOK ρ w i) (hr : w.rangeAt b 0 old) (hsz : old.length + news.length ≤ bsize w b) (hwf : wfL (old ++ news)) :
    (∀ j, j < news.length → (w.cell? ⟨b, old.length + j, none⟩).isSome = true) ∧ (∀ j, j < news.length → w.frozen? ⟨b, old.length + j, none⟩ = false) ∧
      (w.setCells b old.length news).rangeAt b 0 (old ++ news) ∧ Eff ρ m w ([i], []) (.o .u) (m.set i (.mine, .c (old ++ news))) undef (w.setCells b old.length news) ρ := by
  obtain ⟨_, c, e, hc⟩ := hM b 0 hb
  obtain ⟨c', hc', hsz'⟩ := heap_setCells b news old.length w c e (0, 0) hc
  have hcs : bsize w b = c.size := by unfold bsize; rw [hc]
  have h1 : ∀ j, j < news.length → (w.cell? ⟨b, old.length + j, none⟩).isSome = true := by
    intro j hj
    unfold World.cell?
    simp only [hc]
    rw [Array.getElem?_eq_getElem (by omega)]
    rfl
  have hR : (w.setCells b old.length news).rangeAt b 0 (old ++ news) := by
    intro j v hj
    rw [Nat.zero_add]
    by_cases hl : j < old.length
    · rw [World.cell?_setCells_out b news old.length w _ (fun _ _ => .inl (by simpa using hl))]
      rw [List.getElem?_append_left hl] at hj
      have := hr j v hj
      simpa using this
    · have hl2 : j - old.length < news.length := by
        have := (List.getElem?_eq_some_iff.1 hj).1
        simp at this
        omega
      have h3 := World.cell?_setCells_in b news old.length w h1 (j - old.length) hl2
      rw [show old.length + (j - old.length) = j from by omega] at h3
      rw [h3]
      rw [List.getElem?_append_right (by omega), List.getElem?_eq_getElem hl2] at hj
      exact hj
  refine ⟨h1, fun j _ => by simp [World.frozen?, hc], hR, ?_⟩
  refine Eff.put i b blk _ _ (by simp) hm hb (rest_setCells b news old.length w).1 (rest_setCells b news old.length w).2 (fun q hq => heap_setCells_ne b q hq news old.length w) ?_ ⟨hwf, .inr ⟨b, 0, hb, hR⟩⟩ ?_ (by intro e; cases e) (by intro _ _ _ e; cases e)
  · unfold bsize
    rw [hc, hc']
    exact hsz'
  · intro b' o' h'
    rw [hb] at h'
    cases h'
    exact ⟨rfl, c', e, hc'⟩

theorem append_owes (hE : EnvOK P E) (hI : Inv B w0 ab ρ m w) (s x : Operand) (t tx : TypeId) (hs : VR ρ m w (opnd tm s) (a.eval s)) (hx : VR ρ m w (opnd tm x) (a.eval x)) (hb : Touch ρ m w (nameOf (opnd tm x)).toList)
    (h : builtinK E .append [t, tx] m [opnd tm s, opnd tm x] κ = some r) : ∃ v m', κ v m' = some r ∧ Does P ⟨dst, .call ⟨.builtin .append, #[s, x], #[t, tx]⟩, ty, pos, after, guard⟩ a w fun rv w' => ∃ ρ', Inv B w0 ab ρ' m' w' ∧ Keeps ρ m w ρ' m' w' ∧ VR ρ' m' w' v rv := by
  simp only [builtinK] at h
  split at h
  case h_2 => cases h
  rename_i kd e' hk ht2
  obtain ⟨e, ht, he⟩ : ∃ e, E.ty t = some (.sl e) ∧ E.ty e = some (.i kd) := by
    unfold kindOf at hk
    split at hk
    · rename_i e ht
      split at hk
      · rename_i k he
        cases hk
        exact ⟨e, ht, he⟩
      · cases hk
    · cases hk
  have fin : ∀ {rv : Value} {w' : World} {post : Value → World → Prop}, (Builtin.append_ #[t, tx] ty #[a.eval s, a.eval x]).run P w = .ok rv w' → post rv w' → Does P ⟨dst, .call ⟨.builtin .append, #[s, x], #[t, tx]⟩, ty, pos, after, guard⟩ a w post := by
    intro rv w' post hr hp
    refine does_value (w' := w') (rv := rv) ?_ hp
    rw [run_builtin]
    simp [builtin, hr]
  unfold appendK at h
  replace h := content_dr hx hb h
  obtain ⟨d, h, hd, -⟩ := h
  split at h
  case h_2 => cases h
  rename_i kd' ys
  split at h
  · rename_i hv
    replace h := cond_none h
    obtain ⟨hc, h⟩ := h
    obtain ⟨rfl, hlen⟩ := of_decide_eq_true hc
    have hsrc := src_of hE ht2 hd
    rw [hv] at hs
    obtain ⟨ad, hs⟩ := hs
    have hR : inR kd ys := by obtain ⟨_, _, _, _, _, h, _⟩ := hd; exact h
    refine ⟨_, _, h, ?_⟩
    by_cases h0 : ys.length = 0
    · have hy : ys = [] := List.eq_nil_of_length_eq_zero h0
      subst hy
      obtain ⟨i1, hi1, hsz⟩ : ∃ i, P.info? e = some i ∧ i.size = 1 := by
        have h1 := (hE.ty _ _ he).1
        cases hi : P.info? e with
        | none => simp [hi] at h1
        | some i => exact ⟨i, rfl, by simpa [hi, Ty.size] using h1⟩
      have hrun := run_append_nothing (P := P) w t tx ty e i1 (hE.ty _ _ ht).2.2 hi1 ad 0 0 (Nat.le_refl _) (a.eval x) (by rw [hsz]; exact hsrc)
      refine fin (by rw [hs]; exact hrun) ?_
      have he' : Eff ρ m w ([], []) (.o (.f m.length)) (m ++ [(.mine, .w kd 0 [])]) (.slice ad 0 0) w ρ := by
        refine Eff.ext _ ρ _ _ w (Below.refl _ _) (fun _ _ => rfl) ?_ ?_
        · have hdom : ρ m.length = none := hI.dom _ (Nat.le_refl _)
          have one : ∀ {j : Nat} {p : Own × Blk}, ([(Own.mine, Blk.w kd 0 [])] : Mem)[j]? = some p → j = 0 ∧ p = (.mine, .w kd 0 []) := by
            intro j p h
            cases j with
            | zero => simp at h; exact ⟨rfl, h.symm⟩
            | succ j => simp at h
          refine ⟨?_, ?_, ?_, ?_, ?_, ?_, ?_⟩
          · intro j s b h
            obtain ⟨rfl, h⟩ := one h
            cases h
            exact ⟨rfl, Nat.zero_le _, fun _ h => (by cases h), .inl rfl⟩
          · intro j b h
            obtain ⟨rfl, h⟩ := one h
            exact ⟨fun c o hc => (by rw [Nat.add_zero, hdom] at hc; cases hc), fun c o hc => (by rw [Nat.add_zero, hdom] at hc; cases hc)⟩
          · intro j b j' c o o' h h' _ _
            obtain ⟨rfl, _⟩ := one h
            simp at h'
            omega
          · intro j b h
            obtain ⟨_, h⟩ := one h
            cases h
          · intro j b h
            obtain ⟨_, h⟩ := one h
            cases h
          · intro j s b h
            obtain ⟨_, h⟩ := one h
            cases h
            intro e
            cases e
          · intro j c o h hc
            have : j = 0 := by simp at h; omega
            subst this
            rw [Nat.add_zero, hdom] at hc
            cases hc
        · refine ⟨by simp, fun n hn => ?_⟩
          have : n = 0 := by simp [blkN] at hn; exact hn.symm
          subst this
          exact ⟨by simp, ad, 0, rfl, Nat.le_refl _, Nat.zero_le _, .inl rfl, fun _ => .inl rfl⟩
      obtain ⟨g1, g2, g3⟩ := hI.eff he'
      exact ⟨ρ, g1, g2, g3⟩
    · obtain ⟨cap, cs, hrun, k1, k2, k3⟩ := grow_run hE ht he hsrc ty ad 0 [] (by cases ad <;> first | exact run_firstCells_none _ _ _ _ _ | exact run_firstCells_some _ _ _ _ _ _ [] (by simp) (by simp)) (by simp; omega) (by simpa using hlen)
      simp only [List.length_nil, Nat.zero_add, List.nil_append] at hrun k1 k2 k3
      obtain ⟨ρ', g1, g2, g3⟩ := new_row hI k1 k2 (by unfold lim; omega) hR k3
      exact fin (by rw [hs]; exact hrun) ⟨ρ', g1, g2, g3⟩
  · rename_i i hv
    split at h
    case h_2 => cases h
    rename_i kx nx xs hm
    replace h := cond_none h
    obtain ⟨hc, h⟩ := h
    obtain ⟨rfl, rfl, hne, hlen⟩ := of_decide_eq_true hc
    refine ⟨_, _, h, ?_⟩
    have hsrc := src_of hE ht2 hd
    have hRy : inR kx ys := by obtain ⟨_, _, _, _, _, h, _⟩ := hd; exact h
    rw [hv] at hs
    obtain ⟨_, hs⟩ := hs
    obtain ⟨_, ad, cap, hsv, hcap, _, _, hmc⟩ := hs nx (by unfold blkN; rw [hm])
    obtain ⟨hxl, _, hRx, hrange⟩ := hI.blk i _ _ hm
    have hmc := hmc ⟨_, hm⟩
    have hR : inR kx (xs ++ ys) := fun z hz => (List.mem_append.1 hz).elim (hRx z) (hRy z)
    obtain ⟨i1, hi1, hsz1⟩ : ∃ i, P.info? e = some i ∧ i.size = 1 := by
      have h1 := (hE.ty _ _ he).1
      cases hi : P.info? e with
      | none => simp [hi] at h1
      | some i => exact ⟨i, rfl, by simpa [hi, Ty.size] using h1⟩
    have hu : P.underlying t = some (.slice e) := (hE.ty _ _ ht).2.2
    have hlen3 : (xs ++ ys).length = nx + ys.length := by simp; omega
    by_cases hroom : nx + ys.length ≤ cap
    · have hil : i < m.length := (List.getElem?_eq_some_iff.1 hm).1
      rcases hmc with hc0 | ⟨b, hb1, hb2, hb3⟩
      · have hx0 : xs = [] := List.eq_nil_of_length_eq_zero (by omega)
        have hy0 : ys = [] := List.eq_nil_of_length_eq_zero (by omega)
        have hn0 : nx = 0 := by omega
        subst hx0
        subst hy0
        subst hn0
        subst hc0
        have hrun := run_append_nothing (P := P) w t tx ty e i1 hu hi1 ad 0 0 (Nat.le_refl _) (a.eval x) (by rw [hsz1]; exact hsrc)
        obtain ⟨g1, g2⟩ := hI.move hm (.w kx 0 []) (by intro e; cases e) ⟨rfl, Nat.zero_le _, fun _ h => (by cases h), .inl rfl⟩
        refine fin (by rw [hsv]; exact hrun) ⟨_, g1, g2, by simp, fun n hn => ?_⟩
        have : n = 0 := by simp [blkN] at hn; exact hn.symm
        subst this
        exact ⟨by simp, ad, 0, rfl, Nat.le_refl _, Nat.zero_le _, .inl rfl, fun _ => .inl rfl⟩
      · subst hb2
        have hr0 : w.rangeAt b 0 (xs.map (Value.int kx)) := by
          rcases hrange with h0 | ⟨b', o, h1, h2⟩
          · have : xs = [] := List.eq_nil_of_length_eq_zero (by omega)
            subst this
            intro j v hj
            simp at hj
          · rw [hb1] at h1
            cases h1
            exact h2
        have hwf : wfL (xs.map (Value.int kx) ++ ys.map (Value.int kx)) := by
          intro v hv
          rw [← List.map_append] at hv
          obtain ⟨z, hz, rfl⟩ := List.mem_map.1 hv
          exact hR z hz
        obtain ⟨q1, q2, q3, q4⟩ := push_put (xs.map (Value.int kx)) (ys.map (Value.int kx)) hm hb1 (hI.mine i _ hm).1 hr0 (by simp; omega) hwf
        have hrun := run_append_room_src w t tx ty e i1 hu hi1 b 0 nx cap (a.eval x) ys.length (ys.map (Value.int kx)) (by rw [hsz1]; exact hsrc) hroom
          (fun j hj => by have := q1 j hj; rw [hsz1]; simpa [hxl] using this) (fun j hj => by have := q2 j hj; rw [hsz1]; simpa [hxl] using this)
        have hidx : 0 + nx * i1.size = (xs.map (Value.int kx)).length := by rw [hsz1]; simp; omega
        rw [hidx] at hrun
        obtain ⟨g1, g2, _⟩ := hI.eff q4
        have hm1 : (m.set i (Own.mine, Blk.c (xs.map (Value.int kx) ++ ys.map (Value.int kx))))[i]? = some (.mine, .c (xs.map (Value.int kx) ++ ys.map (Value.int kx))) := List.getElem?_set_self hil
        have hmv := g1.move hm1 (.w kx (nx + ys.length) (xs ++ ys)) (by intro e; cases e) ⟨hlen3, by unfold lim; omega, hR, .inr ⟨b, 0, by rw [nameAs, if_pos rfl, hb1], by rw [List.map_append]; exact q3⟩⟩
        rw [List.set_set, List.length_set] at hmv
        obtain ⟨k1, k2⟩ := hmv
        refine fin (by rw [hsv]; exact hrun) ⟨_, k1, fun x rx hx => k2 x rx (g2 x rx hx), ?_⟩
        refine ⟨by simp, fun n hn => ?_⟩
        have : n = nx + ys.length := by simp [blkN] at hn; omega
        subst this
        refine ⟨by simp, _, cap, rfl, hroom, by unfold lim; omega, .inr ⟨b, 0, by rw [nameAs, if_pos rfl, hb1], rfl⟩, fun _ => .inr ⟨b, by rw [nameAs, if_pos rfl, hb1], rfl, ?_⟩⟩
        have hz : bsize (w.setCells b (xs.map (Value.int kx)).length (ys.map (Value.int kx))) b = bsize w b := by
          obtain ⟨_, c, e0, hc0⟩ := (hI.mine i _ hm).1 b 0 hb1
          obtain ⟨c', hc', hs'⟩ := heap_setCells b (ys.map (Value.int kx)) (xs.map (Value.int kx)).length w c e0 (0, 0) hc0
          unfold bsize
          rw [hc0, hc']
          exact hs'
        rw [hz]
        exact hb3
    · have hold : (Builtin.firstCells 1 xs.length (.slice ad xs.length cap)).run P w.drew = .ok (xs.map (Value.int kx)).toArray w.drew := by
        cases ad with
        | none =>
          rcases hrange with h0 | ⟨b, o, h1, h2⟩
          · have : xs = [] := List.eq_nil_of_length_eq_zero (by omega)
            subst this
            exact run_firstCells_none _ _ _ _ _
          · rcases hmc with h0 | ⟨b', h1', h2', _⟩
            · have : xs = [] := List.eq_nil_of_length_eq_zero (by omega)
              subst this
              exact run_firstCells_none _ _ _ _ _
            · cases h2'
        | some ad =>
          refine run_firstCells_some _ _ _ _ _ _ _ (by simp) (fun j u hj => ?_)
          rcases hrange with h0 | ⟨b, o, h1, h2⟩
          · have : xs = [] := List.eq_nil_of_length_eq_zero (by omega)
            subst this
            simp at hj
          · rcases hmc with h0 | ⟨b', h1', h2', _⟩
            · have : xs = [] := List.eq_nil_of_length_eq_zero (by omega)
              subst this
              simp at hj
            · rw [h1] at h1'
              cases h1'
              cases h2'
              have := h2 j u hj
              simpa [Addr.add_lit] using this
      obtain ⟨cap', cs, hrun, k1, k2, k3⟩ := grow_run hE ht he hsrc ty ad cap xs hold (by omega) (by omega)
      obtain ⟨hIK, hKK⟩ := hI.kill hm
      have hlen2 : (xs ++ ys).length = nx + ys.length := by simp; omega
      obtain ⟨ρ', g1, g2, g3⟩ := new_row hIK (by rw [hlen2]; omega) k2 (by rw [hlen2]; unfold lim; omega) hR k3
      rw [hlen2] at g1 g2 g3
      rw [List.length_set] at g3
      refine fin (by rw [hsv, ← hxl]; exact hrun) ⟨ρ', g1, fun x rx hx => g2 x rx (hKK x rx hx), ?_⟩
      rw [hxl]
      exact g3
  · cases h

theorem splice_map {α β : Type} (f : α → β) (xs ys : List α) (k : Nat) : (splice xs k ys).map f = splice (xs.map f) k (ys.map f) := by
  simp [splice, List.map_take, List.map_drop]
theorem splice_nil {α : Type} (xs : List α) (k : Nat) : splice xs k [] = xs := by simp [splice]
theorem length_splice {α : Type} (xs ys : List α) (k : Nat) (h : k + ys.length ≤ xs.length) : (splice xs k ys).length = xs.length := by simp [splice]; omega

theorem copy_core (hE : EnvOK P E) (hI : Inv B w0 ab ρ m w) (s x : Operand) (t tx : TypeId) {e : TypeId} {kd : IntKind} (ht : E.ty t = some (.sl e)) (he : E.ty e = some (.i kd)) {i k n n' : Nat} {xs : List Int} (hm : m[i]? = some (.mine, .w kd n' xs))
    (hs : SlR ρ m w i k n (a.eval s)) (hx : VR ρ m w (opnd tm x) (a.eval x)) (hb : Touch ρ m w (nameOf (opnd tm x)).toList)
    (h : copyK m i k n kd n' xs (opnd tm x) κ = some r) : ∃ v m', κ v m' = some r ∧ Does P ⟨dst, .call ⟨.builtin .copy, #[s, x], #[t, tx]⟩, ty, pos, after, guard⟩ a w fun rv w' => ∃ ρ', Inv B w0 ab ρ' m' w' ∧ Keeps ρ m w ρ' m' w' ∧ VR ρ' m' w' v rv := by
  have fin : ∀ {rv : Value} {w' : World} {post : Value → World → Prop}, (Builtin.copy_ #[t, tx] ty #[a.eval s, a.eval x]).run P w = .ok rv w' → post rv w' → Does P ⟨dst, .call ⟨.builtin .copy, #[s, x], #[t, tx]⟩, ty, pos, after, guard⟩ a w post := by
    intro rv w' post hr hp
    refine does_value (w' := w') (rv := rv) ?_ hp
    rw [run_builtin]
    simp [builtin, hr]
  unfold copyK at h
  replace h := content_dr hx hb h
  obtain ⟨d, h, hd, -⟩ := h
  split at h
  case h_2 => cases h
  rename_i kd' ys
  replace h := cond_none h
  obtain ⟨hc, h⟩ := h
  obtain ⟨rfl, hkn, hne⟩ := of_decide_eq_true hc
  refine ⟨_, _, h, ?_⟩
  have hu : P.underlying t = some (.slice e) := (hE.ty _ _ ht).2.2
  have hsz : (P.info? e).map (·.size) = some 1 := by simpa [Ty.size] using (hE.ty _ _ he).1
  obtain ⟨hil, ad, cap, hsv, hncap, hnlim, _, hmc⟩ := hs
  have hmc := hmc ⟨_, hm⟩
  obtain ⟨hxl, hlim, hRx, hrange⟩ := hI.blk i _ _ hm
  have hRy : inR kd ys := by obtain ⟨_, _, _, _, _, h, _⟩ := hd; exact h
  have hylim : ys.length ≤ lim := by obtain ⟨_, _, _, _, h, _⟩ := hd; exact h
  obtain ⟨ad2, cap2, hxv, hy1, hy2, _, hyr⟩ := hd
  have hvr : ∀ (ρ' : Nm) (m' : Mem) (w' : World), VR ρ' m' w' (.o (.p (.int .i64 ((min ys.length n : Nat) : Int)))) (goInt ((min ys.length n : Nat) : Int)) := by
    intro ρ' m' w'
    refine ⟨rfl, ?_⟩
    have : min ys.length n ≤ 2 ^ 47 := Nat.le_trans (Nat.min_le_left _ _) hylim
    generalize min ys.length n = q at this
    have h47 : (2 : Nat) ^ 47 = 140737488355328 := by decide
    rw [h47] at this
    simp [wfB, IntKind.min, IntKind.max, IntKind.signed, IntKind.bits]
    omega
  by_cases h0 : (ys.take n).length = 0
  · have hys : ys.take n = [] := List.eq_nil_of_length_eq_zero h0
    have hmin : min ys.length n = 0 := by simpa [Nat.min_comm] using h0
    rw [hys, splice_nil, set_same' m i _ hm]
    have hrun := run_copy_none (P := P) w t tx ty e ad ad2 n cap ys.length cap2 hu hsz hmin
    refine fin (by rw [hsv, hxv]; exact hrun) ⟨ρ, hI, fun _ _ h => h, ?_⟩
    have := hvr ρ m w
    rw [hmin] at this ⊢
    exact this
  · have hlen : (ys.take n).length = min ys.length n := by simp [Nat.min_comm]
    have hn0 : n ≠ 0 := by intro e; subst e; simp at h0
    have hy0 : ys.length ≠ 0 := by intro e; simp at h0; simp [List.eq_nil_of_length_eq_zero e] at h0
    rcases hmc with hmc | ⟨b, hb1, hb2, hb3⟩
    · omega
    subst hb2
    rcases hyr with hyr | ⟨b2, o2, hy3, hy4⟩
    · exact absurd hyr hy0
    subst hy3
    rcases hrange with hr | ⟨b', o', h1, hr⟩
    · omega
    rw [hb1] at h1
    cases h1
    have hq : splice (xs.map (Value.int kd)) k ((ys.take n).map (Value.int kd)) = (splice xs k (ys.take n)).map (Value.int kd) := (splice_map _ _ _ _).symm
    have hfit : k + ((ys.take n).map (Value.int kd)).length ≤ (xs.map (Value.int kd)).length := by rw [List.length_map, List.length_map, hlen]; have := Nat.min_le_right ys.length n; omega
    obtain ⟨g1, g2⟩ := eff_put (fr := ([i], [])) (blk' := .w kd n' (splice xs k (ys.take n))) (k := k) ((ys.take n).map (Value.int kd)) (by simp) hm hb1 (hI.mine i _ hm).1 hr hfit rfl (fun _ _ => trivial)
      (fun w' hw' => ⟨by rw [length_splice _ _ _ (by rw [List.length_map, List.length_map] at hfit; exact hfit)]; exact hxl, hlim, fun q hq => by
        simp only [splice, List.mem_append] at hq
        rcases hq with (hq | hq) | hq
        · exact hRx q (List.mem_of_mem_take hq)
        · exact hRy q (List.mem_of_mem_take hq)
        · exact hRx q (List.mem_of_mem_drop hq), .inr ⟨b, 0, hb1, by rw [← hq]; exact hw'⟩⟩) (by intro e; cases e) (by intro _ _ _ e; cases e; unfold blkN; rw [hm])
    obtain ⟨k1, k2, _⟩ := hI.eff g2
    have one : ∀ v ∈ (ys.take n).map (Value.int kd), v.oneCell' = true := by
      intro u hu
      obtain ⟨_, _, rfl⟩ := List.mem_map.1 hu
      rfl
    have hst := run_storeCells_cells (P := P) b k ((ys.take n).map (Value.int kd)) 0 w (fun j hj => by simpa using (g1 j hj).1) (fun j hj => by simpa using (g1 j hj).2) one
    have hl := run_loadCells_list (P := P) w ⟨b2, o2, none⟩ ((ys.take n).map (Value.int kd)) (fun j v hj => by
      have hj2 : j < n := by
        have := (List.getElem?_eq_some_iff.1 hj).1
        simp at this
        omega
      rw [List.map_take, List.getElem?_take_of_lt hj2] at hj
      have := hy4 j v hj
      simpa [Addr.add_lit] using this)
    have hmn : ((ys.take n).map (Value.int kd)).length = ys.length.min n := by rw [List.length_map, hlen]
    rw [hmn] at hl
    have hrun : (Builtin.copy_ #[t, tx] ty #[.slice (some ⟨b, k, none⟩) n cap, .slice (some ⟨b2, o2, none⟩) ys.length cap2]).run P w = .ok (goInt ((min ys.length n : Nat) : Int)) (w.setCells b k ((ys.take n).map (Value.int kd))) := by
      generalize (ys.take n).map (Value.int kd) = cs at hl hst
      cases hq : P.info? e with
      | none => simp [hq] at hsz
      | some i =>
        have hi : i.size = 1 := by simpa [hq] using hsz
        simp only [Nat.add_zero] at hst
        simp [Builtin.copy_, run_underlying hu, Builtin.lenOf, Builtin.firstCells, sizeOf, typeInfo, hq, hi, hl, hst]
    exact fin (by rw [hsv, hxv]; exact hrun) ⟨ρ, k1, k2, hvr _ _ _⟩

theorem copy_owes (hE : EnvOK P E) (hI : Inv B w0 ab ρ m w) (s x : Operand) (t tx : TypeId) (hs : VR ρ m w (opnd tm s) (a.eval s)) (hx : VR ρ m w (opnd tm x) (a.eval x)) (hb : Touch ρ m w (nameOf (opnd tm x)).toList)
    (h : builtinK E .copy [t, tx] m [opnd tm s, opnd tm x] κ = some r) : ∃ v m', κ v m' = some r ∧ Does P ⟨dst, .call ⟨.builtin .copy, #[s, x], #[t, tx]⟩, ty, pos, after, guard⟩ a w fun rv w' => ∃ ρ', Inv B w0 ab ρ' m' w' ∧ Keeps ρ m w ρ' m' w' ∧ VR ρ' m' w' v rv := by
  have kind : ∀ {kd : IntKind}, kindOf E t = some kd → ∃ e, E.ty t = some (.sl e) ∧ E.ty e = some (.i kd) := by
    intro kd hk
    unfold kindOf at hk
    split at hk
    · rename_i e ht
      split at hk
      · rename_i k he
        cases hk
        exact ⟨e, ht, he⟩
      · cases hk
    · cases hk
  unfold builtinK at h
  split at h <;> first | (cases h; done) | skip
  · rename_i hc _; cases hc
  · rename_i hc _; cases hc
  · rename_i hc _; cases hc
  · rename_i hc _; cases hc
  · rename_i i y _ e2
    obtain ⟨hv, e3⟩ := List.cons.inj e2
    obtain ⟨hv2, _⟩ := List.cons.inj e3
    subst hv2
    rw [hv] at hs
    split at h
    case h_2 => cases h
    rename_i t' tl kd n xs e4 hm
    cases e4
    replace h := cond_none h
    obtain ⟨hk, h⟩ := h
    obtain ⟨e, ht, he⟩ := kind (of_decide_eq_true hk)
    exact copy_core hE hI s x _ tx ht he hm (hs.2 n (by unfold blkN; rw [hm])) hx hb h
  · rename_i i k n y _ e2
    obtain ⟨hv, e3⟩ := List.cons.inj e2
    obtain ⟨hv2, _⟩ := List.cons.inj e3
    subst hv2
    rw [hv] at hs
    split at h
    case h_2 => cases h
    rename_i t' tl kd n' xs e4 hm
    cases e4
    replace h := cond_none h
    obtain ⟨hk, h⟩ := h
    obtain ⟨e, ht, he⟩ := kind (of_decide_eq_true hk)
    exact copy_core hE hI s x _ tx ht he hm hs hx hb h
end
end Go.Vm
