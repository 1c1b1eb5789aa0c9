/-
  A drawn region comes to what the text's order comes to: operation by operation. No statement is proved here.
-/
import Derived.Test.YtmjbikbakkbajaaVmU
namespace Go.Vm
open Go.RowKit (Below)
variable {P : Program}

theorem at_congr {m m' : Mem} {n : Nat} (h : m[n]? = m'[n]?) : (mineAt m n ↔ mineAt m' n) ∧ blkN m n = blkN m' n := by
  refine ⟨?_, ?_⟩
  · unfold mineAt
    rw [h]
  · unfold blkN
    rw [h]
theorem eff_cases {ρ ρ' : Nm} {m m' : Mem} {w w' : World} {fr : List Nat × List Nat} {v : V} {rv : Value} (h : Eff ρ m w fr v m' rv w' ρ') :
    (∃ nb, m' = m ++ nb ∧ Below w.heap.size w w' ∧ (∀ n, n < m.length ∨ m.length + nb.length ≤ n → ρ' n = ρ n) ∧ NewOK ρ m w w' fr.2 ρ' nb ∧ VR ρ' m' w' v rv) ∨
    ∃ i b blk blk', m' = m.set i (.mine, blk') ∧ ρ' = ρ ∧ v = .o .u ∧ rv = undef ∧ i ∈ fr.1 ∧ m[i]? = some (.mine, blk) ∧ ρ i = some (b, 0) ∧ w'.heap.size = w.heap.size ∧ (w'.os = w.os ∧ w'.tape = w.tape ∧ w'.output = w.output) ∧
      (∀ k, k ≠ b → w'.heap[k]? = w.heap[k]?) ∧ bsize w' b = bsize w b ∧ BlkOK ρ w' i blk' ∧ MineOK ρ w' i ∧ blk' ≠ .dead ∧ (∀ k n xs, blk' = .w k n xs → blkN m i = some n) := by
  cases h with
  | ext nb ρ' v rv w' hB hρ hN hV => exact .inl ⟨nb, rfl, hB, hρ, hN, hV⟩
  | put i b blk blk' w' hfw hm hb hs he hf hz hbk hmn hd hn => exact .inr ⟨i, b, blk, blk', rfl, rfl, rfl, rfl, hfw, hm, hb, hs, he, hf, hz, hbk, hmn, hd, hn⟩

section
variable {E : Env} {B : Nat} {w0 : World} {ab : Nat → Prop} {ops : Array Oper} {tms : Nat → List V} {ms : Nat → Mem} {vs : Nat → V} {ex : Nat → Bool}
variable {D : Nat → Prop} {ρ : Nm} {mD : Mem} {a : Act} {w : World} {i : Nat} {o : Oper}

theorem like_any (hT : Tr P ops tms ms vs ex) {s τ n : Nat} (hs : s ≤ ops.size) (hτ : τ ≤ ops.size) (h1 : n < (ms s).length) (h2 : n < (ms τ).length) : (mineAt (ms s) n ↔ mineAt (ms τ) n) ∧ blkN (ms s) n = blkN (ms τ) n := by
  rcases Nat.le_total s τ with h | h
  · obtain ⟨g1, g2⟩ := (tr_mono hT h hτ).2 n h1
    exact ⟨g1.symm, g2.symm⟩
  · exact (tr_mono hT h hs).2 n h2
theorem born_size (hT : Tr P ops tms ms vs ex) {n : Nat} (h : born ms ops.size D n) : n < (ms ops.size).length := by
  rcases h with h | ⟨q, h1, _, _, h2⟩
  · exact Nat.lt_of_lt_of_le h (tr_mono hT (Nat.zero_le _) (Nat.le_refl _)).1
  · exact Nat.lt_of_lt_of_le h2 (tr_mono hT (show q + 1 ≤ ops.size by omega) (Nat.le_refl _)).1
/-- What was born is not born again. -/
theorem born_out (hT : Tr P ops tms ms vs ex) (hi : ¬ D i) (hlt : i < ops.size) {n : Nat} (h : born ms ops.size D n) : n < (ms i).length ∨ (ms (i + 1)).length ≤ n := by
  rcases h with h | ⟨q, h1, h2, h3, h4⟩
  · exact .inl (Nat.lt_of_lt_of_le h (tr_mono hT (Nat.zero_le _) (by omega)).1)
  · rcases Nat.lt_trichotomy q i with h | rfl | h
    · exact .inl (Nat.lt_of_lt_of_le h4 (tr_mono hT (show q + 1 ≤ i from h) (by omega)).1)
    · exact absurd h2 hi
    · exact .inr (Nat.le_trans (tr_mono hT (show i + 1 ≤ q from h) (by omega)).1 h3)

theorem dr_skip (hT : Tr P ops tms ms vs ex) (hc : calm ops = true) (hD : Dr B w0 ab ops tms ms ex D ρ mD a w) (ho : ops[i]? = some o) (hi : ¬ D i) (hr : ∀ e ∈ o.after, Region.binds .any e = true → D e.on) (hx : ex i = false) :
    Dr B w0 ab ops tms ms ex (plus D i) ρ mD (a.put o.dst undef) w := by
  have hlt : i < ops.size := (Array.getElem?_eq_some_iff.1 ho).1
  obtain ⟨hv, hm⟩ := (tr_step hT ho).skip hx
  have hb : ∀ n, born ms ops.size (plus D i) n → born ms ops.size D n := by
    intro n h
    rcases h with h | ⟨q, h1, h2 | h2, h3, h4⟩
    · exact .inl h
    · exact .inr ⟨q, h1, h2, h3, h4⟩
    · subst h2; rw [hm] at h4; omega
  have hne : ∀ q n, writes ops tms ex q n → q ≠ i := by
    rintro q n ⟨o', h1, h2, h3⟩ rfl
    rw [hx] at h2
    cases h2
  refine ⟨hD.inv, hD.len, by rw [size_put]; exact hD.size, by rw [defers_put]; exact hD.defers, dr_closed hD ho hr, dr_slots hT hc hD ho hi (fun _ _ h _ => h) (by rw [hv]; exact ⟨[], rfl, trivial⟩) (by rw [hv]; intro n hn; simp [namesV] at hn), ?_, ?_, ?_⟩
  · intro n τ hτ hn hbn hcons
    exact hD.cells n τ hτ hn (hb n hbn) fun q hq => by
      rw [← hcons q hq]
      exact ⟨.inl, fun h => h.resolve_right (hne q n hq)⟩
  · rintro q n (h | rfl) hw
    · exact born_plus (hD.wborn q n h hw)
    · exact absurd rfl (hne q n hw)
  · exact fun n τ hτ hn hbn => hD.like n τ hτ hn (hb n hbn)

theorem dr_next (hT : Tr P ops tms ms vs ex) (hc : calm ops = true) (hD : Dr B w0 ab ops tms ms ex D ρ mD a w) (ho : ops[i]? = some o) (hi : ¬ D i) (hr : ∀ e ∈ o.after, Region.binds .any e = true → D e.on) (hx : ex i = true)
    {ρ' : Nm} {mD' : Mem} {w' : World} {rv : Value} (hI : Inv B w0 ab ρ' mD' w') (hlen : mD'.length = mD.length)
    (hA : ∀ n, (ms i).length ≤ n → n < (ms (i + 1)).length → mD'[n]? = (ms (i + 1))[n]?)
    (hB : ∀ n, n ∈ (foot (tms i) o.op).1 → mD'[n]? = (ms (i + 1))[n]?)
    (hC : ∀ n, n < (ms i).length ∨ (ms (i + 1)).length ≤ n → n ∉ (foot (tms i) o.op).1 → mD'[n]? = mD[n]?)
    (hρ : ∀ n, n < (ms i).length ∨ (ms (i + 1)).length ≤ n → ρ' n = ρ n) (hsz : ∀ n b o, ρ n = some (b, o) → bsize w' b = bsize w b) (hv : VR ρ' (ms (i + 1)) w' (vs i) rv) :
    Dr B w0 ab ops tms ms ex (plus D i) ρ' mD' (a.put o.dst rv) w' := by
  have hlt : i < ops.size := (Array.getElem?_eq_some_iff.1 ho).1
  have hstep := tr_step hT ho
  have hle : (ms i).length ≤ (ms (i + 1)).length := (tr_mono hT (Nat.le_succ i) (by omega)).1
  have hfl : ∀ n, n ∈ (foot (tms i) o.op).1 → n < (ms (i + 1)).length := fun n hn => Nat.lt_of_lt_of_le (dr_foot hT hc hD ho hi hr hx (List.mem_append_left _ hn)).2.1 hle
  have like : ∀ n τ, τ ≤ ops.size → n < (ms τ).length → born ms ops.size (plus D i) n → (mineAt mD' n ↔ mineAt (ms τ) n) ∧ blkN mD' n = blkN (ms τ) n := by
    intro n τ hτ hn hb
    have viaNext : n < (ms (i + 1)).length → mD'[n]? = (ms (i + 1))[n]? → (mineAt mD' n ↔ mineAt (ms τ) n) ∧ blkN mD' n = blkN (ms τ) n := by
      intro h1 h2
      obtain ⟨g1, g2⟩ := at_congr h2
      obtain ⟨k1, k2⟩ := like_any hT (show i + 1 ≤ ops.size by omega) hτ h1 hn
      exact ⟨g1.trans k1, g2.trans k2⟩
    have old : born ms ops.size D n → (mineAt mD' n ↔ mineAt (ms τ) n) ∧ blkN mD' n = blkN (ms τ) n := by
      intro hb
      by_cases hf : n ∈ (foot (tms i) o.op).1
      · exact viaNext (hfl n hf) (hB n hf)
      · obtain ⟨g1, g2⟩ := at_congr (hC n (born_out hT hi hlt hb) hf)
        obtain ⟨k1, k2⟩ := hD.like n τ hτ hn hb
        exact ⟨g1.trans k1, g2.trans k2⟩
    rcases hb with hb | ⟨q, h1, h2 | rfl, h3, h4⟩
    · exact old (.inl hb)
    · exact old (.inr ⟨q, h1, h2, h3, h4⟩)
    · exact viaNext h4 (hA n h3 h4)
  refine ⟨hI, by rw [hlen]; exact hD.len, by rw [size_put]; exact hD.size, by rw [defers_put]; exact hD.defers, dr_closed hD ho hr, dr_slots hT hc hD ho hi ?_ ?_ ?_, ?_, ?_, like⟩
  · intro x rx hxr hxn
    refine hxr.swap fun n hn => ?_
    have hb := hxn n hn
    have hs := born_size hT hb
    obtain ⟨g1, g2⟩ := like n ops.size (Nat.le_refl _) hs (born_plus hb)
    obtain ⟨k1, k2⟩ := hD.like n ops.size (Nat.le_refl _) hs hb
    exact ⟨by rw [hlen, hD.len]; exact hs, fun h => k1.2 (g1.1 h), fun c h => by rw [k2, ← g2]; exact h, fun b o hb' => ⟨by rw [hρ n (born_out hT hi hlt hb), hb'], hsz n b o hb'⟩⟩
  · refine hv.swap fun n hn => ?_
    have hl := vr_names hv n hn
    have hs : n < (ms ops.size).length := Nat.lt_of_lt_of_le hl (tr_mono hT (show i + 1 ≤ ops.size by omega) (Nat.le_refl _)).1
    have hb : born ms ops.size (plus D i) n := by
      rcases (hstep.shape hx).1 n hn with h | ⟨x, h1, h2⟩
      · exact .inr ⟨i, hlt, .inr rfl, h.1, h.2⟩
      · exact born_plus ((dr_opnd hc hD ho hi hr h1).2 n h2)
    obtain ⟨g1, g2⟩ := like n (i + 1) (by omega) hl hb
    exact ⟨by rw [hlen, hD.len]; exact hs, g1.1, fun c h => by rw [← g2]; exact h, fun b o hb' => ⟨hb', rfl⟩⟩
  · intro n hn
    rcases (hstep.shape hx).1 n hn with h | ⟨x, h1, h2⟩
    · exact .inr ⟨i, hlt, .inr rfl, h.1, h.2⟩
    · exact born_plus ((dr_opnd hc hD ho hi hr h1).2 n h2)
  · intro n τ hτ hn hb hcons
    have old : born ms ops.size D n → mD'[n]? = (ms τ)[n]? := by
      intro hb
      by_cases hf : n ∈ (foot (tms i) o.op).1
      · have hw : writes ops tms ex i n := ⟨o, ho, hx, hf⟩
        have hiτ : i < τ := (hcons i hw).1 (.inr rfl)
        rw [hB n hf]
        refine (tr_same hT (hfl n hf) hiτ hτ fun q h1 h2 hq => ?_).symm
        have hDq : D q := ((hcons q hq).2 h2).resolve_right (by omega)
        obtain ⟨o', ho', hx', hn'⟩ := hq
        refine hi (hD.closed i q hDq ((tr_pair hT ho ho' h1 hx hx').resolve_right fun hfr => ?_))
        exact (hfr.1 n hf).1 hn'
      · rw [hC n (born_out hT hi hlt hb) hf]
        refine hD.cells n τ hτ hn hb fun q hq => ?_
        rw [← hcons q hq]
        refine ⟨.inl, fun h => h.resolve_right ?_⟩
        rintro rfl
        obtain ⟨o', ho', _, hn'⟩ := hq
        rw [ho] at ho'
        cases ho'
        exact hf hn'
    rcases hb with hb | ⟨q, h1, h2 | rfl, h3, h4⟩
    · exact old (.inl hb)
    · exact old (.inr ⟨q, h1, h2, h3, h4⟩)
    · rw [hA n h3 h4]
      have hqτ : q + 1 ≤ τ := by
        refine Nat.lt_of_not_le fun h => ?_
        have := (tr_mono hT h (by omega)).1
        omega
      refine (tr_same hT h4 hqτ hτ fun p k1 k2 hp => ?_).symm
      have hDp : D p := ((hcons p hp).2 k2).resolve_right (by omega)
      rcases born_out hT hi hlt (hD.wborn p n hDp hp) with h | h <;> omega
  · rintro q n (h | rfl) hw
    · exact born_plus (hD.wborn q n h hw)
    · obtain ⟨o', ho', _, hn'⟩ := hw
      rw [ho] at ho'
      cases ho'
      exact born_plus (dr_foot hT hc hD ho hi hr hx (List.mem_append_left _ hn')).1

theorem dr_go (hT : Tr P ops tms ms vs ex) (hc : calm ops = true) (hD : Dr B w0 ab ops tms ms ex D ρ mD a w) (ho : ops[i]? = some o) (hi : ¬ D i) (hr : ∀ e ∈ o.after, Region.binds .any e = true → D e.on) (hx : ex i = true) :
    Does P o a w fun rv w' => ∃ ρ' mD', Dr B w0 ab ops tms ms ex (plus D i) ρ' mD' (a.put o.dst rv) w' := by
  have hlt : i < ops.size := (Array.getElem?_eq_some_iff.1 ho).1
  have hstep := tr_step hT ho
  have hfoot := fun n => dr_foot hT hc hD ho hi hr hx (n := n)
  have hlast : (ms (i + 1)).length ≤ mD.length := by rw [hD.len]; exact (tr_mono hT (show i + 1 ≤ ops.size by omega) (Nat.le_refl _)).1
  refine (hstep.eff hx ρ a w ?_ ?_).mono ?_
  · intro x hxo
    obtain ⟨g1, g2⟩ := dr_opnd hc hD ho hi hr hxo
    refine g1.swap fun n hn => ?_
    have hl : n < (ms i).length := by
      cases x with
      | tmp t => exact hstep.names t n hn
      | const v =>
        exfalso
        have h := vr_names (ρ := fun _ => none) (m := []) (w := w) (x := .o (constV v)) (vr_const v) n hn
        simp at h
      | global g => simp [opnd, namesV, nameOf] at hn
      | func f => simp [opnd, namesV, nameOf] at hn
    obtain ⟨k1, k2⟩ := hD.like n i (by omega) hl (g2 n hn)
    exact ⟨hl, k1.2, fun c h => by rw [k2]; exact h, fun b o hb => ⟨hb, rfl⟩⟩
  · intro n hn s b hb
    rw [← (hfoot n hn).2.2] at hb
    exact ⟨hD.inv.blk n s b hb, fun hs => by subst hs; exact (hD.inv.mine n b hb).1⟩
  · rintro rv w' ⟨ρ', he⟩
    rcases eff_cases he with ⟨nb, hm', hBel, hρ, hN, hV⟩ | ⟨i0, b, blk, blk', hm', rfl, hv, rfl, hfw, hm, hb, hs, hos, hf, hz, hbk, hmn, hd, hn⟩
    · have hl1 : (ms (i + 1)).length = (ms i).length + nb.length := by rw [hm', List.length_append]
      have hlen : (ms i).length + nb.length ≤ mD.length := by omega
      refine ⟨ρ', splice mD (ms i).length nb, dr_next hT hc hD ho hi hr hx (hD.inv.fill hlen hBel hρ hN fun n hn => (hfoot n (List.mem_append_right _ hn)).2.2) (splice_length _ _ _ hlen) ?_ ?_ ?_ ?_ ?_ hV⟩
      · intro n h1 h2
        rw [get_splice _ _ _ _ hlen, if_pos ⟨h1, by omega⟩, hm', List.getElem?_append_right h1]
      · intro n hn'
        obtain ⟨_, h1, h2⟩ := hfoot n (List.mem_append_left _ hn')
        rw [get_splice _ _ _ _ hlen, if_neg (by omega), h2, hm', List.getElem?_append_left h1]
      · intro n h1 _
        rw [get_splice _ _ _ _ hlen, if_neg (by omega)]
      · intro n h1
        exact hρ n (by omega)
      · intro n b o hb
        unfold bsize
        rw [hBel.block b (hD.inv.lt n b o hb)]
    · have hf0 := hfoot i0 (List.mem_append_left _ hfw)
      have hmD : mD[i0]? = some (.mine, blk) := by rw [hf0.2.2, hm]
      have hl0 : i0 < mD.length := (List.getElem?_eq_some_iff.1 hmD).1
      have hl1 : (ms (i + 1)).length = (ms i).length := by rw [hm', List.length_set]
      have hblk : blkN mD i0 = blkN (ms i) i0 := (at_congr hf0.2.2).2
      obtain ⟨g1, _, _⟩ := hD.inv.eff (Eff.put (fr := (foot (tms i) o.op)) i0 b blk blk' w' hfw hmD hb hs hos hf hz hbk hmn hd (fun k n xs e => by rw [hblk]; exact hn k n xs e))
      refine ⟨ρ', mD.set i0 (.mine, blk'), dr_next hT hc hD ho hi hr hx g1 (by simp) ?_ ?_ ?_ (fun _ _ => rfl) ?_ (by rw [hv]; trivial)⟩
      · intro n h1 h2
        omega
      · intro n hn'
        rcases (hstep.shape hx).2 with ⟨h1, _⟩ | ⟨n0, _, h1, _⟩
        · rw [h1] at hfw; cases hfw
        · rw [h1] at hfw hn'
          simp only [List.mem_singleton] at hfw hn'
          subst hfw
          subst hn'
          rw [List.getElem?_set_self hl0, hm', List.getElem?_set_self (by omega)]
      · intro n _ hn'
        rw [List.getElem?_set_ne]
        rintro rfl
        exact hn' hfw
      · intro n b1 o1 hb1
        by_cases e : b1 = b
        · subst e; exact hz
        · unfold bsize
          rw [hf b1 e]
end
end Go.Vm
