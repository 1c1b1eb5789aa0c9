/-
  A drawn region comes to what the text's order comes to: whole. No statement is proved here.
-/
import Derived.Test.YtmjbikbakkbajaaVmV
namespace Go.Vm
open Go.RowKit (Below)
variable {P : Program}

section
variable {E : Env} {B : Nat} {w0 : World} {ab : Nat → Prop} {ops : Array Oper} {tms : Nat → List V} {ms : Nat → Mem} {vs : Nat → V} {ex : Nat → Bool}

theorem dr_start {ρ : Nm} {tm : List V} {m : Mem} {a : Act} {w : World} (hT : Tr P ops tms ms vs ex) (h0 : tms 0 = tm) (hm0 : ms 0 = m) (hS : St B w0 ab ρ tm m a w) :
    ∃ mD, Dr B w0 ab ops tms ms ex (fun _ => False) ρ mD a w := by
  subst h0
  subst hm0
  have hle := (tr_mono hT (Nat.zero_le ops.size) (Nat.le_refl _)).1
  have hb : ∀ n, born ms ops.size (fun _ => False) n → n < (ms 0).length := by
    rintro n (h | ⟨_, _, h, _⟩)
    · exact h
    · exact h.elim
  have hget : ∀ n, n < (ms 0).length → (ms 0 ++ List.replicate ((ms ops.size).length - (ms 0).length) (Own.old, Blk.dead))[n]? = (ms 0)[n]? := fun n hn => List.getElem?_append_left hn
  refine ⟨ms 0 ++ List.replicate ((ms ops.size).length - (ms 0).length) (.old, .dead), hS.inv.pad _, by simp; omega, hS.len, hS.defers, fun _ _ h => h.elim, ?_, ?_, fun _ _ h => h.elim, ?_⟩
  · intro t τ hτ hcons
    have hno : ∀ q, 0 ≤ q → q < τ → ¬ lays ops q t := fun q _ hq hl => (hcons q hl).2 hq
    rw [(tr_sameT hT (Nat.zero_le τ) hτ hno).2]
    have hv := hS.tms t
    exact ⟨hv.mono (fun _ _ _ _ h => ⟨h, rfl⟩) (StLe.append _ _), fun n hn => .inl (vr_names hv n hn)⟩
  · intro n τ hτ hn hbn hcons
    have h0 := hb n hbn
    rw [hget n h0]
    exact (tr_same hT h0 (Nat.zero_le τ) hτ fun q _ hq hw => (hcons q hw).2 hq).symm
  · intro n τ hτ hn hbn
    have h0 := hb n hbn
    obtain ⟨g1, g2⟩ := at_congr (hget n h0)
    obtain ⟨k1, k2⟩ := like_any hT (Nat.zero_le _) hτ h0 hn
    exact ⟨g1.trans k1, g2.trans k2⟩

theorem dr_end {D : Nat → Prop} {ρ : Nm} {mD : Mem} {a : Act} {w : World} (hT : Tr P ops tms ms vs ex) (hD : Dr B w0 ab ops tms ms ex D ρ mD a w) (hall : ∀ q, q < ops.size → D q) :
    St B w0 ab ρ (tms ops.size) (ms ops.size) a w := by
  have hborn : ∀ n, n < (ms ops.size).length → born ms ops.size D n := by
    intro n hn
    have key : ∀ k, k ≤ ops.size → n < (ms k).length → born ms ops.size D n := by
      intro k
      induction k with
      | zero => exact fun _ h => .inl h
      | succ k ih =>
        intro hk h
        by_cases h' : n < (ms k).length
        · exact ih (by omega) h'
        · exact .inr ⟨k, by omega, hall k (by omega), by omega, h⟩
    exact key _ (Nat.le_refl _) hn
  have hmem : mD = ms ops.size := by
    apply List.ext_getElem?
    intro n
    by_cases hn : n < (ms ops.size).length
    · exact hD.cells n ops.size (Nat.le_refl _) hn (hborn n hn) fun q ⟨o, ho, _, _⟩ => by
        have := (Array.getElem?_eq_some_iff.1 ho).1
        exact ⟨fun _ => this, fun _ => hall q this⟩
    · rw [List.getElem?_eq_none (by rw [hD.len]; omega), List.getElem?_eq_none (by omega)]
  subst hmem
  refine ⟨hD.inv, by rw [tr_len hT (Nat.le_refl _)]; exact hD.size, fun t => ?_, hD.defers⟩
  exact (hD.slots t ops.size (Nat.le_refl _) fun q ⟨o, ho, _⟩ => by
    have := (Array.getElem?_eq_some_iff.1 ho).1
    exact ⟨fun _ => this, fun _ => hall q this⟩).1

theorem ready_all {listed : Array Bool} (hc : calm ops = true) (hs : listed.size = ops.size) (h : Region.ready .any ops listed = []) : ∀ q, q < ops.size → listed.getD q false = true := by
  intro q
  induction q using Nat.strongRecOn with
  | ind q ih =>
    intro hq
    refine Classical.byContradiction fun hn => ?_
    have hmem : q ∈ Region.ready .any ops listed := by
      rw [mem_ready]
      have ho := Array.getElem?_eq_getElem (xs := ops) hq
      refine ⟨?_, _, ho, fun e he hb => ?_⟩
      · have hl : q < listed.size := by omega
        simp [hl] at hn ⊢
        exact hn
      · have := calm_edge hc ho he hb
        exact ih e.on this (by omega)
    rw [h] at hmem
    cases hmem

theorem dr_main {r : List (Own × D)} {κ : List V → Mem → R} (hc : calm ops = true) (hT : Tr P ops tms ms vs ex) (Q : Exit → Act → World → Prop) (hκ : ∀ ρ tm m a w, St B w0 ab ρ tm m a w → κ tm m = some r → Q .normal a w)
    (hfin : κ (tms ops.size) (ms ops.size) = some r) : ∀ (fuel : Nat) (listed : Array Bool) (ρ : Nm) (mD : Mem) (a : Act) (w : World), listed.size = ops.size → listed.toList.count false ≤ fuel →
      Dr B w0 ab ops tms ms ex (fun j => listed.getD j false = true) ρ mD a w → wpAny P .any ops Q fuel listed a w := by
  intro fuel
  induction fuel with
  | zero =>
    intro listed ρ mD a w hs hcnt hD
    have hz : listed.toList.count false = 0 := by omega
    rw [List.count_eq_zero] at hz
    have hr : Region.ready .any ops listed = [] := by
      rw [List.eq_nil_iff_forall_not_mem]
      intro j hj
      rw [mem_ready] at hj
      obtain ⟨h1, o, ho, _⟩ := hj
      have hlt : j < listed.size := by rw [hs]; exact (Array.getElem?_eq_some_iff.1 ho).1
      apply hz
      simp [hlt] at h1
      rw [← h1]
      simp
    exact ⟨hr, hκ ρ _ _ a w (dr_end hT hD (ready_all hc hs hr)) hfin⟩
  | succ fuel ih =>
    intro listed ρ mD a w hs hcnt hD
    refine ⟨fun hr => hκ ρ _ _ a w (dr_end hT hD (ready_all hc hs hr)) hfin, fun i hi => ?_⟩
    rw [mem_ready] at hi
    obtain ⟨h1, o, ho, hr⟩ := hi
    have hlt : i < listed.size := by rw [hs]; exact (Array.getElem?_eq_some_iff.1 ho).1
    have hfalse : listed[i] = false := by simpa [hlt] using h1
    have hni : ¬ listed.getD i false = true := by simp [hlt, hfalse]
    have hnext : (fun j => (listed.setIfInBounds i true).getD j false = true) = plus (fun j => listed.getD j false = true) i := by
      funext j
      apply propext
      unfold plus
      by_cases e : j = i
      · subst e; simp [hlt]
      · rw [getD_set_ne false (Ne.symm e)]
        exact ⟨.inl, fun h => h.resolve_right e⟩
    have hcnt' : (listed.setIfInBounds i true).toList.count false ≤ fuel := by
      rw [Array.toList_setIfInBounds, List.count_set (by simpa using hlt)]
      have hpos : 0 < listed.toList.count false := by
        rw [List.count_pos_iff]
        rw [← hfalse]
        simp
      have e1 : (listed.toList[i]'(by simpa using hlt) == false) = true := by simp [hfalse]
      rw [e1, if_pos rfl, if_neg (by decide)]
      omega
    have go : ∀ ρ' mD' a' w', Dr B w0 ab ops tms ms ex (plus (fun j => listed.getD j false = true) i) ρ' mD' a' w' → wpAny P .any ops Q fuel (listed.setIfInBounds i true) a' w' := fun ρ' mD' a' w' h =>
      ih _ ρ' mD' a' w' (by simpa using hs) hcnt' (by rw [hnext]; exact h)
    have hw := dr_wanted hT hc hD ho hni hr
    unfold wpOp
    rw [ho]
    simp only
    rw [hw]
    cases hx : ex i with
    | false =>
      rw [if_neg (by simp)]
      exact go _ _ _ _ (dr_skip hT hc hD ho hni hr hx)
    | true =>
      rw [if_pos rfl]
      exact .inl (dr_go hT hc hD ho hni hr hx _ _ fun rv w' ⟨ρ', mD', h⟩ => go _ _ _ _ h)
end

section
variable {E : Env} {B : Nat} {w0 : World} {ab : Nat → Prop} {ρ : Nm} {tm : List V} {m : Mem} {a : Act} {w : World} {r : List (Own × D)}
theorem draw_ops (hE : EnvOK P E) (hm : P.follows .mixedOrders = true) (ops : Array Oper) (hc : calm ops = true) (Q : Exit → Act → World → Prop) {κ : List V → Mem → R} (hκ : ∀ ρ tm m a w, St B w0 ab ρ tm m a w → κ tm m = some r → Q .normal a w)
    (hS : St B w0 ab ρ tm m a w) (h : evOps E ops (some (aheads ops.toList)) ops.toList 0 [] tm m κ = some r) (id : Nat) : (Code.region id ops true).wp P Q a w := by
  refine wp_region_any hm ?_
  have hS' : St B w0 ab ρ tm m a { w with drawn := w.drawn + 1 } := ⟨hS.inv.drawn _, hS.len, fun t => (hS.tms t).drawn, hS.defers⟩
  obtain ⟨tms, ms, vs, ex, h0, hm0, hfin, hT⟩ := trace_exists hE ops (aheads ops.toList) ops.toList 0 [] ρ tm m a _ hS' h
  obtain ⟨mD, hD⟩ := dr_start hT h0 hm0 hS'
  refine dr_main hc hT Q hκ (by simpa using hfin) ops.size _ ρ mD a _ (by simp) (by simp) ?_
  have : (fun j => (Array.replicate ops.size false).getD j false = true) = fun _ => False := by
    funext j
    apply propext
    simp [Array.getElem?_replicate]
    split <;> simp
  rw [this]
  exact hD
end
end Go.Vm
