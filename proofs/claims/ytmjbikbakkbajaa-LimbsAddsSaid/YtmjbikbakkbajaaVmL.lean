/-
  The evaluator's answer for code. No statement is proved here.
-/
import Derived.Test.YtmjbikbakkbajaaVmW
import Derived.LoopN
namespace Go.Vm
open Go.RowKit (Below)
variable {P : Program}

theorem insOnce_mem (ns : List Nat) (i : Nat) : i ∈ insOnce ns i ∧ ∀ j, j ∈ ns → j ∈ insOnce ns i := by
  unfold insOnce
  cases h : ns.contains i
  · exact ⟨by simp, fun j hj => by simp [hj]⟩
  · exact ⟨by simpa using h, fun j hj => hj⟩
theorem insOnce_nodup (ns : List Nat) (i : Nat) (h : ns.Nodup) : (insOnce ns i).Nodup := by
  unfold insOnce
  cases hc : ns.contains i
  · have : i ∉ ns := by simpa using hc
    rw [cond_false, List.nodup_append]
    exact ⟨h, by simp, fun a ha b hb => by simp at hb; subst hb; intro e; subst e; exact this ha⟩
  · exact h
theorem namesOf_spec (tm : List V) : ∀ (L : List Nat) (ns : List Nat), ns.Nodup → (L.foldl (fun ns t => match nameOf (getT tm t) with | some i => insOnce ns i | none => ns) ns).Nodup ∧
    (∀ j, j ∈ ns → j ∈ (L.foldl (fun ns t => match nameOf (getT tm t) with | some i => insOnce ns i | none => ns) ns)) ∧
    ∀ t, t ∈ L → ∀ i, nameOf (getT tm t) = some i → i ∈ (L.foldl (fun ns t => match nameOf (getT tm t) with | some i => insOnce ns i | none => ns) ns)
  | [], ns, h => ⟨h, fun _ h => h, fun _ h => by cases h⟩
  | t :: L, ns, h => by
    simp only [List.foldl_cons]
    cases hn : nameOf (getT tm t) with
    | none =>
      obtain ⟨g1, g2, g3⟩ := namesOf_spec tm L ns h
      refine ⟨g1, g2, fun t' ht i hi => ?_⟩
      rcases List.mem_cons.1 ht with rfl | ht
      · rw [hn] at hi; cases hi
      · exact g3 t' ht i hi
    | some i0 =>
      obtain ⟨g1, g2, g3⟩ := namesOf_spec tm L (insOnce ns i0) (insOnce_nodup ns i0 h)
      refine ⟨g1, fun j hj => g2 j ((insOnce_mem ns i0).2 j hj), fun t' ht i hi => ?_⟩
      rcases List.mem_cons.1 ht with rfl | ht
      · rw [hn] at hi; cases hi; exact g2 _ (insOnce_mem ns i0).1
      · exact g3 t' ht i hi

section
variable {E : Env} {B : Nat} {w0 : World} {ab : Nat → Prop} {ρ : Nm} {tm : List V} {m : Mem} {a : Act} {w : World} {r : List (Own × D)}

/-- Memory without what no live slot leads to; the blocks named anew. -/
theorem St.gc (h : St B w0 ab ρ tm m a w) (L : List Nat) : ∃ ρ', St B w0 ab ρ' (gcT L tm) (gcM L tm m) a w := by
  obtain ⟨hnd, _, hmem⟩ := namesOf_spec tm L [] List.nodup_nil
  change (namesOf tm L).Nodup at hnd
  change ∀ t, t ∈ L → ∀ i, nameOf (getT tm t) = some i → i ∈ namesOf tm L at hmem
  generalize hns : namesOf tm L = ns at hnd hmem
  let ρ' : Nm := fun i => (ns[i]?).bind ρ
  have hM : gcM L tm m = ns.map fun i => m.getD i (.old, .dead) := by unfold gcM; rw [hns]
  have hlen : (gcM L tm m).length = ns.length := by rw [hM]; simp
  have hget : ∀ {i : Nat} {p : Own × Blk}, (gcM L tm m)[i]? = some p → ∃ n, ns[i]? = some n ∧ ρ' i = ρ n ∧ (m[n]? = some p ∨ p = (.old, .dead) ∧ ρ n = none) := by
    intro i p hp
    rw [hM, List.getElem?_map] at hp
    cases hq : ns[i]? with
    | none => rw [hq] at hp; cases hp
    | some n =>
      rw [hq] at hp
      simp only [Option.map_some, Option.some.injEq] at hp
      refine ⟨n, rfl, by show (ns[i]?).bind ρ = _; rw [hq]; rfl, ?_⟩
      by_cases hn : n < m.length
      · left
        rw [← hp, List.getD_eq_getElem?_getD, List.getElem?_eq_getElem hn]
        rfl
      · right
        rw [List.getD_eq_getElem?_getD, List.getElem?_eq_none (by omega)] at hp
        exact ⟨hp.symm, h.inv.dom n (by omega)⟩
  have hidx : ∀ {i : Nat}, i ∈ ns → i < m.length → (gcM L tm m)[ns.idxOf i]? = m[i]? ∧ ρ' (ns.idxOf i) = ρ i ∧ ns.idxOf i < ns.length := by
    intro i hi hlt
    have h1 := List.idxOf_lt_length_of_mem hi
    have h2 : ns[ns.idxOf i]? = some i := by rw [List.getElem?_eq_getElem h1]; simp
    refine ⟨?_, ?_, h1⟩
    · rw [hM, List.getElem?_map, h2]
      simp [List.getElem?_eq_getElem hlt]
    · show (ns[ns.idxOf i]?).bind ρ = _
      rw [h2]
      rfl
  refine ⟨ρ', ⟨⟨h.inv.below, h.inv.ble, ?_, ?_, ?_, ?_, ?_, ?_, ?_, h.inv.abB, ?_⟩, ?_, ?_, h.defers⟩⟩
  · intro i s b hb
    obtain ⟨n, h1, h2, h3 | ⟨h3, _⟩⟩ := hget hb
    · have := h.inv.blk n s b h3
      cases b with
      | w k q xs => unfold BlkOK at this ⊢; rw [h2]; exact this
      | c vs => unfold BlkOK at this ⊢; rw [h2]; exact this
      | dead => trivial
    · cases h3; trivial
  · intro i b hb
    obtain ⟨n, h1, h2, h3 | ⟨h3, _⟩⟩ := hget hb
    · obtain ⟨g1, g2⟩ := h.inv.mine n b h3
      exact ⟨fun c o hc => g1 c o (by rw [← h2, hc]), fun c o hc => g2 c o (by rw [← h2, hc])⟩
    · cases h3
  · intro i b j s b' c o o' hb hb' hd hc hc'
    obtain ⟨n, h1, h2, h3 | ⟨h3, _⟩⟩ := hget hb
    · obtain ⟨n', h1', h2', h3' | ⟨h3', _⟩⟩ := hget hb'
      · have := h.inv.apart n b n' s b' c o o' h3 h3' hd (by rw [← h2, hc]) (by rw [← h2', hc'])
        subst this
        obtain ⟨hi, e1⟩ := List.getElem?_eq_some_iff.1 h1
        obtain ⟨hj, e2⟩ := List.getElem?_eq_some_iff.1 h1'
        rcases Nat.lt_trichotomy i j with hlt | hlt | hlt
        · exact absurd (e1.trans e2.symm) (List.pairwise_iff_getElem.1 hnd i j hi hj hlt)
        · exact hlt
        · exact absurd (e2.trans e1.symm) (List.pairwise_iff_getElem.1 hnd j i hj hi hlt)
      · cases h3'; exact absurd rfl hd
    · cases h3
  · intro i b hb c o hc
    obtain ⟨n, h1, h2, h3 | ⟨h3, _⟩⟩ := hget hb
    · exact h.inv.new n b h3 c o (by rw [← h2, hc])
    · cases h3
  · intro i b hb c o hc
    obtain ⟨n, h1, h2, h3 | ⟨h3, h4⟩⟩ := hget hb
    · exact h.inv.old n b h3 c o (by rw [← h2, hc])
    · rw [h2, h4] at hc; cases hc
  · intro i c o hc
    have : (ns[i]?).bind ρ = some (c, o) := hc
    cases hq : ns[i]? with
    | none => rw [hq] at this; cases this
    | some n => rw [hq] at this; exact h.inv.lt n c o this
  · intro i hi
    show (ns[i]?).bind ρ = none
    rw [List.getElem?_eq_none (by omega)]
    rfl
  · intro i b hb
    obtain ⟨n, h1, h2, h3 | ⟨h3, _⟩⟩ := hget hb
    · exact h.inv.live n b h3
    · cases h3
  · unfold gcT
    simp [h.len]
  · intro t
    have ht : getT (gcT L tm) t = if t < tm.length ∧ t ∈ L then renV ns (getT tm t) else .o .u := by
      unfold gcT getT
      rw [hns, List.getD_eq_getElem?_getD, List.getElem?_map, List.getElem?_zipIdx]
      by_cases hl : t < tm.length
      · rw [List.getElem?_eq_getElem hl]
        by_cases hL : t ∈ L
        · simp [hl, hL, List.getD_eq_getElem?_getD]
        · simp [hL]
      · rw [List.getElem?_eq_none (by omega), if_neg (fun h => hl h.1)]
        rfl
    rw [ht]
    split
    case isFalse => trivial
    rename_i hc
    have hv := h.tms t
    have hn := hmem t hc.2
    generalize getT tm t = x at hv hn
    have slr : ∀ {i k n : Nat}, i ∈ ns → SlR ρ m w i k n (a.tmps.getD t undef) → SlR ρ' (gcM L tm m) w (ns.idxOf i) k n (a.tmps.getD t undef) := by
      intro i k n hi hs
      obtain ⟨hlt, ad, cap, g1, g2, g3, g4, g5⟩ := hs
      obtain ⟨k1, k2, k3⟩ := hidx hi hlt
      refine ⟨by rw [hlen]; exact k3, ad, cap, g1, g2, g3, by rw [k2]; exact g4, ?_⟩
      rintro ⟨b, hb⟩
      rw [k1] at hb
      rw [k2]
      exact g5 ⟨b, hb⟩
    cases x with
    | t l => trivial
    | o x =>
      cases x with
      | a i k =>
        obtain ⟨hlt, b, o, g1, g2⟩ := hv
        obtain ⟨k1, k2, k3⟩ := hidx (hn i rfl) hlt
        exact ⟨by rw [hlen]; exact k3, b, o, by rw [k2]; exact g1, g2⟩
      | s i k n => exact slr (hn i rfl) hv
      | f i =>
        obtain ⟨hlt, g1⟩ := hv
        obtain ⟨k1, k2, k3⟩ := hidx (hn i rfl) hlt
        refine ⟨by rw [hlen]; exact k3, fun n hb => slr (hn i rfl) (g1 n ?_)⟩
        unfold blkN at hb ⊢
        rwa [k1] at hb
      | p v => exact hv
      | r k n xs => exact hv
      | g vs => exact hv
      | z => exact hv
      | u => trivial

def X.out : X → Exit
  | .normal => .normal
  | .exit id => .exit id
  | .ret => .ret

/-- Is what is told in range? -/
def V0.wf : V0 → Prop
  | .p v => wfB v = true
  | .r k n xs => xs.length = n ∧ n ≤ lim ∧ inR k xs
  | .g vs => wfL vs
  | .s _ _ n => n ≤ lim
  | _ => True
def V.wf : V → Prop
  | .o x => x.wf
  | .t _ => True
def Blk.wf : Blk → Prop
  | .w k n xs => xs.length = n ∧ n ≤ lim ∧ inR k xs
  | .c vs => wfL vs
  | .dead => True
def memWF (m : Mem) : Prop := ∀ (i : Nat) (s : Own) (b : Blk), m[i]? = some (s, b) → b.wf
theorem St.wfT (h : St B w0 ab ρ tm m a w) (t : Nat) : (getT tm t).wf := by
  have := h.tms t
  generalize getT tm t = v at this
  cases v with
  | t l => trivial
  | o x =>
    cases x with
    | p v => exact this.2
    | r k n xs => exact ⟨this.2.1, this.2.2.1, this.2.2.2⟩
    | g vs => exact this.2
    | s i k n => obtain ⟨_, _, _, _, _, h, _⟩ := this; exact h
    | _ => trivial
theorem St.wfM (h : St B w0 ab ρ tm m a w) : memWF m := fun i s b hb => by
  have := h.inv.blk i s b hb
  cases b with
  | w k n xs => exact ⟨this.1, this.2.1, this.2.2.1⟩
  | c vs => exact this.1
  | dead => trivial
/-- The slots tell less, or the same. -/
def weaker (tm' tm : List V) : Prop := tm'.length = tm.length ∧ ∀ t, getT tm' t = .o .u ∨ getT tm' t = getT tm t
theorem St.weaker {tm' : List V} (h : St B w0 ab ρ tm m a w) (hw : weaker tm' tm) : St B w0 ab ρ tm' m a w := by
  refine ⟨h.inv, hw.1.trans h.len, fun t => ?_, h.defers⟩
  rcases hw.2 t with e | e <;> rw [e]
  · trivial
  · exact h.tms t
/-- Slots of which just these are told. -/
def lay (N : Nat) (use : List Nat) (vs : List V) : List V := (use.zip vs).foldl (fun l q => l.set q.1 q.2) (List.replicate N (.o .u))
theorem lay_weaker (use : List Nat) (tm : List V) : Vm.weaker (lay tm.length use (use.map (getT tm))) tm := by
  have key : ∀ (use : List Nat) (l : List V), Vm.weaker l tm → Vm.weaker ((use.zip (use.map (getT tm))).foldl (fun l q => l.set q.1 q.2) l) tm := by
    intro use
    induction use with
    | nil => intro l h; exact h
    | cons u use ih =>
      intro l h
      simp only [List.map_cons, List.zip_cons_cons, List.foldl_cons]
      refine ih _ ⟨by simpa using h.1, fun t => ?_⟩
      by_cases e : u = t
      · subst e
        right
        unfold getT
        by_cases hl : u < l.length
        · simp [List.getD_eq_getElem?_getD, List.getElem?_set_self hl]
        · have hl' : ¬ u < tm.length := by rw [← h.1]; exact hl
          rw [List.set_eq_of_length_le (by omega)]
          simp [List.getD_eq_getElem?_getD, List.getElem?_eq_none (Nat.le_of_not_lt hl), List.getElem?_eq_none (Nat.le_of_not_lt hl')]
      · have : getT (l.set u (getT tm u)) t = getT l t := by
          unfold getT
          simp [List.getD_eq_getElem?_getD, List.getElem?_set_ne e]
        rw [this]
        exact h.2 t
  refine key use _ ⟨by simp, fun t => ?_⟩
  left
  unfold getT
  by_cases h : t < tm.length
  · simp [List.getD_eq_getElem?_getD, h]
  · simp [List.getD_eq_getElem?_getD, h]

/-- What a loop's contract owes: that the loop, taken round by round, comes to the same. -/
def LoopOK (E : Env) (b : Nat) (x : Code) (F : List V → Mem → (X → List V → Mem → R) → R) : Prop :=
  ∀ tm m κ r, (∀ t, (getT tm t).wf) → memWF m → F tm m κ = some r → ∃ tm' fuel, weaker tm' tm ∧ loopX (E.live b) (E.out b) (fun tm m κ => ev E b x tm m κ) fuel tm' m κ = some r
/-- A contract over the slots that are used. -/
def lpC (N : Nat) (use : List Nat) (G : List V → Mem → (X → List V → Mem → R) → R) : List V → Mem → (X → List V → Mem → R) → R := fun tm m κ => bif tm.length == N then G (use.map (getT tm)) m κ else none
theorem loopOK_lpC {E : Env} {b : Nat} {x : Code} {N : Nat} {use : List Nat} {G : List V → Mem → (X → List V → Mem → R) → R}
    (h : ∀ vs m κ r, (∀ v ∈ vs, v.wf) → memWF m → G vs m κ = some r → ∃ fuel, loopX (E.live b) (E.out b) (fun tm m κ => ev E b x tm m κ) fuel (lay N use vs) m κ = some r) : LoopOK E b x (lpC N use G) := by
  intro tm m κ r ht hm hF
  unfold lpC at hF
  cases hN : (tm.length == N) <;> rw [hN] at hF
  · cases hF
  · have hN : tm.length = N := by simpa using hN
    subst hN
    obtain ⟨fuel, hf⟩ := h _ m κ r (fun v hv => by
      obtain ⟨t, _, rfl⟩ := List.mem_map.1 hv
      exact ht t) hm hF
    exact ⟨_, fuel, lay_weaker use tm, hf⟩
def LoopsOK (E : Env) (l : List (Nat × Code)) : Prop := ∀ q, q ∈ l → ∀ F, E.lp q.1 = some F → LoopOK E q.1 q.2 F
theorem loopsOK_none {E : Env} (h : ∀ b, E.lp b = none) (l : List (Nat × Code)) : LoopsOK E l := fun q _ F hF => by rw [h] at hF; cases hF

theorem ev_sound (hE : EnvOK P E) (hm : P.follows .mixedOrders = true) : ∀ (c : Code) (b : Nat) (_ : LoopsOK E (loopsOf b c)) (Q : Exit → Act → World → Prop) (κ : X → List V → Mem → R) (_ : ∀ x ρ tm m a w, St B w0 ab ρ tm m a w → κ x tm m = some r → Q x.out a w)
    (ρ : Nm) (tm : List V) (m : Mem) (a : Act) (w : World), St B w0 ab ρ tm m a w → ev E b c tm m κ = some r → c.wp P Q a w := by
  intro c
  induction c with
  | skip => intro b hL Q κ hκ ρ tm m a w hS h; exact wp_skip (hκ .normal _ _ _ _ _ hS h)
  | region id ops draw =>
    intro b hL Q κ hκ ρ tm m a w hS h
    simp only [ev] at h
    obtain ⟨h0, h⟩ := cond_none' h
    cases draw with
    | false => exact wp_region_list (seq_ops hE ops Q (fun ρ tm m a w hS h => hκ .normal _ _ _ _ _ hS h) ops.toList 0 [] ρ tm m a w hS h)
    | true =>
      have hcalm : calm ops = true := by simpa using h0
      exact draw_ops hE hm ops hcalm Q (fun ρ tm m a w hS h => hκ .normal _ _ _ _ _ hS h) hS h id
  | seq x y ihx ihy =>
    intro b hL Q κ hκ ρ tm m a w hS h
    simp only [ev] at h
    refine wp_seq (ihx b (fun q hq => hL q (by simp [loopsOf, hq])) _ _ (fun e ρ tm m a w hS h => ?_) ρ tm m a w hS h)
    cases e with
    | normal => exact ihy b (fun q hq => hL q (by simp [loopsOf, hq])) Q κ hκ ρ tm m a w hS h
    | exit id => exact hκ (.exit id) _ _ _ _ _ hS h
    | ret => exact hκ .ret _ _ _ _ _ hS h
  | cond c x y ihx ihy =>
    intro b hL Q κ hκ ρ tm m a w hS h
    unfold ev at h
    split at h
    case h_2 => cases h
    rename_i t
    split at h
    case h_2 => cases h
    rename_i v hv
    have hr := hS.tms t
    rw [hv] at hr
    rcases cond_some h with ⟨rfl, h⟩ | ⟨rfl, h⟩
    · rw [set_same tm t _ (.o .u) hv] at h
      exact wp_cond_true hr.1 (ihx b (fun q hq => hL q (by simp [loopsOf, hq])) Q κ hκ ρ tm m a w hS h)
    · rw [set_same tm t _ (.o .u) hv] at h
      exact wp_cond_false hr.1 (ihy b (fun q hq => hL q (by simp [loopsOf, hq])) Q κ hκ ρ tm m a w hS h)
  | block id x ih =>
    intro b hL Q κ hκ ρ tm m a w hS h
    simp only [ev] at h
    refine wp_block (ih id (fun q hq => hL q (by simpa [loopsOf] using hq)) _ _ (fun e ρ tm m a w hS h => ?_) ρ tm m a w hS h)
    cases e with
    | normal => exact hκ .normal _ _ _ _ _ hS h
    | exit j =>
      show if j = id then _ else _
      by_cases e : j = id
      · subst e
        rw [if_pos rfl]
        simp only [beq_self_eq_true, cond_true] at h
        exact hκ .normal _ _ _ _ _ hS h
      · rw [if_neg e]
        have : (j == id) = false := by simpa using e
        change (bif j == id then _ else _) = some r at h
        rw [this] at h
        exact hκ (.exit j) _ _ _ _ _ hS h
    | ret => exact hκ .ret _ _ _ _ _ hS h
  | loop x ih =>
    intro b hL Q κ hκ ρ tm m a w hS h
    simp only [ev] at h
    have key : ∀ (f : Nat) (ρ : Nm) (tm : List V) (m : Mem) (a : Act) (w : World), St B w0 ab ρ tm m a w → loopN (E.live b) (fun tm m κ => ev E b x tm m κ) f tm m κ = some r → Code.rounds P x Q f a w := by
      intro f
      induction f with
      | zero => intro ρ tm m a w _ h; cases h
      | succ f ihf =>
        intro ρ tm m a w hS h
        rw [rounds_succ]
        simp only [loopN] at h
        refine ih b (fun q hq => hL q (by simp [loopsOf, hq])) _ _ (fun e ρ tm m a w hS h => ?_) ρ tm m a w hS h
        cases e with
        | normal =>
          obtain ⟨ρ', hS'⟩ := hS.gc (E.live b)
          exact ihf ρ' _ _ a w hS' h
        | exit id => exact hκ (.exit id) _ _ _ _ _ hS h
        | ret => exact hκ .ret _ _ _ _ _ hS h
    have keyX : ∀ (f : Nat) (ρ : Nm) (tm : List V) (m : Mem) (a : Act) (w : World), St B w0 ab ρ tm m a w → loopX (E.live b) (E.out b) (fun tm m κ => ev E b x tm m κ) f tm m κ = some r → Code.rounds P x Q f a w := by
      intro f
      induction f with
      | zero => intro ρ tm m a w _ h; cases h
      | succ f ihf =>
        intro ρ tm m a w hS h
        rw [rounds_succ]
        simp only [loopX] at h
        refine ih b (fun q hq => hL q (by simp [loopsOf, hq])) _ _ (fun e ρ tm m a w hS h => ?_) ρ tm m a w hS h
        cases e with
        | normal =>
          obtain ⟨ρ', hS'⟩ := hS.gc (E.live b)
          exact ihf ρ' _ _ a w hS' h
        | exit id =>
          obtain ⟨ρ', hS'⟩ := hS.gc (E.out b)
          exact hκ (.exit id) _ _ _ _ _ hS' h
        | ret =>
          obtain ⟨ρ', hS'⟩ := hS.gc (E.out b)
          exact hκ .ret _ _ _ _ _ hS' h
    obtain ⟨ρ', hS'⟩ := hS.gc (E.live b)
    split at h
    · rename_i F hF
      obtain ⟨tm', n, hwk, hn⟩ := hL (b, x) (by simp [loopsOf]) F hF _ _ _ _ hS'.wfT hS'.wfM h
      exact wp_loop_rounds n (keyX n ρ' _ _ a w (hS'.weaker hwk) hn)
    · exact wp_loop_rounds E.fuel (key E.fuel ρ' _ _ a w hS' h)
  | exit id => intro b hL Q κ hκ ρ tm m a w hS h; exact wp_exit (hκ (.exit id) _ _ _ _ _ hS h)
  | ret => intro b hL Q κ hκ ρ tm m a w hS h; exact wp_ret (hκ .ret _ _ _ _ _ hS h)
  | rangeFunc _ _ _ _ _ _ => intro b hL Q κ hκ ρ tm m a w hS h; cases h
  | scope _ _ => intro b hL Q κ hκ ρ tm m a w hS h; cases h
  | label _ => intro b hL Q κ hκ ρ tm m a w hS h; cases h
  | goto _ => intro b hL Q κ hκ ρ tm m a w hS h; cases h
  | refuse _ => intro b hL Q κ hκ ρ tm m a w hS h; cases h
end
end Go.Vm
