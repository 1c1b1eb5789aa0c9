/-
  What a call of a function does: its answer laid into memory. No statement is proved here.
-/
import Derived.Test.YtmjbikbakkbajaaVmH
namespace Go.Vm
open Go.RowKit (Below)
variable {P : Program}

def valsOf : Nat → List (Own × D) → List V0
  | _, [] => []
  | b, (_, .p v) :: l => .p v :: valsOf b l
  | b, (_, .r k n xs) :: l => .r k n xs :: valsOf b l
  | b, (_, .g cs) :: l => .g cs :: valsOf b l
  | b, (_, .w _ _) :: l => .f b :: valsOf (b + 1) l
  | b, (_, .c n _) :: l => .s b 0 n :: valsOf (b + 1) l
def blkOfD : D → Option Blk
  | .w k xs => some (.w k xs.length xs)
  | .c _ cs => some (.c cs)
  | _ => none
def blksOf (one : Bool) : List (Own × D) → Mem
  | [] => []
  | (ow, d) :: l => match blkOfD d with
    | some b => (unlessOne one ow, b) :: blksOf one l
    | none => blksOf one l
def adrOf (s : Own) : Value → Option (Nat × Nat)
  | .slice (some ad) n cap => match s with
    | .mine => if cap = 0 then none else some (ad.block, ad.off)
    | _ => if n = 0 then none else some (ad.block, ad.off)
  | _ => none
def adrsOf (one : Bool) : List (Own × D) → List Value → List (Option (Nat × Nat))
  | (ow, d) :: l, r :: rs => match blkOfD d with
    | some _ => adrOf (unlessOne one ow) r :: adrsOf one l rs
    | none => adrsOf one l rs
  | _, _ => []

theorem resV_eq (one : Bool) : ∀ (res : List (Own × D)) (m : Mem), resV one m res = (valsOf m.length res, m ++ blksOf one res)
  | [], m => by simp [resV, valsOf, blksOf]
  | (ow, .p v) :: l, m => by simp [resV, valsOf, blksOf, blkOfD, resV_eq one l m]
  | (ow, .r k n xs) :: l, m => by simp [resV, valsOf, blksOf, blkOfD, resV_eq one l m]
  | (ow, .g cs) :: l, m => by simp [resV, valsOf, blksOf, blkOfD, resV_eq one l m]
  | (ow, .w k xs) :: l, m => by simp [resV, valsOf, blksOf, blkOfD, resV_eq one l]
  | (ow, .c n cs) :: l, m => by simp [resV, valsOf, blksOf, blkOfD, resV_eq one l]

/-- Of each block that came back: of which result, and where. -/
theorem blks_spec {w w' : World} {args : List Value} {q : Prop} (one : Bool) : ∀ (res : List (Own × D)) (rs : List Value), all2 (ResOK w w' args q) res rs → (adrsOf one res rs).length = (blksOf one res).length ∧
    ∀ (j : Nat) (s : Own) (b : Blk), (blksOf one res)[j]? = some (s, b) → ∃ ow d r, ResOK w w' args q (ow, d) r ∧ (ow, d) ∈ res ∧ s = unlessOne one ow ∧ blkOfD d = some b ∧ (adrsOf one res rs)[j]? = some (adrOf s r)
  | [], [], _ => ⟨rfl, fun j s b h => by simp [blksOf] at h⟩
  | (ow, d) :: l, r :: rs, ⟨h1, h2⟩ => by
    obtain ⟨g1, g2⟩ := blks_spec one l rs h2
    unfold blksOf adrsOf
    cases hd : blkOfD d with
    | none =>
      refine ⟨g1, fun j s b h => ?_⟩
      obtain ⟨ow', d', r', k1, k2, k3⟩ := g2 j s b h
      exact ⟨ow', d', r', k1, List.mem_cons_of_mem _ k2, k3⟩
    | some b0 =>
      refine ⟨by simp [g1], fun j s b h => ?_⟩
      cases j with
      | zero =>
        simp at h
        exact ⟨ow, d, r, h1, List.mem_cons_self .., h.1.symm, by rw [hd, h.2], by simp [h.1]⟩
      | succ j =>
        obtain ⟨ow', d', r', k1, k2, k3, k4, k5⟩ := g2 j s b (by simpa using h)
        exact ⟨ow', d', r', k1, List.mem_cons_of_mem _ k2, k3, k4, by simpa using k5⟩

theorem dr_slr {w w' : World} {args : List Value} {one : Bool} {ow : Own} {d : D} {r : Value} {b : Blk} {ρ' : Nm} {M : Mem} {i n : Nat} (h : ResOK w w' args (one = true) (ow, d) r) (hd : blkOfD d = some b) (hi : M[i]? = some (unlessOne one ow, b))
    (hρ : ρ' i = adrOf (unlessOne one ow) r) (hn : ∃ ad cap, r = .slice ad n cap ∧ n ≤ cap ∧ n ≤ lim ∧ (n = 0 ∨ ∃ b o, ad = some ⟨b, o, none⟩)) : SlR ρ' M w' i 0 n r := by
  obtain ⟨ad, cap, rfl, h1, h2, h3⟩ := hn
  have hlt : i < M.length := (List.getElem?_eq_some_iff.1 hi).1
  refine ⟨hlt, ad, cap, rfl, h1, h2, ?_, ?_⟩
  · rcases h3 with h3 | ⟨b', o', rfl⟩
    · exact .inl h3
    · by_cases hz : n = 0
      · exact .inl hz
      · refine .inr ⟨b', o', ?_, rfl⟩
        rw [hρ]
        unfold adrOf
        cases unlessOne one ow <;> simp only []
        · rw [if_neg (by omega)]
        · rw [if_neg hz]
        · rw [if_neg hz]
  · rintro ⟨q, hq⟩
    rw [hi] at hq
    injection hq with hq
    injection hq with hq _
    by_cases hcap : cap = 0
    · exact .inl hcap
    · cases one with
      | false => cases ow <;> cases hq
      | true =>
        have how : ow = .mine := hq
        subst how
        have hsl : d.isSl = true := by cases d <;> first | rfl | cases hd
        obtain ⟨ad', n', cap', he, h4⟩ := h.2 hsl
        cases he
        rcases h4 with h4 | ⟨b', rfl, _, h5⟩
        · exact absurd h4 hcap
        · refine .inr ⟨b', ?_, rfl, ?_⟩
          · rw [hρ]
            simp [adrOf, unlessOne, hcap]
          · rw [Nat.zero_add]
            exact (h5 rfl).2

/-- What came back reads. -/
theorem vals_vr {w w' : World} {args : List Value} {one : Bool} {ρ' : Nm} {M : Mem} : ∀ (res : List (Own × D)) (rs : List Value) (base : Nat), all2 (ResOK w w' args (one = true)) res rs →
    (∀ j : Nat, j < (blksOf one res).length → M[base + j]? = (blksOf one res)[j]? ∧ ρ' (base + j) = ((adrsOf one res rs)[j]?).join) → all2 (VR0 ρ' M w') (valsOf base res) rs
  | [], [], _, _, _ => trivial
  | (ow, .p v) :: l, r :: rs, base, ⟨h1, h2⟩, hM => ⟨h1.1, vals_vr l rs base h2 hM⟩
  | (ow, .r k n xs) :: l, r :: rs, base, ⟨h1, h2⟩, hM => ⟨h1.1, vals_vr l rs base h2 hM⟩
  | (ow, .g cs) :: l, r :: rs, base, ⟨h1, h2⟩, hM => ⟨h1.1, vals_vr l rs base h2 hM⟩
  | (ow, .w k xs) :: l, r :: rs, base, ⟨h1, h2⟩, hM => by
    have h0 := hM 0 (by simp [blksOf, blkOfD])
    have hi : M[base]? = some (unlessOne one ow, .w k xs.length xs) := by simpa [blksOf, blkOfD] using h0.1
    have hρ : ρ' base = adrOf (unlessOne one ow) r := by simpa [adrsOf, blkOfD] using h0.2
    refine ⟨⟨(List.getElem?_eq_some_iff.1 hi).1, fun n hn => ?_⟩, vals_vr l rs (base + 1) h2 (fun j hj => ?_)⟩
    · have : n = xs.length := by unfold blkN at hn; rw [hi] at hn; cases hn; rfl
      subst this
      refine dr_slr h1 rfl hi hρ ?_
      obtain ⟨ad, cap, g1, g2, g3, _, g4⟩ := h1.1
      exact ⟨ad, cap, g1, g2, g3, g4.imp id (fun ⟨b, o, e, _⟩ => ⟨b, o, e⟩)⟩
    · have := hM (j + 1) (by simp [blksOf, blkOfD]; omega)
      rw [show base + (j + 1) = base + 1 + j from by omega] at this
      simpa [blksOf, adrsOf, blkOfD] using this
  | (ow, .c n cs) :: l, r :: rs, base, ⟨h1, h2⟩, hM => by
    have h0 := hM 0 (by simp [blksOf, blkOfD])
    have hi : M[base]? = some (unlessOne one ow, .c cs) := by simpa [blksOf, blkOfD] using h0.1
    have hρ : ρ' base = adrOf (unlessOne one ow) r := by simpa [adrsOf, blkOfD] using h0.2
    refine ⟨?_, vals_vr l rs (base + 1) h2 (fun j hj => ?_)⟩
    · refine dr_slr h1 rfl hi hρ ?_
      obtain ⟨ad, cap, g1, g2, g3, _, _, g4⟩ := h1.1
      exact ⟨ad, cap, g1, g2, g3, g4.imp id (fun ⟨b, o, e, _⟩ => ⟨b, o, e⟩)⟩
    · have := hM (j + 1) (by simp [blksOf, blkOfD]; omega)
      rw [show base + (j + 1) = base + 1 + j from by omega] at this
      simpa [blksOf, adrsOf, blkOfD] using this

theorem shares_of {res : List (Own × D)} : ∀ {d : D}, (Own.old, d) ∈ res → d.isSl = true → shares res = true := by
  induction res with
  | nil => intro d h; cases h
  | cons q l ih =>
    intro d h hs
    obtain ⟨ow, d0⟩ := q
    rcases List.mem_cons.1 h with h | h
    · cases h
      cases d <;> first | rfl | cases hs
    · have := ih h hs
      unfold shares
      split <;> first | rfl | (rename_i heq; cases heq; exact this) | exact this | (rename_i heq; cases heq)

/-- The new blocks of a call. -/
theorem new_blks {w w' : World} {vs : List Value} {res : List (Own × D)} {rs : List Value} {m : Mem} {ρ ρ' : Nm} {fr : List Nat} {one : Bool} (hone : one = true → res.length = 1) (hR : all2 (ResOK w w' vs (one = true)) res rs)
    (hρ : ∀ j, j < (blksOf one res).length → ρ' (m.length + j) = ((adrsOf one res rs)[j]?).join)
    (hold : ∀ d, (Own.old, d) ∈ res → d.isSl = true → ∀ v, v ∈ vs → ∀ ad n cap, v = .slice (some ad) n cap → n ≠ 0 → ∃ i, i ∈ fr ∧ liveAt m i ∧ ¬ mineAt m i ∧ ∃ o, ρ i = some (ad.block, o)) :
    NewOK ρ m w w' fr ρ' (blksOf one res) := by
  obtain ⟨hl, hspec⟩ := blks_spec one res rs hR
  have hlen : ∀ {j : Nat} {p : Own × Blk}, (blksOf one res)[j]? = some p → j < (blksOf one res).length := fun h => (List.getElem?_eq_some_iff.1 h).1
  have get : ∀ {j : Nat} {s : Own} {b : Blk}, (blksOf one res)[j]? = some (s, b) → ∃ ow d r, ResOK w w' vs (one = true) (ow, d) r ∧ (ow, d) ∈ res ∧ s = unlessOne one ow ∧ blkOfD d = some b ∧ d.isSl = true ∧ ρ' (m.length + j) = adrOf s r := by
    intro j s b h
    obtain ⟨ow, d, r, h1, h2, h3, h4, h5⟩ := hspec j s b h
    refine ⟨ow, d, r, h1, h2, h3, h4, (by cases d <;> first | rfl | (cases h4)), ?_⟩
    rw [hρ j (hlen h), h5]
    rfl
  have adr : ∀ {s : Own} {r : Value} {c o : Nat}, adrOf s r = some (c, o) → ∃ ad n cap, r = .slice (some ad) n cap ∧ c = ad.block ∧ o = ad.off ∧ (s = .mine → cap ≠ 0) ∧ (s ≠ .mine → n ≠ 0) := by
    intro s r c o h
    unfold adrOf at h
    split at h
    · rename_i ad n cap
      cases s <;> simp only [] at h
      · split at h
        · cases h
        · rename_i hc; cases h; exact ⟨ad, n, cap, rfl, rfl, rfl, fun _ => hc, fun h => absurd rfl h⟩
      · split at h
        · cases h
        · rename_i hc; cases h; exact ⟨ad, n, cap, rfl, rfl, rfl, (fun h => by cases h), fun _ => hc⟩
      · split at h
        · cases h
        · rename_i hc; cases h; exact ⟨ad, n, cap, rfl, rfl, rfl, (fun h => by cases h), fun _ => hc⟩
    · cases h
  have mineOne : ∀ {ow : Own}, unlessOne one ow = .mine → one = true ∧ ow = .mine := by
    intro ow h
    cases one
    · cases ow <;> cases h
    · exact ⟨rfl, h⟩
  have hmine : ∀ {j : Nat} {b : Blk} {c o : Nat}, (blksOf one res)[j]? = some (.mine, b) → ρ' (m.length + j) = some (c, o) → o = 0 ∧ (∃ cs e, w'.heap[c]? = some (.cells cs e (0, 0))) ∧ w.heap.size ≤ c := by
    intro j b c o h hc
    obtain ⟨ow, d, r, h1, h2, h3, h4, h5, h6⟩ := get h
    obtain ⟨rfl, rfl⟩ := mineOne h3.symm
    rw [h6] at hc
    obtain ⟨ad, n, cap, rfl, rfl, rfl, k1, _⟩ := adr hc
    obtain ⟨ad', n', cap', he, h7⟩ := h1.2 h5
    cases he
    rcases h7 with h7 | ⟨b', he, h8, h9⟩
    · exact absurd h7 (k1 rfl)
    · cases he
      exact ⟨rfl, (h9 rfl).1, h8⟩
  refine ⟨?_, ?_, ?_, ?_, ?_, ?_, ?_⟩
  · intro j s b h
    obtain ⟨ow, d, r, h1, h2, h3, h4, h5, h6⟩ := get h
    cases d with
    | w k xs =>
      cases h4
      obtain ⟨ad, cap, rfl, g1, g2, g3, g4⟩ := h1.1
      refine ⟨rfl, g2, g3, ?_⟩
      by_cases hz : xs.length = 0
      · exact .inl hz
      · rcases g4 with g4 | ⟨b, o, rfl, g4⟩
        · exact absurd g4 hz
        · refine .inr ⟨b, o, ?_, g4⟩
          rw [h6]
          unfold adrOf
          cases s <;> simp only []
          · rw [if_neg (by omega)]
          · rw [if_neg hz]
          · rw [if_neg hz]
    | c n cs =>
      cases h4
      obtain ⟨ad, cap, rfl, g1, g2, g3, g5, g4⟩ := h1.1
      refine ⟨g3, ?_⟩
      by_cases hz : n = 0
      · exact .inl (g5.1 hz)
      · rcases g4 with g4 | ⟨b, o, rfl, g4⟩
        · exact absurd g4 hz
        · refine .inr ⟨b, o, ?_, g4⟩
          rw [h6]
          unfold adrOf
          cases s <;> simp only []
          · rw [if_neg (by omega)]
          · rw [if_neg hz]
          · rw [if_neg hz]
    | _ => cases h4
  · intro j b h
    exact ⟨fun c o hc => ⟨(hmine h hc).1, (hmine h hc).2.1⟩, fun c o hc => (hmine h hc).2.2⟩
  · intro j b j' c o o' h h' _ _
    obtain ⟨ow, d, r, h1, h2, h3, h4, h5, h6⟩ := get h
    obtain ⟨rfl, rfl⟩ := mineOne h3.symm
    have h7 := hone rfl
    have h8 : (blksOf true res).length ≤ 1 := by
      match res, h7 with
      | [(ow, d)], _ =>
        unfold blksOf
        cases blkOfD d <;> simp [blksOf]
    have := hlen h
    omega
  · intro j b h c o hc
    obtain ⟨ow, d, r, h1, h2, h3, h4, h5, h6⟩ := get h
    rw [h6] at hc
    obtain ⟨ad, n, cap, rfl, rfl, rfl, _, k2⟩ := adr hc
    have hn := k2 (by intro e; cases e)
    have how : ow = .new ∨ ow = .mine := by cases one <;> cases ow <;> first | exact .inl rfl | exact .inr rfl | cases h3
    rcases how with rfl | rfl
    · exact h1.2 h5 _ _ _ _ rfl hn rfl
    · obtain ⟨ad', n', cap', he, h7⟩ := h1.2 h5
      cases he
      rcases h7 with h7 | ⟨b', he, h8, _⟩
      · have hle : n ≤ cap := by
          cases d with
          | w k xs => obtain ⟨_, _, e, g1, _⟩ := h1.1; cases e; exact g1
          | c n' cs => obtain ⟨_, _, e, g1, _⟩ := h1.1; cases e; exact g1
          | _ => cases h5
        omega
      · cases he
        exact h8
  · intro j b h c o hc
    obtain ⟨ow, d, r, h1, h2, h3, h4, h5, h6⟩ := get h
    rw [h6] at hc
    obtain ⟨ad, n, cap, rfl, rfl, rfl, _, k2⟩ := adr hc
    have hn := k2 (by intro e; cases e)
    have how : ow = .old := by cases one <;> cases ow <;> first | rfl | cases h3
    subst how
    rcases h1.2 h5 _ _ _ _ rfl hn rfl with h7 | ⟨v, hv, ad', n', cap', rfl, hn', he⟩
    · exact .inl h7
    · right
      obtain ⟨i, g1, g2, g3, o', g4⟩ := hold d h2 h5 _ hv ad' n' cap' rfl hn'
      exact ⟨i, g1, g2, g3, o', by rw [g4, he]⟩
  · intro j s b h
    obtain ⟨ow, d, r, h1, h2, h3, h4, h5, h6⟩ := get h
    cases d <;> first | (cases h4; intro e; cases e) | (cases h4)
  · intro j c o hj hc
    obtain ⟨⟨s, b⟩, hb⟩ : ∃ p, (blksOf one res)[j]? = some p := ⟨_, List.getElem?_eq_getElem hj⟩
    have blk : ∀ {c' : Nat} {ob : Obj}, w'.heap[c']? = some ob → c' < w'.heap.size := fun h => (Array.getElem?_eq_some_iff.1 h).1
    have cell : ∀ {c' o' : Nat} {v : Value}, w'.cell? ⟨c', o', none⟩ = some v → c' < w'.heap.size := by
      intro c' o' v h
      unfold World.cell? at h
      cases hq : w'.heap[c']? with
      | none => rw [hq] at h; cases h
      | some ob => exact blk hq
    by_cases hs : s = .mine
    · subst hs
      obtain ⟨_, ⟨cs, e, h1⟩, _⟩ := hmine hb hc
      exact blk h1
    · obtain ⟨ow, d, r, h1, h2, h3, h4, h5, h6⟩ := get hb
      rw [h6] at hc
      obtain ⟨ad, n, cap, rfl, rfl, rfl, _, k2⟩ := adr hc
      have hn := k2 hs
      cases d with
      | w k xs =>
        obtain ⟨ad', cap', e, _, _, _, g⟩ := h1.1
        cases e
        rcases g with g | ⟨b', o', e, g⟩
        · exact absurd g hn
        · cases e
          exact cell (g 0 (.int k (xs.getD 0 0)) (by rw [List.getElem?_map, getD_of (by omega)]; rfl))
      | c n' cs =>
        obtain ⟨ad', cap', e, _, _, _, g5, g⟩ := h1.1
        cases e
        rcases g with g | ⟨b', o', e, g⟩
        · exact absurd g hn
        · cases e
          cases cs with
          | nil => exact absurd (g5.2 rfl) hn
          | cons v cs => exact cell (g 0 v rfl)
      | _ => cases h5

/-- What is handed on, all of it. -/
theorem contents_dr {ρ : Nm} {m : Mem} {w : World} {r : List (Own × D)} (ev : Operand → Value) (tm : List V) : ∀ (l : List Operand) (κ' : List D → R), (∀ x ∈ l, VR ρ m w (opnd tm x) (ev x)) →
    Touch ρ m w (l.filterMap fun x => nameOf (opnd tm x)) → contentsK m (l.map (opnd tm)) κ' = some r →
    ∃ ds, κ' ds = some r ∧ all2 (DR w) ds (l.map ev) ∧ ∀ v, v ∈ l.map ev → ∀ ad n cap, v = .slice (some ad) n cap → n ≠ 0 → ∃ x, x ∈ l ∧ ∃ i o, nameOf (opnd tm x) = some i ∧ liveAt m i ∧ ρ i = some (ad.block, o)
  | [], κ', _, _, h => ⟨[], h, trivial, fun v hv => by simp at hv⟩
  | x :: l, κ', hx, hb, h => by
    simp only [List.map_cons, contentsK] at h
    have hb1 : Touch ρ m w (nameOf (opnd tm x)).toList := fun n hn => hb n (by
      cases hq : nameOf (opnd tm x) with
      | none => rw [hq] at hn; cases hn
      | some i => rw [hq] at hn; simp at hn; subst hn; simp [hq])
    have hb2 : Touch ρ m w (l.filterMap fun x => nameOf (opnd tm x)) := fun n hn => hb n (by
      rw [List.filterMap_cons]
      split
      · exact hn
      · exact List.mem_cons_of_mem _ hn)
    have hv := hx x (List.mem_cons_self ..)
    obtain ⟨d, h1, h2, _, h3⟩ := content_dr hv hb1 h
    obtain ⟨ds, g1, g2, g3⟩ := contents_dr ev tm l _ (fun y hy => hx y (List.mem_cons_of_mem _ hy)) hb2 h1
    refine ⟨d :: ds, g1, ⟨h2, g2⟩, fun v hv' ad n cap he hn => ?_⟩
    rcases List.mem_cons.1 hv' with rfl | hv'
    · have hsl : d.isSl = true := by
        cases d with
        | p q => obtain ⟨e, hw⟩ := h2; rw [he] at e; subst e; cases hw
        | r k n' xs => obtain ⟨e, _⟩ := h2; rw [he] at e; cases e
        | g vs => obtain ⟨e, _⟩ := h2; rw [he] at e; cases e
        | _ => rfl
      obtain ⟨i, o, k1, k2⟩ := h3 hsl ad n cap he hn
      exact ⟨x, List.mem_cons_self .., i, o, k1, k2⟩
    · obtain ⟨y, k1, k2⟩ := g3 v hv' ad n cap he hn
      exact ⟨y, List.mem_cons_of_mem _ k1, k2⟩

theorem all_wf {w : World} : ∀ (ds : List D) (vs : List Value), all2 (DR w) ds vs → ∀ d ∈ ds, d.wf := by
  intro ds
  induction ds with
  | nil => intro _ _ d hd; cases hd
  | cons d ds ih =>
    intro vs h d' hd
    match vs, h with
    | v :: vs, h =>
      rcases List.mem_cons.1 hd with rfl | hd
      · exact h.1.wf
      · exact ih vs h.2 d' hd

section ops
variable {E : Env} {ρ : Nm} {m : Mem} {w : World} {a : Act} {tm : List V} {κ : V → Mem → R} {r : List (Own × D)} {dst : Option Tmp} {ty : TypeId} {pos : String} {after : Array Edge} {guard : Option (Nat × Bool)}

theorem call_real (f : FuncId) (args : Array Operand) (ts : Array TypeId) {ds : List D} {res : List (Own × D)} (h2 : all2 (DR w) ds (args.toList.map a.eval))
    (h3 : ∀ v, v ∈ args.toList.map a.eval → ∀ ad n cap, v = .slice (some ad) n cap → n ≠ 0 → ∃ x, x ∈ args.toList ∧ ∃ i o, nameOf (opnd tm x) = some i ∧ liveAt m i ∧ ρ i = some (ad.block, o))
    (h5 : CallOK P f ds res) (h6 : (shares res && anyOwn m (args.toList.map (opnd tm))) = false) :
    Does P ⟨dst, .call ⟨.value (.func f), args, ts⟩, ty, pos, after, guard⟩ a w fun rv w' => ∃ ρ', Eff ρ m w ([], args.toList.filterMap fun x => nameOf (opnd tm x)) (lone (valsOf m.length res)) (m ++ blksOf (res.length == 1) res) rv w' ρ' := by
  have hcall := h5 w _ h2
  have hrun : (execOp a.eval (⟨dst, .call ⟨.value (.func f), args, ts⟩, ty, pos, after, guard⟩ : Oper)).run P w = (callFunc f (args.toList.map a.eval).toArray).run P w := by
    have : (args.toList.map a.eval).toArray = args.map a.eval := by apply Array.ext'; simp
    rw [this]
    simp [execOp, resolve, invoke, Act.eval, Deferred.ofValue]
  have heff : ∀ rv w', (Below w.heap.size w w' ∧ ∃ rs, rv = tupleOf rs ∧ all2 (ResOK w w' (args.toList.map a.eval) (res.length = 1)) res rs) →
      ∃ ρ', Eff ρ m w ([], args.toList.filterMap fun x => nameOf (opnd tm x)) (lone (valsOf m.length res)) (m ++ blksOf (res.length == 1) res) rv w' ρ' := by
    rintro rv w' ⟨hB, rs, rfl, hR⟩
    have hR' : all2 (ResOK w w' (args.toList.map a.eval) ((res.length == 1) = true)) res rs := by
      have : ((res.length == 1) = true) = (res.length = 1) := by simp
      rw [this]
      exact hR
    obtain ⟨hadl, _⟩ := blks_spec (res.length == 1) res rs hR'
    let ρ' : Nm := fun n => if m.length ≤ n ∧ n < m.length + (blksOf (res.length == 1) res).length then ((adrsOf (res.length == 1) res rs)[n - m.length]?).join else ρ n
    have hρ' : ∀ j, j < (blksOf (res.length == 1) res).length → ρ' (m.length + j) = ((adrsOf (res.length == 1) res rs)[j]?).join := by
      intro j hj
      show (if _ then _ else _) = _
      rw [if_pos (by omega), show m.length + j - m.length = j from by omega]
    refine ⟨ρ', Eff.ext _ ρ' _ _ _ hB (fun n hn => ?_) (new_blks (by simp) hR' hρ' ?_) ?_⟩
    · show (if _ then _ else _) = _
      rw [if_neg (by omega)]
    · intro d hd hs v hv ad n cap he hn
      obtain ⟨x, k1, i, o, k2, k4, k3⟩ := h3 v hv ad n cap he hn
      have hsh := shares_of hd hs
      rw [hsh] at h6
      refine ⟨i, List.mem_filterMap.2 ⟨x, k1, k2⟩, k4, ?_, o, k3⟩
      rintro ⟨b, hmb⟩
      have h8 : anyOwn m (args.toList.map (opnd tm)) = true := by
        unfold anyOwn
        refine List.any_eq_true.2 ⟨opnd tm x, List.mem_map.2 ⟨x, k1, rfl⟩, ?_⟩
        rw [k2]
        simp only []
        rw [hmb]
      rw [h8] at h6
      cases h6
    · have hv := vals_vr (ρ' := ρ') (M := m ++ blksOf (res.length == 1) res) res rs m.length hR' (fun j hj => ⟨by rw [List.getElem?_append_right (by omega)]; simp, hρ' j hj⟩)
      have hl := hv.length
      generalize valsOf m.length res = vals at hv hl
      match vals, rs, hv, hl with
      | [], [], _, _ => exact ⟨[], rfl, trivial⟩
      | [x], [y], hv, _ => exact hv.1
      | x :: x' :: l, y :: y' :: l', hv, _ => exact ⟨_, rfl, hv⟩
  intro K Q hK
  unfold Oper.wp
  rw [hrun]
  rcases hcall with ⟨rv, w', k1, k2⟩ | ⟨k1, k2⟩
  · rw [k1]
    exact hK _ _ (heff rv w' k2)
  · rw [k1]
    exact Calls.mono k2 fun e w' ⟨rv, he, hp⟩ => by
      subst he
      exact hK _ _ (heff rv w' hp)

theorem op_call (hE : EnvOK P E) (f : FuncId) (args : Array Operand) (ts : Array TypeId) (hx : ∀ x ∈ args.toList, VR ρ m w (opnd tm x) (a.eval x))
    (hb : Touch ρ m w (args.toList.filterMap fun x => nameOf (opnd tm x))) (h : opK E tm m (.call ⟨.value (.func f), args, ts⟩) κ = some r) :
    Owes P ρ m ⟨dst, .call ⟨.value (.func f), args, ts⟩, ty, pos, after, guard⟩ a w ([], args.toList.filterMap fun x => nameOf (opnd tm x)) κ r := by
  simp only [opK] at h
  split at h
  case h_2 => cases h
  rename_i F hF
  obtain ⟨ds, h1, h2, h3⟩ := contents_dr (r := r) a.eval tm args.toList _ hx hb h
  have hwf : ∀ d ∈ ds, d.wf := by
    have : ∀ (ds : List D) (vs : List Value), all2 (DR w) ds vs → ∀ d ∈ ds, d.wf := by
      intro ds
      induction ds with
      | nil => intro _ _ d hd; cases hd
      | cons d ds ih =>
        intro vs h d' hd
        match vs, h with
        | v :: vs, h =>
          rcases List.mem_cons.1 hd with rfl | hd
          · exact h.1.wf
          · exact ih vs h.2 d' hd
    exact this ds _ h2
  obtain ⟨res, h4, h5⟩ := hE.fn f F hF ds _ r hwf h1
  obtain ⟨h6, h7⟩ := cond_none' h4
  rw [resV_eq] at h7
  exact ⟨_, _, h7, call_real f args ts h2 h3 h5 h6⟩
end ops
end Go.Vm
