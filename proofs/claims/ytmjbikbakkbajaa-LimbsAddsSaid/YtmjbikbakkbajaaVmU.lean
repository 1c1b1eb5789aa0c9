/-
  A drawn region comes to what the text's order comes to. No statement is proved here.
-/
import Derived.Test.YtmjbikbakkbajaaVmT
namespace Go.Vm
open Go.RowKit (Below)
variable {P : Program}

theorem foot_names (tm : List V) (o : Op) : ∀ n, n ∈ (foot tm o).1 ++ (foot tm o).2 → ∃ x, x ∈ o.operands ∧ n ∈ namesV (opnd tm x) := by
  have one : ∀ (v : V) (n : Nat), n ∈ (nameOf v).toList → n ∈ namesV v := by
    intro v n h
    cases v with
    | o x => exact h
    | t l => cases h
  intro n hn
  unfold foot at hn
  split at hn
  · rename_i t x y
    exact ⟨x, by simp [Op.operands], one _ _ (by simpa using hn)⟩
  · rename_i t x
    exact ⟨x, by simp [Op.operands], one _ _ (by simpa using hn)⟩
  · rename_i t x lo hi mx
    exact ⟨x, by simp [Op.operands], one _ _ (by simpa using hn)⟩
  · simp at hn
  · rename_i c _
    simp only [List.nil_append, List.mem_filterMap] at hn
    obtain ⟨x, h1, h2⟩ := hn
    refine ⟨x, ?_, one _ _ (by rw [h2]; simp)⟩
    obtain ⟨callee, args, ts⟩ := c
    simp at h1
    cases callee <;> simp [Op.operands, Call.operands, h1]
  · simp at hn

theorem calm_edge {ops : Array Oper} (hc : calm ops = true) {i : Nat} {o : Oper} (ho : ops[i]? = some o) {e : Edge} (he : e ∈ o.after) (hb : Region.binds .any e = true) : e.on < i := by
  unfold calm at hc
  have h1 := List.all_eq_true.1 hc (o, i) (List.mk_mem_zipIdx_iff_getElem?.2 (by simpa using ho))
  simp only [Bool.and_eq_true] at h1
  have h2 := Array.all_eq_true_iff_forall_mem.1 h1.1 e he
  simpa [hb] using h2
theorem calm_apart {ops : Array Oper} (hc : calm ops = true) {i j : Nat} {o o' : Oper} (ho : ops[i]? = some o) (ho' : ops[j]? = some o') (hij : i < j) : apart2 ops (((aheads ops.toList).getD j 0).testBit i) o o' = true := by
  unfold calm at hc
  have h1 := List.all_eq_true.1 hc (o, i) (List.mk_mem_zipIdx_iff_getElem?.2 (by simpa using ho))
  simp only [Bool.and_eq_true] at h1
  have h2 := List.all_eq_true.1 h1.2 (o', j) (List.mk_mem_zipIdx_iff_getElem?.2 (by simpa using ho'))
  simp only [Bool.or_eq_true, decide_eq_true_eq] at h2
  exact h2.resolve_left (by omega)

section
variable {E : Env} {B : Nat} {w0 : World} {ab : Nat → Prop} {ops : Array Oper} {tms : Nat → List V} {ms : Nat → Mem} {vs : Nat → V} {ex : Nat → Bool}

abbrev Tr (P : Program) (ops : Array Oper) (tms : Nat → List V) (ms : Nat → Mem) (vs : Nat → V) (ex : Nat → Bool) : Prop := Trace P ops (aheads ops.toList) ops.toList 0 [] tms ms vs ex

theorem tr_step (hT : Tr P ops tms ms vs ex) {i : Nat} {o : Oper} (ho : ops[i]? = some o) : StepOK P ops o (tms i) (ms i) (vs i) (ex i) (tms (i + 1)) (ms (i + 1)) := by
  have := hT.step i o (by simpa using ho)
  simpa using this
theorem tr_pair (hT : Tr P ops tms ms vs ex) {i j : Nat} {o o' : Oper} (ho : ops[i]? = some o) (ho' : ops[j]? = some o') (hij : i < j) (hi : ex i = true) (hj : ex j = true) :
    ((aheads ops.toList).getD j 0).testBit i = true ∨ friendly (foot (tms i) o.op) (foot (tms j) o'.op) := by
  have := hT.pair j o' i o (by simpa using ho') (by simpa using hj) hij (by simpa using ho) (by simpa using hi)
  simpa using this

def writes (ops : Array Oper) (tms : Nat → List V) (ex : Nat → Bool) (i n : Nat) : Prop := ∃ o, ops[i]? = some o ∧ ex i = true ∧ n ∈ (foot (tms i) o.op).1
def lays (ops : Array Oper) (i t : Nat) : Prop := ∃ o, ops[i]? = some o ∧ o.dst = some t
def born (ms : Nat → Mem) (K : Nat) (D : Nat → Prop) (n : Nat) : Prop := n < (ms 0).length ∨ ∃ q, q < K ∧ D q ∧ (ms q).length ≤ n ∧ n < (ms (q + 1)).length

theorem tr_mono (hT : Tr P ops tms ms vs ex) {i : Nat} : ∀ {j : Nat}, i ≤ j → j ≤ ops.size → (ms i).length ≤ (ms j).length ∧ ∀ n, n < (ms i).length → (mineAt (ms j) n ↔ mineAt (ms i) n) ∧ blkN (ms j) n = blkN (ms i) n := by
  intro j hij
  induction hij with
  | refl => exact fun _ => ⟨Nat.le_refl _, fun _ _ => ⟨Iff.rfl, rfl⟩⟩
  | @step j hij ih =>
    intro hj
    obtain ⟨h1, h2⟩ := ih (by omega)
    have hs := (tr_step hT (Array.getElem?_eq_getElem (show j < ops.size by omega))).sts
    refine ⟨Nat.le_trans h1 hs.1.1, fun n hn => ?_⟩
    have hn' : n < (ms j).length := by omega
    obtain ⟨g1, g2⟩ := h2 n hn
    refine ⟨⟨fun h => g1.1 (hs.1.2.1 n hn' h), fun h => hs.2.1 n hn' (g1.2 h)⟩, ?_⟩
    rw [← g2]
    apply Option.ext
    intro c
    exact ⟨fun h => hs.1.2.2 n c hn' h, fun h => hs.2.2 n c hn' h⟩
theorem tr_same (hT : Tr P ops tms ms vs ex) {i n : Nat} (hn : n < (ms i).length) : ∀ {j : Nat}, i ≤ j → j ≤ ops.size → (∀ q, i ≤ q → q < j → ¬ writes ops tms ex q n) → (ms j)[n]? = (ms i)[n]? := by
  intro j hij
  induction hij with
  | refl => exact fun _ _ => rfl
  | @step j hij ih =>
    intro hj hw
    have hlt : j < ops.size := by omega
    have hs := tr_step hT (Array.getElem?_eq_getElem hlt)
    have hlen := (tr_mono hT hij (by omega)).1
    rw [← ih (by omega) (fun q h1 h2 => hw q h1 (by omega))]
    cases hx : ex j with
    | false => rw [(hs.skip hx).2]
    | true =>
      rcases (hs.shape hx).2 with ⟨_, nb, e⟩ | ⟨k, blk', hf, _, e, _⟩
      · rw [e, List.getElem?_append_left (by omega)]
      · rw [e, List.getElem?_set_ne]
        intro e'
        subst e'
        exact hw j hij (by omega) ⟨_, Array.getElem?_eq_getElem hlt, hx, by rw [hf]; simp⟩
theorem tr_sameT (hT : Tr P ops tms ms vs ex) {i t : Nat} : ∀ {j : Nat}, i ≤ j → j ≤ ops.size → (∀ q, i ≤ q → q < j → ¬ lays ops q t) → (tms j).length = (tms i).length ∧ getT (tms j) t = getT (tms i) t := by
  intro j hij
  induction hij with
  | refl => exact fun _ _ => ⟨rfl, rfl⟩
  | @step j hij ih =>
    intro hj hw
    have hlt : j < ops.size := by omega
    have hs := tr_step hT (Array.getElem?_eq_getElem hlt)
    obtain ⟨g1, g2⟩ := ih (by omega) (fun q h1 h2 => hw q h1 (by omega))
    rw [← g1, ← g2, hs.next, length_putT, getT_putT, if_neg]
    · exact ⟨rfl, rfl⟩
    · intro h
      exact hw j hij (by omega) ⟨_, Array.getElem?_eq_getElem hlt, h.1⟩
theorem tr_len (hT : Tr P ops tms ms vs ex) : ∀ {j : Nat}, j ≤ ops.size → (tms j).length = (tms 0).length := by
  intro j
  induction j with
  | zero => exact fun _ => rfl
  | succ j ih =>
    intro hj
    rw [(tr_step hT (Array.getElem?_eq_getElem (show j < ops.size by omega))).next, length_putT, ih (by omega)]

/-- Some operations of a drawn region are done: D. -/
structure Dr (B : Nat) (w0 : World) (ab : Nat → Prop) (ops : Array Oper) (tms : Nat → List V) (ms : Nat → Mem) (ex : Nat → Bool) (D : Nat → Prop) (ρ : Nm) (mD : Mem) (a : Act) (w : World) : Prop where
  inv : Inv B w0 ab ρ mD w
  len : mD.length = (ms ops.size).length
  size : (tms 0).length = a.tmps.size
  defers : a.defers = []
  closed : ∀ i j, D j → ((aheads ops.toList).getD j 0).testBit i = true → D i
  slots : ∀ t τ, τ ≤ ops.size → (∀ q, lays ops q t → (D q ↔ q < τ)) → VR ρ mD w (getT (tms τ) t) (a.tmps.getD t undef) ∧ ∀ n, n ∈ namesV (getT (tms τ) t) → born ms ops.size D n
  cells : ∀ n τ, τ ≤ ops.size → n < (ms τ).length → born ms ops.size D n → (∀ q, writes ops tms ex q n → (D q ↔ q < τ)) → mD[n]? = (ms τ)[n]?
  wborn : ∀ q n, D q → writes ops tms ex q n → born ms ops.size D n
  like : ∀ n τ, τ ≤ ops.size → n < (ms τ).length → born ms ops.size D n → (mineAt mD n ↔ mineAt (ms τ) n) ∧ blkN mD n = blkN (ms τ) n

def plus (D : Nat → Prop) (i : Nat) : Nat → Prop := fun j => D j ∨ j = i
theorem born_plus {D : Nat → Prop} {K i n : Nat} (h : born ms K D n) : born ms K (plus D i) n := h.imp id fun ⟨q, h1, h2, h3⟩ => ⟨q, h1, .inl h2, h3⟩

variable {D : Nat → Prop} {ρ : Nm} {mD : Mem} {a : Act} {w : World} {i : Nat} {o : Oper}

theorem dr_ahead (hD : Dr B w0 ab ops tms ms ex D ρ mD a w) (ho : ops[i]? = some o) (hr : ∀ e ∈ o.after, Region.binds .any e = true → D e.on) {j : Nat} (h : ((aheads ops.toList).getD i 0).testBit j = true) : D j := by
  obtain ⟨e, h1, h2, _, h4⟩ := aheads_bits ops.toList i j o (by simpa using ho) h
  rcases h4 with rfl | h4
  · exact hr e h1 h2
  · exact hD.closed _ _ (hr e h1 h2) h4

/-- An operation that may be done now sees what it sees in the text's order. -/
theorem dr_look (hc : calm ops = true) (hD : Dr B w0 ab ops tms ms ex D ρ mD a w) (ho : ops[i]? = some o) (hi : ¬ D i) (hr : ∀ e ∈ o.after, Region.binds .any e = true → D e.on) {t : Nat} (ht : t ∈ looks ops o) :
    VR ρ mD w (getT (tms i) t) (a.tmps.getD t undef) ∧ ∀ n, n ∈ namesV (getT (tms i) t) → born ms ops.size D n := by
  have hlt : i < ops.size := (Array.getElem?_eq_some_iff.1 ho).1
  refine hD.slots t i (by omega) fun q ⟨o', ho', hd⟩ => ?_
  rcases Nat.lt_trichotomy q i with h | rfl | h
  · refine ⟨fun _ => h, fun _ => dr_ahead hD ho hr ?_⟩
    have := calm_apart hc ho' ho h
    simp only [apart2, hd, Bool.and_eq_true, Bool.or_eq_true, Bool.not_eq_true', List.contains_eq_mem, decide_eq_false_iff_not] at this
    exact this.1.1.resolve_right (fun h => h ht)
  · exact ⟨fun h => absurd h hi, fun h => absurd h (Nat.lt_irrefl _)⟩
  · refine ⟨fun hq => absurd (hD.closed i q hq ?_) hi, fun h' => by omega⟩
    have := calm_apart hc ho ho' h
    simp only [apart2, hd, Bool.and_eq_true, Bool.or_eq_true, Bool.not_eq_true', List.contains_eq_mem, decide_eq_false_iff_not] at this
    exact this.2.resolve_right (fun h => h ht)
theorem dr_opnd (hc : calm ops = true) (hD : Dr B w0 ab ops tms ms ex D ρ mD a w) (ho : ops[i]? = some o) (hi : ¬ D i) (hr : ∀ e ∈ o.after, Region.binds .any e = true → D e.on) {x : Operand} (hx : x ∈ o.op.operands) :
    VR ρ mD w (opnd (tms i) x) (a.eval x) ∧ ∀ n, n ∈ namesV (opnd (tms i) x) → born ms ops.size D n := by
  cases x with
  | tmp t => exact dr_look hc hD ho hi hr (by
      unfold looks
      rw [List.mem_append, List.mem_filterMap]
      exact .inl ⟨.tmp t, by simpa using hx, rfl⟩)
  | const v =>
    refine ⟨vr_const v, fun n hn => ?_⟩
    exfalso
    have h := vr_names (ρ := fun _ => none) (m := []) (w := w) (x := .o (constV v)) (vr_const v) n hn
    simp at h
  | global g => exact ⟨trivial, fun n hn => by simp [opnd, namesV, nameOf] at hn⟩
  | func f => exact ⟨trivial, fun n hn => by simp [opnd, namesV, nameOf] at hn⟩

theorem dr_wanted (hT : Tr P ops tms ms vs ex) (hc : calm ops = true) (hD : Dr B w0 ab ops tms ms ex D ρ mD a w) (ho : ops[i]? = some o) (hi : ¬ D i) (hr : ∀ e ∈ o.after, Region.binds .any e = true → D e.on) :
    Region.wanted o (yielded ops a.tmps) = ex i := by
  have hw := (tr_step hT ho).want
  unfold wantV at hw
  cases hg : o.guard with
  | none =>
    rw [hg] at hw
    simp only [Option.some.injEq] at hw
    rw [← hw]
    simp [Region.wanted, hg]
  | some q =>
    obtain ⟨j, want⟩ := q
    rw [hg] at hw
    simp only at hw
    split at hw
    case h_2 => cases hw
    rename_i d hd
    split at hw
    case h_3 => cases hw
    case h_2 =>
      rename_i hb
      have hl := (dr_look hc hD ho hi hr (t := d) (by simp [looks, hg, hd])).1
      rw [hb] at hl
      obtain ⟨rs, h1, _⟩ := hl
      have h2 : a.tmps[d]? = some (.tuple rs.toArray) ∨ a.tmps[d]? = none := by
        cases hq : a.tmps[d]? with
        | none => exact .inr rfl
        | some v => rw [Array.getD_eq_getD_getElem?, hq] at h1; simp at h1; rw [h1]; exact .inl rfl
      have hy : yielded ops a.tmps j = none := by rcases h2 with h2 | h2 <;> simp [yielded, hd, h2]
      simp only [Option.some.injEq] at hw
      rw [← hw]
      cases want <;> simp [Region.wanted, hg, hy]
    rename_i b hb
    have hl := (dr_look hc hD ho hi hr (t := d) (by simp [looks, hg, hd])).1
    rw [hb] at hl
    have h1 : a.tmps.getD d undef = .bool b := hl.1
    have h2 : a.tmps[d]? = some (.bool b) := by
      cases hq : a.tmps[d]? with
      | none => rw [Array.getD_eq_getD_getElem?, hq] at h1; cases h1
      | some v => rw [Array.getD_eq_getD_getElem?, hq] at h1; simp at h1; rw [h1]
    have hy : yielded ops a.tmps j = some b := by simp [yielded, hd, h2]
    simp only [Option.some.injEq] at hw
    rw [← hw]
    simp [Region.wanted, hg, hy]

theorem dr_foot (hT : Tr P ops tms ms vs ex) (hc : calm ops = true) (hD : Dr B w0 ab ops tms ms ex D ρ mD a w) (ho : ops[i]? = some o) (hi : ¬ D i) (hr : ∀ e ∈ o.after, Region.binds .any e = true → D e.on) (hx : ex i = true)
    {n : Nat} (hn : n ∈ (foot (tms i) o.op).1 ++ (foot (tms i) o.op).2) : born ms ops.size D n ∧ n < (ms i).length ∧ mD[n]? = (ms i)[n]? := by
  have hlt : i < ops.size := (Array.getElem?_eq_some_iff.1 ho).1
  obtain ⟨x, hxo, hxn⟩ := foot_names _ _ n hn
  have hb := (dr_opnd hc hD ho hi hr hxo).2 n hxn
  have hl : n < (ms i).length := by
    cases x with
    | tmp t => exact (tr_step hT ho).names t n hxn
    | const v =>
      exfalso
      have h := vr_names (ρ := fun _ => none) (m := []) (w := w) (x := .o (constV v)) (vr_const v) n hxn
      simp at h
    | global g => simp [opnd, namesV, nameOf] at hxn
    | func f => simp [opnd, namesV, nameOf] at hxn
  refine ⟨hb, hl, hD.cells n i (by omega) hl hb fun q ⟨o', ho', hx', hn'⟩ => ?_⟩
  rcases Nat.lt_trichotomy q i with h | rfl | h
  · refine ⟨fun _ => h, fun _ => dr_ahead hD ho hr ?_⟩
    refine (tr_pair hT ho' ho h hx' hx).resolve_right fun hf => ?_
    have := hf.1 n hn'
    rcases List.mem_append.1 hn with h1 | h1
    · exact this.1 h1
    · exact this.2 h1
  · exact ⟨fun h => absurd h hi, fun h => absurd h (Nat.lt_irrefl _)⟩
  · refine ⟨fun hq => absurd (hD.closed i q hq ?_) hi, fun h' => by omega⟩
    refine (tr_pair hT ho ho' h hx hx').resolve_right fun hf => ?_
    rcases List.mem_append.1 hn with h1 | h1
    · exact (hf.1 n h1).1 hn'
    · exact (hf.2 n hn').2 h1

/-- Slots, after one more operation. -/
theorem dr_slots (hT : Tr P ops tms ms vs ex) (hc : calm ops = true) (hD : Dr B w0 ab ops tms ms ex D ρ mD a w) (ho : ops[i]? = some o) (hi : ¬ D i) {ρ' : Nm} {mD' : Mem} {w' : World} {rv : Value}
    (hk : ∀ x rx, VR ρ mD w x rx → (∀ n, n ∈ namesV x → born ms ops.size D n) → VR ρ' mD' w' x rx) (hv : VR ρ' mD' w' (vs i) rv) (hvn : ∀ n, n ∈ namesV (vs i) → born ms ops.size (plus D i) n) :
    ∀ t τ, τ ≤ ops.size → (∀ q, lays ops q t → (plus D i q ↔ q < τ)) → VR ρ' mD' w' (getT (tms τ) t) ((a.put o.dst rv).tmps.getD t undef) ∧ ∀ n, n ∈ namesV (getT (tms τ) t) → born ms ops.size (plus D i) n := by
  have hlt : i < ops.size := (Array.getElem?_eq_some_iff.1 ho).1
  intro t τ hτ hcons
  by_cases hl : o.dst = some t
  · have h1 : i < τ := (hcons i ⟨o, ho, hl⟩).1 (.inr rfl)
    have huniq : ∀ q, lays ops q t → q = i := by
      rintro q ⟨o', ho', hd⟩
      rcases Nat.lt_trichotomy q i with h | h | h
      · have := calm_apart hc ho' ho h
        simp [apart2, hd, hl] at this
      · exact h
      · have := calm_apart hc ho ho' h
        simp [apart2, hd, hl] at this
    have h2 := (tr_sameT hT (i := i + 1) (t := t) (j := τ) h1 hτ (fun q hq1 _ hq => by have := huniq q hq; omega)).2
    rw [h2, (tr_step hT ho).next, getT_putT, getD_put, hl, tr_len hT (by omega), hD.size]
    by_cases hs : t < a.tmps.size
    · rw [if_pos ⟨rfl, hs⟩, if_pos ⟨rfl, hs⟩]
      exact ⟨hv, hvn⟩
    · rw [if_neg (fun h => hs h.2), if_neg (fun h => hs h.2)]
      have : getT (tms i) t = .o .u := by
        unfold getT
        rw [List.getD_eq_getElem?_getD, List.getElem?_eq_none (by rw [tr_len hT (by omega), hD.size]; omega)]
        rfl
      rw [this]
      exact ⟨trivial, fun n hn => by simp [namesV, nameOf] at hn⟩
  · have hne : ∀ q, lays ops q t → q ≠ i := by
      rintro q ⟨o', ho', hd⟩ rfl
      rw [ho] at ho'
      cases ho'
      exact hl hd
    obtain ⟨g1, g2⟩ := hD.slots t τ hτ fun q hq => by
      rw [← hcons q hq]
      exact ⟨.inl, fun h => h.resolve_right (hne q hq)⟩
    rw [getD_put, if_neg (fun h => hl h.1)]
    exact ⟨hk _ _ g1 g2, fun n hn => born_plus (g2 n hn)⟩
theorem dr_closed (hD : Dr B w0 ab ops tms ms ex D ρ mD a w) (ho : ops[i]? = some o) (hr : ∀ e ∈ o.after, Region.binds .any e = true → D e.on) :
    ∀ k j, plus D i j → ((aheads ops.toList).getD j 0).testBit k = true → plus D i k := by
  rintro k j (h | rfl) hb
  · exact .inl (hD.closed k j h hb)
  · exact .inl (dr_ahead hD ho hr hb)
end
end Go.Vm
