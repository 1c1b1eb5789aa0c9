/-
  The trace of a drawn region in the text's order. No statement is proved here.
-/
import Derived.Test.YtmjbikbakkbajaaVmR
namespace Go.Vm
open Go.RowKit (Below)
variable {P : Program}

/-- What stands ahead, by its bits. -/
theorem ahead_fold (acc : List Nat) (j : Nat) : ∀ (es : List Edge) (s : Nat), (es.foldl (fun s e => bif Region.binds .any e && decide (e.on < acc.length) then s ||| (2 ^ e.on) ||| acc.getD e.on 0 else s) s).testBit j = true →
    s.testBit j = true ∨ ∃ e, e ∈ es ∧ Region.binds .any e = true ∧ e.on < acc.length ∧ (j = e.on ∨ (acc.getD e.on 0).testBit j = true)
  | [], s, h => .inl h
  | e :: es, s, h => by
    rw [List.foldl_cons] at h
    rcases ahead_fold acc j es _ h with h1 | ⟨e', h1, h2⟩
    · cases hc : (Region.binds .any e && decide (e.on < acc.length)) with
      | false => rw [hc] at h1; exact .inl h1
      | true =>
        rw [hc] at h1
        simp only [cond_true, Nat.testBit_or, Bool.or_eq_true] at h1
        obtain ⟨k1, k2⟩ := Bool.and_eq_true_iff.1 hc
        rcases h1 with (h1 | h1) | h1
        · exact .inl h1
        · right
          refine ⟨e, by simp, k1, of_decide_eq_true k2, .inl ?_⟩
          rw [Nat.testBit_two_pow] at h1
          exact (of_decide_eq_true h1).symm
        · exact .inr ⟨e, by simp, k1, of_decide_eq_true k2, .inr h1⟩
    · exact .inr ⟨e', by simp [h1], h2⟩
theorem aheadsFrom_len : ∀ (l : List Oper) (acc : List Nat), (aheadsFrom l acc).length = acc.length + l.length ∧ ∀ i, i < acc.length → (aheadsFrom l acc).getD i 0 = acc.getD i 0
  | [], acc => ⟨by simp [aheadsFrom], fun _ _ => rfl⟩
  | o :: l, acc => by
    obtain ⟨h1, h2⟩ := aheadsFrom_len l (acc ++ [aheadOf acc o.after.toList])
    refine ⟨by rw [aheadsFrom, h1]; simp; omega, fun i hi => ?_⟩
    rw [aheadsFrom, h2 i (by simp; omega)]
    simp [List.getD_eq_getElem?_getD, List.getElem?_append_left hi]
theorem aheadsFrom_bits : ∀ (l : List Oper) (acc : List Nat) (i : Nat) (o : Oper), l[i]? = some o → ∀ j, ((aheadsFrom l acc).getD (acc.length + i) 0).testBit j = true →
    ∃ e, e ∈ o.after ∧ Region.binds .any e = true ∧ e.on < acc.length + i ∧ (j = e.on ∨ ((aheadsFrom l acc).getD e.on 0).testBit j = true)
  | [], acc, i, o, h, j, hj => by simp at h
  | o' :: l, acc, 0, o, h, j, hj => by
    simp only [List.getElem?_cons_zero, Option.some.injEq] at h
    subst h
    obtain ⟨h1, h2⟩ := aheadsFrom_len l (acc ++ [aheadOf acc o'.after.toList])
    rw [aheadsFrom, h2 _ (by simp), List.getD_eq_getElem?_getD, Nat.add_zero, List.getElem?_append_right (Nat.le_refl _)] at hj
    simp only [Nat.sub_self, List.getElem?_cons_zero, Option.getD_some] at hj
    rcases ahead_fold acc j _ _ hj with h3 | ⟨e, k1, k2, k3, k4⟩
    · simp at h3
    · refine ⟨e, by simpa using k1, k2, by omega, k4.imp id fun k4 => ?_⟩
      rw [(aheadsFrom_len (o' :: l) acc).2 _ k3]
      exact k4
  | o' :: l, acc, i + 1, o, h, j, hj => by
    have := aheadsFrom_bits l (acc ++ [aheadOf acc o'.after.toList]) i o (by simpa using h) j (by rw [aheadsFrom] at hj; rw [show (acc ++ [aheadOf acc o'.after.toList]).length + i = acc.length + (i + 1) from by simp; omega]; exact hj)
    obtain ⟨e, k1, k2, k3, k4⟩ := this
    exact ⟨e, k1, k2, by simp at k3; omega, k4⟩
/-- Whoever stands ahead by an edge, or ahead of such a one. -/
theorem aheads_bits (ops : List Oper) (i j : Nat) (o : Oper) (h : ops[i]? = some o) (hj : ((aheads ops).getD i 0).testBit j = true) :
    ∃ e, e ∈ o.after ∧ Region.binds .any e = true ∧ e.on < i ∧ (j = e.on ∨ ((aheads ops).getD e.on 0).testBit j = true) := by
  have := aheadsFrom_bits ops [] i o h j (by simpa [aheads] using hj)
  simpa [aheads] using this

section
variable {E : Env} {B : Nat} {w0 : World} {ab : Nat → Prop} {r : List (Own × D)}

/-- A region's way in the text's order. -/
structure Trace (P : Program) (all : Array Oper) (L : List Nat) (rest : List Oper) (i : Nat) (acc : Foots) (tms : Nat → List V) (ms : Nat → Mem) (vs : Nat → V) (ex : Nat → Bool) : Prop where
  step : ∀ k o, rest[k]? = some o → StepOK P all o (tms (i + k)) (ms (i + k)) (vs (i + k)) (ex (i + k)) (tms (i + k + 1)) (ms (i + k + 1))
  past : ∀ k o, rest[k]? = some o → ex (i + k) = true → ∀ q, q ∈ acc → (L.getD (i + k) 0).testBit q.1 = true ∨ friendly q.2 (foot (tms (i + k)) o.op)
  pair : ∀ k o k' o', rest[k]? = some o → ex (i + k) = true → k' < k → rest[k']? = some o' → ex (i + k') = true → (L.getD (i + k) 0).testBit (i + k') = true ∨ friendly (foot (tms (i + k')) o'.op) (foot (tms (i + k)) o.op)

theorem friendly_of {a : Nat} {acc : Foots} {f : List Nat × List Nat} (h : clash a acc f = false) : ∀ q, q ∈ acc → a.testBit q.1 = true ∨ friendly q.2 f := by
  intro q hq
  unfold clash at h
  rw [List.any_eq_false] at h
  have h1 := h q hq
  cases ht : a.testBit q.1 with
  | true => exact .inl rfl
  | false =>
    right
    rw [ht] at h1
    simp only [Bool.not_false, Bool.true_and, Bool.or_eq_true, List.any_eq_true, not_or, not_exists, not_and, List.contains_iff_mem] at h1
    exact ⟨fun n hn => ⟨fun hn' => (h1.1 n hn').1 hn, h1.2 n hn⟩, fun n hn => h1.1 n hn⟩

theorem trace_exists (hE : EnvOK P E) (all : Array Oper) (L : List Nat) {κ : List V → Mem → R} : ∀ (rest : List Oper) (i : Nat) (acc : Foots) (ρ : Nm) (tm : List V) (m : Mem) (a : Act) (w : World), St B w0 ab ρ tm m a w →
    evOps E all (some L) rest i acc tm m κ = some r → ∃ (tms : Nat → List V) (ms : Nat → Mem) (vs : Nat → V) (ex : Nat → Bool), tms i = tm ∧ ms i = m ∧ κ (tms (i + rest.length)) (ms (i + rest.length)) = some r ∧ Trace P all L rest i acc tms ms vs ex
  | [], i, acc, ρ, tm, m, a, w, hS, h => ⟨fun _ => tm, fun _ => m, fun _ => .o .u, fun _ => false, rfl, rfl, h, ⟨fun k o h => by simp at h, fun k o h => by simp at h, fun k o k' o' h => by simp at h⟩⟩
  | o :: rest, i, acc, ρ, tm, m, a, w, hS, h => by
    -- one step, then the rest
    have join : ∀ (v : V) (e : Bool) (m' : Mem) (acc' : Foots), StepOK P all o tm m v e (putT tm o.dst v) m' →
        (e = true → (∀ q, q ∈ acc → (L.getD i 0).testBit q.1 = true ∨ friendly q.2 (foot tm o.op)) ∧ acc' = (i, foot tm o.op) :: acc) → (e = false → acc' = acc) →
        (∃ (tms : Nat → List V) (ms : Nat → Mem) (vs : Nat → V) (ex : Nat → Bool), tms (i + 1) = putT tm o.dst v ∧ ms (i + 1) = m' ∧ κ (tms (i + 1 + rest.length)) (ms (i + 1 + rest.length)) = some r ∧ Trace P all L rest (i + 1) acc' tms ms vs ex) →
        ∃ (tms : Nat → List V) (ms : Nat → Mem) (vs : Nat → V) (ex : Nat → Bool), tms i = tm ∧ ms i = m ∧ κ (tms (i + (o :: rest).length)) (ms (i + (o :: rest).length)) = some r ∧ Trace P all L (o :: rest) i acc tms ms vs ex := by
      rintro v e m' acc' hs he he' ⟨tms, ms, vs, ex, h1, h2, h3, hT⟩
      have sub : ∀ q, q ∈ acc → q ∈ acc' := by
        intro q hq
        cases e with
        | true => rw [(he rfl).2]; exact List.mem_cons_of_mem _ hq
        | false => rw [he' rfl]; exact hq
      refine ⟨fun j => if j = i then tm else tms j, fun j => if j = i then m else ms j, fun j => if j = i then v else vs j, fun j => if j = i then e else ex j, if_pos rfl, if_pos rfl, ?_, ⟨?_, ?_, ?_⟩⟩
      · have e1 : i + (o :: rest).length = i + 1 + rest.length := by simp; omega
        try dsimp only
        rw [e1, if_neg (by omega), if_neg (by omega)]
        exact h3
      · intro k o' hk
        cases k with
        | zero =>
          simp only [List.getElem?_cons_zero, Option.some.injEq] at hk
          subst hk
          try dsimp only
          rw [if_pos (by omega), if_pos (by omega), if_pos (by omega), if_pos (by omega), if_neg (by omega), if_neg (by omega), Nat.add_zero, h1, h2]
          exact hs
        | succ k =>
          have := hT.step k o' (by simpa using hk)
          try dsimp only
          rw [if_neg (by omega), if_neg (by omega), if_neg (by omega), if_neg (by omega), if_neg (by omega), if_neg (by omega), show i + (k + 1) = i + 1 + k from by omega]
          exact this
      · intro k o' hk hx q hq
        cases k with
        | zero =>
          simp only [List.getElem?_cons_zero, Option.some.injEq] at hk
          subst hk
          try dsimp only at hx ⊢
          rw [if_pos (by omega)] at hx
          rw [if_pos (by omega), Nat.add_zero]
          exact (he hx).1 q hq
        | succ k =>
          try dsimp only at hx ⊢
          rw [if_neg (by omega), show i + (k + 1) = i + 1 + k from by omega] at hx
          rw [if_neg (by omega), show i + (k + 1) = i + 1 + k from by omega]
          exact hT.past k o' (by simpa using hk) hx q (sub q hq)
      · intro k o1 k' o2 hk hx hlt hk' hx'
        cases k with
        | zero => omega
        | succ k =>
          try dsimp only at hx hx' ⊢
          rw [if_neg (by omega), show i + (k + 1) = i + 1 + k from by omega] at hx
          cases k' with
          | zero =>
            simp only [List.getElem?_cons_zero, Option.some.injEq] at hk'
            subst hk'
            rw [if_pos (by omega)] at hx'
            rw [if_pos (by omega), if_neg (by omega), show i + (k + 1) = i + 1 + k from by omega, Nat.add_zero]
            have := hT.past k o1 (by simpa using hk) hx (i, foot tm o.op) (by rw [(he hx').2]; simp)
            exact this
          | succ k' =>
            rw [if_neg (by omega), show i + (k' + 1) = i + 1 + k' from by omega] at hx'
            rw [if_neg (by omega), if_neg (by omega), show i + (k + 1) = i + 1 + k from by omega, show i + (k' + 1) = i + 1 + k' from by omega]
            exact hT.pair k o1 k' o2 (by simpa using hk) hx (by omega) (by simpa using hk') hx'
    have hnames : ∀ t n, n ∈ namesV (getT tm t) → n < m.length := fun t n hn => vr_names (hS.tms t) n hn
    have go : wantV all tm o = some true → (bif writesMore o.op || clash (L.getD i 0) acc (foot tm o.op) then none else opK E tm m o.op fun v m' => evOps E all (some L) rest (i + 1) ((i, foot tm o.op) :: acc) (putT tm o.dst v) m' κ) = some r →
        ∃ (tms : Nat → List V) (ms : Nat → Mem) (vs : Nat → V) (ex : Nat → Bool), tms i = tm ∧ ms i = m ∧ κ (tms (i + (o :: rest).length)) (ms (i + (o :: rest).length)) = some r ∧ Trace P all L (o :: rest) i acc tms ms vs ex := by
      intro hw h
      obtain ⟨hc, h⟩ := cond_none' h
      obtain ⟨hm, hcl⟩ := Bool.or_eq_false_iff.1 hc
      obtain ⟨v, m', h1, h2, h3⟩ := op_eff hE o hm (fun x _ => hS.opnd x) (hS.touch _) h
      obtain ⟨rv, w', ρ', he⟩ := does_exists (h2 ρ a w (fun x _ => hS.opnd x) (hS.touch _))
      obtain ⟨g1, g2, g3⟩ := hS.inv.eff he
      refine join v true m' ((i, foot tm o.op) :: acc) ⟨rfl, hw, hnames, fun h => (by cases h), fun _ => hm, fun _ => h2, fun _ => h3, shape_sts h3⟩ (fun _ => ⟨friendly_of hcl, rfl⟩) (fun h => (by cases h)) ?_
      exact trace_exists hE all L rest (i + 1) _ ρ' _ m' _ w' (hS.put g1 g2 g3 o.dst) h1
    have pass : wantV all tm o = some false → evOps E all (some L) rest (i + 1) acc (putT tm o.dst (.t [])) m κ = some r →
        ∃ (tms : Nat → List V) (ms : Nat → Mem) (vs : Nat → V) (ex : Nat → Bool), tms i = tm ∧ ms i = m ∧ κ (tms (i + (o :: rest).length)) (ms (i + (o :: rest).length)) = some r ∧ Trace P all L (o :: rest) i acc tms ms vs ex := by
      intro hw h
      refine join (.t []) false m acc ⟨rfl, hw, hnames, fun _ => ⟨rfl, rfl⟩, fun h => (by cases h), fun h => (by cases h), fun h => (by cases h), ⟨StLe.refl m, fun _ _ h => h, fun _ _ _ h => h⟩⟩ (fun h => (by cases h)) (fun _ => rfl) ?_
      exact trace_exists hE all L rest (i + 1) acc ρ _ m _ w (hS.put (v := .t []) (rv := undef) hS.inv (fun _ _ h => h) ⟨[], rfl, trivial⟩ o.dst) h
    unfold evOps at h
    cases hg : o.guard with
    | none =>
      rw [hg] at h
      exact go (by simp [wantV, hg]) h
    | some q =>
      obtain ⟨j, want⟩ := q
      rw [hg] at h
      simp only at h
      split at h
      case h_2 => cases h
      rename_i d hd
      split at h
      case h_3 => cases h
      case h_2 =>
        rename_i hb
        exact pass (by simp only [wantV, hg, hd, hb]) h
      rename_i b hb
      have hwv : wantV all tm o = some (b == want) := by simp only [wantV, hg, hd, hb]
      rcases cond_some h with ⟨rfl, h⟩ | ⟨rfl, h⟩
      · rw [set_same tm d _ (.o .u) hb] at h
        cases want
        · exact pass hwv h
        · exact go hwv h
      · rw [set_same tm d _ (.o .u) hb] at h
        cases want
        · exact go hwv h
        · exact pass hwv h
end
end Go.Vm
