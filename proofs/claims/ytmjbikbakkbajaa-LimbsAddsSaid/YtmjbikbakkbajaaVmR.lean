/-
  Regions that draw their order: what the text's order comes to, operation by operation. No statement is proved here.
-/
import Derived.Test.YtmjbikbakkbajaaVmQ
namespace Go.Vm
open Go.RowKit (Below)
variable {P : Program}

theorem does_exists {o : Oper} {a : Act} {w : World} {post : Value → World → Prop} (h : Does P o a w post) : ∃ rv w', post rv w' := by
  have h1 := h (fun _ _ => ∃ rv w', post rv w') (fun _ _ _ => ∃ rv w', post rv w') (fun rv w' hp => ⟨rv, w', hp⟩)
  unfold Oper.wp at h1
  generalize (execOp a.eval o).run P w = x at h1
  cases x with
  | ok n w' =>
    cases n <;> simp only [Oper.upon] at h1 <;> first | exact h1 | skip
    · obtain ⟨e, w2, _, h2, _⟩ := h1 []
      cases e with
      | returned v => exact h2
      | panicked c => exact h2
      | outgrown => obtain ⟨_, _, h3⟩ := h2; exact h3
    · obtain ⟨_, _, h2, _⟩ := h1 default []
      exact h2
  | halt q w' => cases q <;> simp only [Oper.upon] at h1 <;> exact h1

/-- Is an operation wanted, by what is told? -/
def wantV (ops : Array Oper) (tm : List V) (o : Oper) : Option Bool := match o.guard with
  | none => some true
  | some (j, want) => match (ops[j]?).bind (·.dst) with
    | some d => match getT tm d with
      | .o (.p (.bool b)) => some (b == want)
      | .t [] => some false
      | _ => none
    | none => none

/-- Two operations do not touch one block, if one of them writes it. -/
def noClash (f g : List Nat × List Nat) : Prop := ∀ n, n ∈ f.1 → n ∉ g.1 ∧ n ∉ g.2
def friendly (f g : List Nat × List Nat) : Prop := noClash f g ∧ noClash g f

structure StepOK (P : Program) (ops : Array Oper) (o : Oper) (tm : List V) (m : Mem) (v : V) (ex : Bool) (tm' : List V) (m' : Mem) : Prop where
  next : tm' = putT tm o.dst v
  want : wantV ops tm o = some ex
  names : ∀ t n, n ∈ namesV (getT tm t) → n < m.length
  skip : ex = false → v = .t [] ∧ m' = m
  more : ex = true → writesMore o.op = false
  eff : ex = true → OpEff P o tm m v m'
  shape : ex = true → Shape tm m o.op v m'
  sts : StLe m m' ∧ (∀ i, i < m.length → mineAt m i → mineAt m' i) ∧ (∀ i n, i < m.length → blkN m i = some n → blkN m' i = some n)

theorem vr_names {ρ : Nm} {m : Mem} {w : World} {x : V} {rx : Value} (h : VR ρ m w x rx) : ∀ n, n ∈ namesV x → n < m.length := by
  have one : ∀ {y : V0} {ry : Value}, VR0 ρ m w y ry → ∀ n, nameOf (.o y) = some n → n < m.length := by
    intro y ry h n hn
    cases y <;> cases hn
    · exact h.1
    · exact h.1
    · exact h.1
  intro n hn
  cases x with
  | o y => simp only [namesV, Option.mem_toList] at hn; exact one h n hn
  | t l =>
    obtain ⟨rs, _, h2⟩ := h
    obtain ⟨y, hy, hn⟩ := List.mem_filterMap.1 hn
    have : ∀ (l : List V0) (rs : List Value), all2 (VR0 ρ m w) l rs → ∀ y, y ∈ l → ∃ ry, VR0 ρ m w y ry := by
      intro l
      induction l with
      | nil => intro _ _ y hy; cases hy
      | cons z' l ih =>
        intro rs h y hy
        match rs, h with
        | r :: rs, h =>
          rcases List.mem_cons.1 hy with rfl | hy
          · exact ⟨r, h.1⟩
          · exact ih rs h.2 y hy
    obtain ⟨ry, hr⟩ := this l rs h2 y hy
    exact one hr n hn

theorem shape_sts {tm : List V} {m m' : Mem} {o : Op} {v : V} (h : Shape tm m o v m') : StLe m m' ∧ (∀ i, i < m.length → mineAt m i → mineAt m' i) ∧ (∀ i n, i < m.length → blkN m i = some n → blkN m' i = some n) := by
  rcases h.2 with ⟨_, nb, rfl⟩ | ⟨n, blk', hf, _, rfl, hmn, hsame⟩
  · refine ⟨StLe.append m nb, fun i hi ⟨b, hb⟩ => ⟨b, by rw [List.getElem?_append_left hi, hb]⟩, fun i n hi hb => ?_⟩
    unfold blkN at hb ⊢
    rwa [List.getElem?_append_left hi]
  · obtain ⟨b0, hb0⟩ := hmn
    have hlt : n < m.length := (List.getElem?_eq_some_iff.1 hb0).1
    refine ⟨StLe.set m n .mine blk' (fun _ => ⟨b0, hb0⟩) (fun k q xs e => ?_), fun i hi ⟨b, hb⟩ => ?_, fun i q hi hb => ?_⟩
    · rw [← hsame]
      unfold blkN
      rw [List.getElem?_set_self hlt, e]
    · by_cases e : n = i
      · subst e; exact ⟨blk', List.getElem?_set_self hi⟩
      · exact ⟨b, by rw [List.getElem?_set_ne e, hb]⟩
    · by_cases e : n = i
      · subst e; rw [hsame, hb]
      · unfold blkN at hb ⊢
        rwa [List.getElem?_set_ne e]
end Go.Vm
