/-
  What an operation comes to, wherever it is met: for regions that draw their order. No statement is proved here.
-/
import Derived.Test.YtmjbikbakkbajaaVmP
namespace Go.Vm
open Go.RowKit (Below)
variable {P : Program}

/-- Wherever this operation is met, with operands that read so, it comes to this. -/
def OpEff (P : Program) (o : Oper) (tm : List V) (m : Mem) (v : V) (m' : Mem) : Prop :=
  ∀ (ρ : Nm) (a : Act) (w : World), (∀ x ∈ o.op.operands, VR ρ m w (opnd tm x) (a.eval x)) → Touch ρ m w ((foot tm o.op).1 ++ (foot tm o.op).2) →
    Does P o a w fun rv w' => ∃ ρ', Eff ρ m w (foot tm o.op) v m' rv w' ρ'

section
variable {E : Env} {tm : List V} {m : Mem} {κ : V → Mem → R} {r : List (Own × D)}

theorem det_content {v : V} {κ' : D → R} (h : contentK m v κ' = some r) : ∃ d, ∀ κ : D → R, contentK m v κ = κ d := by
  unfold contentK at h
  split at h
  · exact ⟨_, fun κ => rfl⟩
  · exact ⟨_, fun κ => rfl⟩
  · exact ⟨_, fun κ => rfl⟩
  · exact ⟨_, fun κ => rfl⟩
  · rename_i i
    split at h
    · rename_i hm
      exact ⟨_, fun κ => by simp only [contentK, hm]; rfl⟩
    · cases h
  · rename_i i k n
    split at h
    · rename_i hm
      obtain ⟨hc, h⟩ := cond_none h
      exact ⟨_, fun κ => by simp only [contentK, hm, hc]; rfl⟩
    · rename_i hm
      obtain ⟨hc, h⟩ := cond_none h
      exact ⟨_, fun κ => by simp only [contentK, hm, hc]; rfl⟩
    · cases h
  · cases h
theorem det_contents : ∀ (l : List V) (κ' : List D → R), contentsK m l κ' = some r → ∃ ds, ∀ κ : List D → R, contentsK m l κ = κ ds
  | [], κ', h => ⟨[], fun κ => rfl⟩
  | v :: l, κ', h => by
    simp only [contentsK] at h
    obtain ⟨d, hd⟩ := det_content h
    rw [hd] at h
    obtain ⟨ds, hds⟩ := det_contents l _ h
    exact ⟨d :: ds, fun κ => by simp only [contentsK]; rw [hd, hds]⟩

theorem names_vals : ∀ (res : List (Own × D)) (b : Nat) (x : V0), x ∈ valsOf b res → ∀ n, nameOf (.o x) = some n → b ≤ n ∧ n < b + (blksOf (res.length == 1) res).length := by
  have key : ∀ (one : Bool) (res : List (Own × D)) (b : Nat) (x : V0), x ∈ valsOf b res → ∀ n, nameOf (.o x) = some n → b ≤ n ∧ n < b + (blksOf one res).length := by
    intro one res
    induction res with
    | nil => intro b x hx; simp [valsOf] at hx
    | cons q l ih =>
      intro b x hx n hn
      obtain ⟨ow, d⟩ := q
      cases d with
      | w k xs =>
        simp only [valsOf, List.mem_cons] at hx
        simp only [blksOf, blkOfD, List.length_cons]
        rcases hx with rfl | hx
        · cases hn; omega
        · have := ih (b + 1) x hx n hn; omega
      | c k xs =>
        simp only [valsOf, List.mem_cons] at hx
        simp only [blksOf, blkOfD, List.length_cons]
        rcases hx with rfl | hx
        · cases hn; omega
        · have := ih (b + 1) x hx n hn; omega
      | p v =>
        simp only [valsOf, List.mem_cons] at hx
        simp only [blksOf, blkOfD]
        rcases hx with rfl | hx
        · cases hn
        · exact ih b x hx n hn
      | r k j xs =>
        simp only [valsOf, List.mem_cons] at hx
        simp only [blksOf, blkOfD]
        rcases hx with rfl | hx
        · cases hn
        · exact ih b x hx n hn
      | g vs =>
        simp only [valsOf, List.mem_cons] at hx
        simp only [blksOf, blkOfD]
        rcases hx with rfl | hx
        · cases hn
        · exact ih b x hx n hn
  exact fun res => key _ res

theorem op_eff (hE : EnvOK P E) (o : Oper) (hw : writesMore o.op = false) {ρ : Nm} {a : Act} {w : World} (hx : ∀ x ∈ o.op.operands, VR ρ m w (opnd tm x) (a.eval x)) (hb : Touch ρ m w ((foot tm o.op).1 ++ (foot tm o.op).2))
    (h : opK E tm m o.op κ = some r) : ∃ v m', κ v m' = some r ∧ OpEff P o tm m v m' ∧ Shape tm m o.op v m' := by
  by_cases hc : ∀ f args ts, o.op ≠ .call ⟨.value (.func f), args, ts⟩
  · obtain ⟨v, m', hdet, hsh⟩ := op_det o.op hw hc h
    refine ⟨v, m', (hdet κ).symm.trans h, fun ρ a w hx hb => ?_, hsh⟩
    classical
    have h1 : opK E tm m o.op (fun v2 m2 => if v2 = v ∧ m2 = m' then some [] else none) = some [] := by rw [hdet, if_pos ⟨rfl, rfl⟩]
    obtain ⟨v2, m2, h2, h3⟩ := op_owes hE o hw hx hb h1
    by_cases he : v2 = v ∧ m2 = m'
    · obtain ⟨rfl, rfl⟩ := he
      exact h3
    · simp only [if_neg he] at h2
      cases h2
  · obtain ⟨f, args, ts, ho⟩ : ∃ f args ts, o.op = .call ⟨.value (.func f), args, ts⟩ := by
      refine Classical.byContradiction fun hn => hc fun f args ts e => hn ⟨f, args, ts, e⟩
    obtain ⟨dst, op, ty, pos, after, guard⟩ := o
    dsimp only at *
    subst ho
    have hx' : ∀ {ρ : Nm} {a : Act} {w : World}, (∀ x ∈ (Op.call ⟨.value (.func f), args, ts⟩).operands, VR ρ m w (opnd tm x) (a.eval x)) → ∀ x ∈ args.toList, VR ρ m w (opnd tm x) (a.eval x) :=
      fun hx y hy => hx _ (by simp only [Op.operands, Call.operands]; simp at hy ⊢; exact .inr hy)
    simp only [opK] at h
    split at h
    case h_2 => cases h
    rename_i F hF
    obtain ⟨ds, hds⟩ := det_contents _ _ h
    have real : ∀ (ρ : Nm) (a : Act) (w : World), (∀ x ∈ args.toList, VR ρ m w (opnd tm x) (a.eval x)) → Touch ρ m w (args.toList.filterMap fun x => nameOf (opnd tm x)) →
        all2 (DR w) ds (args.toList.map a.eval) ∧ ∀ v, v ∈ args.toList.map a.eval → ∀ ad n cap, v = .slice (some ad) n cap → n ≠ 0 → ∃ x, x ∈ args.toList ∧ ∃ i o, nameOf (opnd tm x) = some i ∧ liveAt m i ∧ ρ i = some (ad.block, o) := by
      intro ρ a w hx hb
      classical
      have h1 : contentsK m (args.toList.map (opnd tm)) (fun ds2 => if ds2 = ds then some [] else none) = some [] := by rw [hds, if_pos rfl]
      obtain ⟨ds2, h2, h3, h4⟩ := contents_dr (r := []) a.eval tm args.toList _ hx hb h1
      by_cases he : ds2 = ds
      · subst he; exact ⟨h3, h4⟩
      · simp only [if_neg he] at h2; cases h2
    obtain ⟨g1, _⟩ := real ρ a w (hx' hx) (by simpa [foot] using hb)
    rw [hds] at h
    obtain ⟨res, h4, h5⟩ := hE.fn f F hF ds _ r (all_wf ds _ g1) h
    obtain ⟨h6, h7⟩ := cond_none' h4
    rw [resV_eq] at h7
    refine ⟨_, _, h7, fun ρ a w hx hb => ?_, ?_, .inl ⟨rfl, _, rfl⟩⟩
    · obtain ⟨k1, k2⟩ := real ρ a w (hx' hx) (by simpa [foot] using hb)
      exact call_real f args ts k1 k2 h5 h6
    · intro n hn
      left
      have : ∃ x, x ∈ valsOf m.length res ∧ nameOf (.o x) = some n := by
        generalize valsOf m.length res = l at hn
        match l, hn with
        | [], hn => simp [lone, namesV] at hn
        | [x], hn => simp only [lone, namesV] at hn; exact ⟨x, by simp, by simpa using hn⟩
        | x :: y :: l, hn =>
          obtain ⟨q, hz, he⟩ := List.mem_filterMap.1 (show n ∈ (x :: y :: l).filterMap fun x => nameOf (.o x) from hn)
          exact ⟨q, hz, he⟩
      obtain ⟨x, hx1, hx2⟩ := this
      have := names_vals res m.length x hx1 n hx2
      simp only [List.length_append]
      omega
end
end Go.Vm
