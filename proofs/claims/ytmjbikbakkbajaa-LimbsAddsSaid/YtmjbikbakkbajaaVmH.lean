/-
  What one operation of the evaluator does on the machine: slices written out, calls. No statement is proved here.
-/
import Derived.Test.YtmjbikbakkbajaaVmG
namespace Go.Vm
open Go.RowKit (Below)
variable {P : Program}

theorem fill_size (place : Nat → Option (Nat × Nat)) : ∀ (rs : List (Nat × Value)) (cells out : Array Value), Instr.fill place cells rs = some out → out.size = cells.size
  | [], cells, out, h => by simp [Instr.fill] at h; subst h; rfl
  | (i, v) :: rs, cells, out, h => by
    simp only [Instr.fill] at h
    split at h
    · cases h
    · split at h
      · cases h
      · rename_i off size _ _
        have key : ∀ (l : List (Value × Nat)) (A : Array Value), (l.foldl (fun cs q => cs.setIfInBounds (off + q.2) q.1) A).size = A.size := by
          intro l
          induction l with
          | nil => intro A; rfl
          | cons q l ih => intro A; simpa using ih (A.setIfInBounds (off + q.2) q.1)
        have h1 := fill_size place rs _ out h
        rw [h1, ← Array.foldl_toList]
        exact key _ _

section ops
variable {E : Env} {ρ : Nm} {m : Mem} {w : World} {a : Act} {tm : List V} {κ : V → Mem → R} {r : List (Own × D)} {fr : List Nat × List Nat} {dst : Option Tmp} {ty : TypeId} {pos : String} {after : Array Edge} {guard : Option (Nat × Bool)}

theorem op_buildSlice (hE : EnvOK P E) (t : TypeId) (n : Nat) (ps : Array (Nat × Operand)) (hp : ∀ q ∈ ps.toList, VR ρ m w (opnd tm q.2) (a.eval q.2)) (h : opK E tm m (.buildSlice t n ps) κ = some r) :
    Owes P ρ m ⟨dst, .buildSlice t n ps, ty, pos, after, guard⟩ a w fr κ r := by
  simp only [opK] at h
  have hps : (ps.map fun (i, x) => (i, a.eval x)).toList = ps.toList.map fun q => (q.1, a.eval q.2) := by simp
  split at h
  case h_2 => cases h
  rename_i e ht
  have hu := (hE.ty _ _ ht).2.2
  split at h
  · rename_i k he
    obtain ⟨hs, hz, hue, _⟩ := hE.ty _ _ he
    obtain ⟨ie, hi⟩ : ∃ ie, P.info? e = some ie := by
      cases hi : P.info? e with
      | none => rw [hi] at hs; cases hs
      | some ie => exact ⟨ie, rfl⟩
    have e1 : ie.size = 1 := by rw [hi] at hs; simpa [Ty.size] using hs
    have e2 : ie.zero = some (.int k 0) := by rw [hi] at hz; simpa [Ty.real] using hz
    cases hn : (n == 0) <;> rw [hn] at h
    · have hn : n ≠ 0 := by simpa using hn
      change (match buildArr k (List.replicate n 0) (ps.toList.map fun q => (q.1, opnd tm q.2)) with | some xs => _ | none => none) = some r at h
      split at h
      case h_2 => cases h
      rename_i xs hb
      replace h := cond_none h
      obtain ⟨hc, h⟩ := h
      have hc := of_decide_eq_true hc
      obtain ⟨g1, g2, g3⟩ := fill_arr (ρ := ρ) (m := m) (w := w) (a := a) k ps.toList _ _ hp (inR_zero n k) hb
      have hl : xs.length = n := by simpa using g2
      have hf : Instr.fill (fun i => some (i * ie.size, ie.size)) ((Array.range (n * ie.size)).map ((Value.int k 0).cells[· % (Value.int k 0).cells.size]!)) (ps.map fun (i, x) => (i, a.eval x)).toList = some (xs.map (Value.int k)).toArray := by
        rw [hps, e1, ← g1, Nat.mul_one]
        congr 1
        rw [show (Value.int k 0).cells = #[Value.int k 0] from rfl, replicate_zero]
        simp
      have hin : (Blk.w k n xs).inn (xs.map (Value.int k)).toArray := ⟨hl, by unfold lim; omega, g3, fun j v hj => by simpa using hj⟩
      refine ⟨_, _, h, does_value (w' := w.alloc (.cells (xs.map (Value.int k)).toArray e)) (rv := .slice (some ⟨w.heap.size, 0, none⟩) n n) ?_ ⟨_, eff_new _ e _ _ _ hin (vr_news _ e _ _ _ _ (Nat.le_refl _) (by simp; omega) (by unfold lim; omega))⟩⟩
      simp only [execOp, Sem.run_bind, run_buildSlice w t e n _ _ ie _ hu hi e2 (by rw [e1]; omega) (by rw [e1]; omega) hf, Result.andThen_ok]
      rfl
    · have hn : n = 0 := by simpa using hn
      subst hn
      change (bif ps.size == 0 then κ (.o .z) m else none) = some r at h
      obtain ⟨hc, h⟩ := cond_none h
      have hps0 : ps = #[] := Array.eq_empty_of_size_eq_zero (by simpa using hc)
      subst hps0
      have he := Eff.ext (ρ := ρ) (m := m) (w := w) (fr := fr) [] ρ (.o .z) (.slice (some ⟨w.heap.size, 0, none⟩) 0 0) (w.alloc (.cells #[] e)) ((Below.refl _ _).alloc (Nat.le_refl _) _) (fun _ _ => rfl)
        ⟨fun _ _ _ h => by simp at h, fun _ _ h => by simp at h, fun _ _ _ _ _ _ h => by simp at h, fun _ _ h => by simp at h, fun _ _ h => by simp at h, fun _ _ _ h => by simp at h, fun _ _ _ h => by simp at h⟩ ⟨_, rfl⟩
      simp only [List.append_nil] at he
      refine ⟨_, _, h, does_value (w' := w.alloc (.cells #[] e)) (rv := .slice (some ⟨w.heap.size, 0, none⟩) 0 0) ?_ ⟨_, he⟩⟩
      simp [execOp, Instr.buildSlice, run_underlying hu, sizeOf, typeInfo, hi, Instr.fill, newRow, Array.range_zero']
  · rename_i zs fs he
    split at h
    case h_2 => cases h
    rename_i rs hrs
    split at h
    case h_2 => cases h
    rename_i vs hf
    replace h := cond_none h
    obtain ⟨hc, h⟩ := h
    have hc := of_decide_eq_true hc
    obtain ⟨hs, hz, hst, hwf⟩ := hE.ty _ _ he
    obtain ⟨ie, hi⟩ : ∃ ie, P.info? e = some ie := by
      cases hi : P.info? e with
      | none => rw [hi] at hs; cases hs
      | some ie => exact ⟨ie, rfl⟩
    have e1 : ie.size = zs.length := by rw [hi] at hs; simpa [Ty.size] using hs
    have e2 : ie.zero = some (.agg zs.toArray) := by rw [hi] at hz; simpa [Ty.real] using hz
    obtain ⟨g1, g2⟩ := reals_eq (ρ := ρ) (m := m) (w := w) (a := a) ps.toList rs hp hrs
    have hwc : ∀ x ∈ ((Array.range (n * zs.length)).map (zs.toArray[· % zs.toArray.size]!)), wfB x = true := by
      intro x hx
      obtain ⟨q, _, rfl⟩ := Array.mem_map.1 hx
      have hpos : 0 < zs.length := Nat.pos_of_ne_zero (fun e => by rw [e] at hc; omega)
      have hlt : q % zs.toArray.size < zs.toArray.size := Nat.mod_lt _ (by simpa using hpos)
      rw [getElem!_pos zs.toArray _ hlt]
      exact List.all_eq_true.1 hwf _ (by simp)
    have hw := fill_wf _ rs _ _ hwc g2 hf
    have hsz : vs.size = n * zs.length := by rw [hw.2]; simp
    have hn1 : n ≤ n * zs.length := Nat.le_mul_of_pos_right _ (Nat.pos_of_ne_zero (fun e => by rw [e] at hc; omega))
    have hin : (Blk.c vs.toList).inn vs := ⟨fun x hx => hw.1 x (by simpa using hx), fun j v hj => by simpa using hj⟩
    refine ⟨_, _, h, does_value (w' := w.alloc (.cells vs e)) (rv := .slice (some ⟨w.heap.size, 0, none⟩) n n) ?_ ⟨_, eff_new _ e _ _ _ hin (slr_new _ e _ _ _ (Nat.le_refl _) (by omega) (by unfold lim; omega))⟩⟩
    simp only [execOp, Sem.run_bind, run_buildSlice w t e n _ vs ie _ hu hi e2 (by rw [e1]; omega) (by rw [e1]; omega) (by rw [hps, e1, ← g1]; exact hf), Result.andThen_ok]
    rfl
  · cases h

theorem lim_i64 {n : Nat} (h : n ≤ lim) : wfB (.int .i64 (n : Int)) = true := by
  simp only [wfB, IntKind.min, IntKind.max, IntKind.signed, IntKind.bits, lim, Bool.and_eq_true, decide_eq_true_eq] at h ⊢
  simp
  omega
theorem run_builtin (b : Builtin) (ts : Array TypeId) (args : Array Operand) : (execOp a.eval (⟨dst, .call ⟨.builtin b, args, ts⟩, ty, pos, after, guard⟩ : Oper)).run P w =
    (builtin b ts ty (args.map fun | .const _ => true | _ => false) (args.map a.eval)).run P w := by
  simp [execOp, resolve, invoke]
  rfl

/-- The built-in functions that look alone. -/
theorem op_look (hE : EnvOK P E) (b : Builtin) (ts : Array TypeId) (args : Array Operand) (hb : b ≠ .append ∧ b ≠ .copy) (hx : ∀ x ∈ args.toList, VR ρ m w (opnd tm x) (a.eval x))
    (h : builtinK E b ts.toList m (args.toList.map (opnd tm)) κ = some r) : Owes P ρ m ⟨dst, .call ⟨.builtin b, args, ts⟩, ty, pos, after, guard⟩ a w fr κ r := by
  have one : ∀ {x : V}, args.toList.map (opnd tm) = [x] → ∃ y, args = #[y] ∧ opnd tm y = x ∧ VR ρ m w x (a.eval y) := by
    intro x h
    obtain ⟨l⟩ := args
    simp only at h
    match l, h with
    | [y], h =>
      simp at h
      exact ⟨y, rfl, h, h ▸ hx y (by simp)⟩
  have two : ∀ {x z : V}, args.toList.map (opnd tm) = [x, z] → ∃ y u, args = #[y, u] ∧ VR ρ m w x (a.eval y) ∧ VR ρ m w z (a.eval u) := by
    intro x z h
    obtain ⟨l⟩ := args
    simp only at h
    match l, h with
    | [y, u], h =>
      simp at h
      exact ⟨y, u, rfl, h.1 ▸ hx y (by simp), h.2 ▸ hx u (by simp)⟩
  unfold builtinK at h
  split at h
  · rename_i x hargs
    split at h
    case h_2 => cases h
    rename_i t tl hts
    obtain ⟨y, rfl, -, hv⟩ := one hargs
    have ht0 : ts[0]? = some t := by rw [← Array.getElem?_toList, hts]; rfl
    have fin : ∀ (n : Nat), n ≤ lim → κ (.o (.p (.int .i64 (n : Int)))) m = some r → (Builtin.len_ ts ty #[a.eval y]).run P w = .ok (.int .i64 (n : Int)) w →
        Owes P ρ m ⟨dst, .call ⟨.builtin .len, #[y], ts⟩, ty, pos, after, guard⟩ a w fr κ r := by
      intro n hn hκ hr
      refine owes_pure hκ ?_ ⟨rfl, lim_i64 hn⟩
      rw [run_builtin]
      simp [builtin, hr]
    split at h
    · rename_i e i k n ht
      have hu := (hE.ty _ _ ht).2.2
      obtain ⟨_, ad, cap, h1, _, h3, _⟩ := hv
      exact fin n h3 h (by simp [Builtin.len_, ht0, run_underlying hu, h1, goInt])
    · rename_i e i ht
      split at h
      case h_2 => cases h
      rename_i s k n xs hm
      have hu := (hE.ty _ _ ht).2.2
      obtain ⟨_, ad, cap, h1, _, h3, _⟩ := hv.2 n (by unfold blkN; rw [hm])
      exact fin n h3 h (by simp [Builtin.len_, ht0, run_underlying hu, h1, goInt])
    · rename_i e ht
      have hu := (hE.ty _ _ ht).2.2
      obtain ⟨ad, h1⟩ := hv
      exact fin 0 (Nat.zero_le _) h (by simp [Builtin.len_, ht0, run_underlying hu, h1, goInt])
    · rename_i s ht
      have hu := (hE.ty _ _ ht).2.2
      obtain ⟨h1, h2⟩ := hv
      exact fin s.size (by simpa [wfB] using h2) h (by simp [Builtin.len_, ht0, run_underlying hu, h1, goInt])
    · cases h
  · rename_i k x k' y hargs
    obtain ⟨p, q, rfl, hv1, hv2⟩ := two hargs
    obtain ⟨e1, w1⟩ := hv1
    obtain ⟨e2, w2⟩ := hv2
    cases hd : decide (k = k') <;> rw [hd] at h
    · cases h
    · have hk := of_decide_eq_true hd
      subst hk
      refine owes_pure (v := .o (.p (.int k (if y > x then y else x)))) h ?_ ⟨rfl, by split <;> assumption⟩
      rw [run_builtin]
      simp [builtin, Builtin.max_, e1, e2, Builtin.max2]
  · rename_i k x k' y hargs
    obtain ⟨p, q, rfl, hv1, hv2⟩ := two hargs
    obtain ⟨e1, w1⟩ := hv1
    obtain ⟨e2, w2⟩ := hv2
    cases hd : decide (k = k') <;> rw [hd] at h
    · cases h
    · have hk := of_decide_eq_true hd
      subst hk
      refine owes_pure (v := .o (.p (.int k (if y < x then y else x)))) h ?_ ⟨rfl, by split <;> assumption⟩
      rw [run_builtin]
      simp [builtin, Builtin.min_, e1, e2, Builtin.min2]
  · exact absurd rfl hb.1
  · exact absurd rfl hb.2
  · exact absurd rfl hb.2
  · cases h

/-- How what is handed on reads. -/
theorem content_dr {v : V} {rv : Value} {κ' : D → R} (hv : VR ρ m w v rv) (hb : Touch ρ m w (nameOf v).toList) (h : contentK m v κ' = some r) : ∃ d, κ' d = some r ∧ DR w d rv ∧
    (∀ b n, blockOf rv = some b → rv = .slice (some ⟨b, n, none⟩) 0 0 → True) ∧ (d.isSl = true → ∀ ad n cap, rv = .slice (some ad) n cap → n ≠ 0 → ∃ i o, nameOf v = some i ∧ liveAt m i ∧ ρ i = some (ad.block, o)) := by
  unfold contentK at h
  split at h
  · exact ⟨_, h, hv, fun _ _ _ _ => trivial, fun h => by cases h⟩
  · exact ⟨_, h, hv, fun _ _ _ _ => trivial, fun h => by cases h⟩
  · exact ⟨_, h, hv, fun _ _ _ _ => trivial, fun h => by cases h⟩
  · obtain ⟨ad, hr⟩ := hv
    exact ⟨_, h, ⟨ad, 0, hr, Nat.le_refl _, Nat.zero_le _, fun _ h => by (cases h), .inl rfl⟩, fun _ _ _ _ => trivial, fun _ ad' n' cap' he hn => by rw [hr] at he; cases he; exact absurd rfl hn⟩
  · rename_i i
    split at h
    case h_2 => cases h
    rename_i s kd n xs hm
    obtain ⟨hl, hlim, hR, hB⟩ := (hb i (by simp [nameOf]) _ _ hm).1
    obtain ⟨_, ad, cap, h1, h2, h3, h4, _⟩ := hv.2 n (by unfold blkN; rw [hm])
    subst hl
    refine ⟨_, h, ⟨ad, cap, h1, h2, h3, hR, ?_⟩, fun _ _ _ _ => trivial, fun _ ad' n' cap' he hn => ?_⟩
    · rcases h4 with h4 | ⟨b, o, h4, rfl⟩
      · exact .inl h4
      · rcases hB with hB | ⟨b', o', h5, h6⟩
        · exact .inl hB
        · rw [h4] at h5
          cases h5
          exact .inr ⟨b, o, rfl, h6⟩
    · rw [h1] at he
      cases he
      rcases h4 with h4 | ⟨b, o, h4, h5⟩
      · exact absurd h4 hn
      · cases h5
        exact ⟨i, o, rfl, ⟨_, _, hm, by intro e; cases e⟩, h4⟩
  · rename_i i k n
    obtain ⟨hi, ad, cap, h1, h2, h3, h4, _⟩ := hv
    have tail : liveAt m i → ∀ ad' n' cap', rv = .slice (some ad') n' cap' → n' ≠ 0 → ∃ i' o, nameOf (.o (.s i k n)) = some i' ∧ liveAt m i' ∧ ρ i' = some (ad'.block, o) := by
      intro hlv ad' n' cap' he hn
      rw [h1] at he
      cases he
      rcases h4 with h4 | ⟨b, o, h4, h5⟩
      · exact absurd h4 hn
      · cases h5
        exact ⟨i, o, rfl, hlv, h4⟩
    split at h
    · rename_i s kd n' xs hm
      obtain ⟨hl, hlim, hR, hB⟩ := (hb i (by simp [nameOf]) _ _ hm).1
      replace h := cond_none h
      obtain ⟨hc, h⟩ := h
      have hc := of_decide_eq_true hc
      have hlen : ((xs.drop k).take n).length = n := by simp; omega
      refine ⟨_, h, ⟨ad, cap, by rw [hlen]; exact h1, by rw [hlen]; exact h2, by rw [hlen]; exact h3, fun x hx => hR x (List.mem_of_mem_drop (List.mem_of_mem_take hx)), ?_⟩, fun _ _ _ _ => trivial, fun _ => tail ⟨_, _, hm, by intro e; cases e⟩⟩
      rw [hlen]
      rcases h4 with h4 | ⟨b, o, h4, rfl⟩
      · exact .inl h4
      · rcases hB with hB | ⟨b', o', h5, h6⟩
        · left; omega
        · rw [h4] at h5
          cases h5
          refine .inr ⟨b, o + k, rfl, ?_⟩
          have := rangeAt_take h6 k n
          rwa [← List.map_drop, ← List.map_take] at this
    · rename_i s vs hm
      obtain ⟨hw, hB⟩ := (hb i (by simp [nameOf]) _ _ hm).1
      replace h := cond_none h
      obtain ⟨hc, h⟩ := h
      obtain ⟨rfl, hc, hc'⟩ := of_decide_eq_true hc
      refine ⟨_, h, ⟨ad, cap, h1, h2, h3, hw, ⟨fun e => by omega, fun e => by rw [e] at hc'; cases hc'⟩, ?_⟩, fun _ _ _ _ => trivial, fun _ => tail ⟨_, _, hm, by intro e; cases e⟩⟩
      rcases h4 with h4 | ⟨b, o, h4, rfl⟩
      · exact .inl h4
      · refine .inr ⟨b, o, rfl, ?_⟩
        rcases hB with rfl | ⟨b', o', h5, h6⟩
        · intro j v hj
          simp at hj
        · rw [h4] at h5
          cases h5
          exact h6
    · cases h
  · cases h

end ops
end Go.Vm
