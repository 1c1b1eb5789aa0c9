/-
  What one operation of the evaluator does on the machine: indexes, slices, makes. No statement is proved here.
-/
import Derived.Test.YtmjbikbakkbajaaVmF
namespace Go.Vm
open Go.RowKit (Below)
variable {P : Program}

theorem replicate_zero (n : Nat) (v : Value) : (Array.range n).map ((#[v] : Array Value)[· % (#[v] : Array Value).size]!) = (List.replicate n v).toArray := by
  apply Array.ext
  · simp
  · intro i h1 h2
    simp [Nat.mod_one]

section ops
variable {E : Env} {ρ : Nm} {m : Mem} {w : World} {a : Act} {tm : List V} {κ : V → Mem → R} {r : List (Own × D)} {fr : List Nat × List Nat} {dst : Option Tmp} {ty : TypeId} {pos : String} {after : Array Edge} {guard : Option (Nat × Bool)}

theorem op_indexAddr (hE : EnvOK P E) (t : TypeId) (x y : Operand) (hx : VR ρ m w (opnd tm x) (a.eval x)) (hy : VR ρ m w (opnd tm y) (a.eval y)) (h : opK E tm m (.indexAddr t x y) κ = some r) :
    Owes P ρ m ⟨dst, .indexAddr t x y, ty, pos, after, guard⟩ a w fr κ r := by
  simp only [opK] at h
  split at h
  · rename_i n kk i k kd j ht hv hv'
    rw [hv] at hx
    obtain ⟨hi, b, o, h1, h2⟩ := hx
    have hy' := (vr_int hy hv').1
    obtain ⟨hc, h⟩ := cond_none h
    have hc := of_decide_eq_true hc
    obtain ⟨_, e, hu, _, hs⟩ := (hE.ty _ _ ht).2.2
    refine owes_pure (v := .o (.a i (k + j.toNat))) (rv := .pointer (some ⟨b, o + (k + j.toNat), none⟩)) h ?_ ⟨hi, b, o, h1, rfl⟩
    simp [execOp, h2, hy', Instr.indexAt, run_underlying hu, asIntOf, Instr.sureAddr, hc, run_sizeOf' w hs, Addr.add_mid, Nat.add_assoc]
  · rename_i e i kd j ht hv hv'
    split at h
    case h_2 => cases h
    rename_i ke s kd' n xs he hm
    rw [hv] at hx
    obtain ⟨hi, ad, cap, h1, h2, h3, h4, _⟩ := hx.2 n (by unfold blkN; rw [hm])
    have hy' := (vr_int hy hv').1
    obtain ⟨hc, h⟩ := cond_none h
    have hc := of_decide_eq_true hc
    have hu := (hE.ty _ _ ht).2.2
    have hs : (P.info? e).map (·.size) = some 1 := (hE.ty _ _ he).1
    rcases h4 with h4 | ⟨b, o, h4, h5⟩
    · omega
    · refine owes_pure (v := .o (.a i j.toNat)) (rv := .pointer (some ⟨b, o + j.toNat, none⟩)) h ?_ ⟨hi, b, o, h4, rfl⟩
      simp [execOp, h1, h5, hy', Instr.indexAt, run_underlying hu, asIntOf, hc, run_sizeOf' w hs, Addr.add_mid]
  · rename_i e i k n kd j ht hv hv'
    rw [hv] at hx
    obtain ⟨hi, ad, cap, h1, h2, h3, h4, _⟩ := hx
    have hy' := (vr_int hy hv').1
    split at h
    · rename_i sz hsz
      obtain ⟨hc, h⟩ := cond_none h
      have hc := of_decide_eq_true hc
      have hu := (hE.ty _ _ ht).2.2
      rcases h4 with h4 | ⟨b, o, h4, h5⟩
      · omega
      · have hs : (P.info? e).map (·.size) = some sz := by
          cases he : E.ty e with
          | none => rw [he] at hsz; cases hsz
          | some td => rw [he] at hsz; cases hsz; exact (hE.ty _ _ he).1
        refine owes_pure (v := .o (.a i (k + j.toNat * sz))) (rv := .pointer (some ⟨b, o + (k + j.toNat * sz), none⟩)) h ?_ ⟨hi, b, o, h4, rfl⟩
        simp [execOp, h1, h5, hy', Instr.indexAt, run_underlying hu, asIntOf, hc, run_sizeOf' w hs, Addr.add_mid, Nat.add_assoc]
    · cases h
  · cases h

theorem op_index (hE : EnvOK P E) (t : TypeId) (x y : Operand) (hx : VR ρ m w (opnd tm x) (a.eval x)) (hy : VR ρ m w (opnd tm y) (a.eval y)) (h : opK E tm m (.index t x y) κ = some r) :
    Owes P ρ m ⟨dst, .index t x y, ty, pos, after, guard⟩ a w fr κ r := by
  simp only [opK] at h
  split at h
  · rename_i n kk k' n' xs kd j ht hv hv'
    rw [hv] at hx
    obtain ⟨h1, hl, _, hR⟩ := hx
    have hy' := (vr_int hy hv').1
    replace h := cond_none h
    obtain ⟨hc, h⟩ := h
    obtain ⟨hc0, hc1, hk1, hn1⟩ := of_decide_eq_true hc
    subst hk1
    subst hn1
    obtain ⟨_, e, hu, hue, hs⟩ := (hE.ty _ _ ht).2.2
    have hp : (part e (xs.map (Value.int kk)).toArray (j.toNat * 1)).run P w = .ok (.int kk (xs.getD j.toNat 0)) w := by
      refine run_part_one w _ _ _ hue rfl ?_
      rw [Nat.mul_one, List.getElem?_toArray, List.getElem?_map, getD_of (by omega)]
      rfl
    refine owes_pure (v := .o (.p (.int kk (xs.getD j.toNat 0)))) h ?_ ⟨rfl, inR_getD hR _⟩
    simp only [execOp, h1, hy', Instr.index, Sem.run_bind, asIntOf, Sem.run_pure, Result.andThen_ok, run_underlying hu]
    rw [if_pos ⟨hc0, by omega⟩]
    simp only [Sem.run_bind, run_sizeOf' w hs, Result.andThen_ok, hp]
    try rfl
  · rename_i s kd j ht hv hv'
    rw [hv] at hx
    obtain ⟨h1, _⟩ := hx
    have hy' := (vr_int hy hv').1
    obtain ⟨hc, h⟩ := cond_none h
    have hc := of_decide_eq_true hc
    have hu := (hE.ty _ _ ht).2.2
    have hj : j.toNat < s.size := by omega
    refine owes_pure (v := .o (.p (.int .u8 ((s.data.toList.getD j.toNat 0).toNat : Int)))) h ?_ ⟨rfl, ?_⟩
    · simp only [execOp, h1, hy', Instr.index, Sem.run_bind, asIntOf, Sem.run_pure, Result.andThen_ok, run_underlying hu]
      rw [if_pos hc.1, getElem?_pos s j.toNat hj]
      have : s.data.toList.getD j.toNat 0 = s[j.toNat] := by
        have hj' : j.toNat < s.data.toList.length := by simpa using hj
        rw [List.getD_eq_getElem?_getD, List.getElem?_eq_getElem hj']
        rfl
      rw [this]
      rfl
    · have := (s.data.toList.getD j.toNat 0).toNat_lt
      generalize (s.data.toList.getD j.toNat 0).toNat = q at this ⊢
      simp [wfB, IntKind.min, IntKind.max, IntKind.signed, IntKind.bits]
      omega
  · cases h

theorem ofCells_cases {td : Ty} {cs : List Value} {v : V0} (h : ofCells td cs = some v) :
    (∃ u, cs = [u] ∧ v = .p u ∧ ((∃ k, td = .i k) ∨ td = .b ∨ td = .str)) ∨ (∃ n k, td = .arr n k ∧ cs.all (isKind k) = true ∧ cs.length = n ∧ v = .r k n (cs.map intOf')) ∨
    (∃ zs fs, td = .st zs fs ∧ cs.length = zs.length ∧ v = .g cs) := by
  unfold ofCells at h
  split at h
  · cases h; exact .inl ⟨_, rfl, rfl, .inl ⟨_, rfl⟩⟩
  · cases h; exact .inl ⟨_, rfl, rfl, .inr (.inl rfl)⟩
  · cases h; exact .inl ⟨_, rfl, rfl, .inr (.inr rfl)⟩
  · rename_i n k
    cases hq : (cs.all (isKind k) && cs.length == n) <;> rw [hq] at h
    · cases h
    · cases h
      obtain ⟨h1, h2⟩ := Bool.and_eq_true_iff.1 hq
      exact .inr (.inl ⟨n, k, rfl, h1, by simpa using h2, rfl⟩)
  · rename_i zs fs
    cases hq : (cs.length == zs.length) <;> rw [hq] at h
    · cases h
    · cases h
      exact .inr (.inr ⟨zs, fs, rfl, by simpa using hq, rfl⟩)
  · cases h

theorem op_field (hE : EnvOK P E) (t : TypeId) (x : Operand) (f : Nat) (hx : VR ρ m w (opnd tm x) (a.eval x)) (h : opK E tm m (.field t x f) κ = some r) :
    Owes P ρ m ⟨dst, .field t x f, ty, pos, after, guard⟩ a w fr κ r := by
  simp only [opK] at h
  split at h
  case h_2 => cases h
  rename_i zs fs vs ht hv
  rw [hv] at hx
  obtain ⟨h1, hwf⟩ := hx
  split at h
  case h_2 => cases h
  rename_i off ft hf
  split at h
  case h_2 => cases h
  rename_i td hft
  split at h
  case h_2 => cases h
  rename_i v hc
  have hs := (hE.ty _ _ ht).2.2.1
  unfold structOf at hs
  split at hs
  case h_2 => cases hs
  rename_i F hF
  injection hs with hs
  subst hs
  obtain ⟨fd, h3, h4, h5⟩ : ∃ fd, F[f]? = some fd ∧ fd.offset = off ∧ fd.type = ft := by
    rw [List.getElem?_map, Array.getElem?_toList] at hf
    cases hq : F[f]? with
    | none => rw [hq] at hf; cases hf
    | some fd => rw [hq] at hf; cases hf; exact ⟨fd, rfl, rfl, rfl⟩
  have hwt : wfL ((vs.drop off).take td.size) := fun y hy => hwf y (List.mem_of_mem_drop (List.mem_of_mem_take hy))
  have hT := hE.ty _ _ hft
  have key : ∃ rv, (part ft vs.toArray off).run P w = .ok rv w ∧ VR0 ρ m w v rv := by
    have one : ∀ (d : TypeDesc) (u : Value), P.underlying ft = some d → d.isRow = false → (vs.drop off).take td.size = [u] → (part ft vs.toArray off).run P w = .ok u w := by
      intro d u hd hr hu
      refine run_part_one w _ _ _ hd hr ?_
      have h0 : ((vs.drop off).take td.size)[0]? = some u := by rw [hu]; rfl
      rw [List.getElem?_take] at h0
      split at h0
      · rw [List.getElem?_drop, Nat.add_zero] at h0
        simpa using h0
      · cases h0
    have agg : ∀ (d : TypeDesc), P.underlying ft = some d → d.isRow = true → (part ft vs.toArray off).run P w = .ok (.agg ((vs.drop off).take td.size).toArray) w := by
      intro d hd hr
      rw [run_part_agg w _ _ hd hr hT.1]
      congr 2
      apply Array.ext'
      simp
    rcases ofCells_cases hc with ⟨u, hu, rfl, htd⟩ | ⟨n, k, rfl, g1, g2, rfl⟩ | ⟨zs', fs', rfl, _, rfl⟩
    · have hwu : wfB u = true := hwt u (by rw [hu]; simp)
      rcases htd with ⟨k, rfl⟩ | rfl | rfl
      · exact ⟨u, one _ u hT.2.2.1 rfl hu, rfl, hwu⟩
      · exact ⟨u, one _ u hT.2.2 rfl hu, rfl, hwu⟩
      · exact ⟨u, one _ u hT.2.2 rfl hu, rfl, hwu⟩
    · obtain ⟨hl, e, hu, _⟩ := hT.2.2
      exact ⟨_, agg _ hu rfl, by rw [all_kind g1], by simpa using g2, hl, wfL_ints (by rw [all_kind g1]; exact hwt)⟩
    · have hs' := hT.2.2.1
      unfold structOf at hs'
      split at hs'
      · rename_i F' hF'
        exact ⟨_, agg _ hF' rfl, rfl, hwt⟩
      · cases hs'
  obtain ⟨rv, g1, g2⟩ := key
  refine owes_pure (v := .o v) (rv := rv) h ?_ g2
  simp [execOp, h1, Instr.field, run_underlying hF, h3, asAgg, h4, h5, g1]

theorem op_makeSlice (hE : EnvOK P E) (t : TypeId) (x y : Operand) (hx : VR ρ m w (opnd tm x) (a.eval x)) (hy : VR ρ m w (opnd tm y) (a.eval y)) (h : opK E tm m (.makeSlice t x y) κ = some r) :
    Owes P ρ m ⟨dst, .makeSlice t x y, ty, pos, after, guard⟩ a w fr κ r := by
  simp only [opK] at h
  split at h
  case h_2 => cases h
  rename_i k kx l ky c hk hv hv'
  have hx' := (vr_int hx hv).1
  have hy' := (vr_int hy hv').1
  obtain ⟨hc, h⟩ := cond_none h
  obtain ⟨h0, h1, h2⟩ := of_decide_eq_true hc
  unfold kindOf at hk
  split at hk
  case h_2 => cases hk
  rename_i e ht
  split at hk
  case h_2 => cases hk
  rename_i k' he
  cases hk
  have hu := (hE.ty _ _ ht).2.2
  obtain ⟨hs, hz, hue, bb, hbb, hb8⟩ := hE.ty _ _ he
  have hl : IntKind.i64.wrap l = l := by simp [IntKind.wrap, IntKind.signed, IntKind.bits]; omega
  have hcc : IntKind.i64.wrap c = c := by simp [IntKind.wrap, IntKind.signed, IntKind.bits]; omega
  have hcells : (List.replicate c.toNat (Value.int k 0)).toArray.size = c.toNat := by simp
  have hin : (Blk.w k l.toNat (List.replicate l.toNat 0)).inn (List.replicate c.toNat (Value.int k 0)).toArray := by
    refine ⟨by simp, by unfold lim; omega, inR_zero _ _, fun j v hj => ?_⟩
    rw [List.getElem?_map, List.getElem?_replicate] at hj
    split at hj
    · rw [List.getElem?_toArray, List.getElem?_replicate, if_pos (by omega)]
      exact hj
    · cases hj
  refine ⟨_, _, h, does_value (w' := w.alloc (.cells (List.replicate c.toNat (Value.int k 0)).toArray e)) (rv := .slice (some ⟨w.heap.size, 0, none⟩) l.toNat c.toNat) ?_ ⟨_, eff_new _ e _ _ _ hin (vr_news _ e _ _ _ _ (by omega) (by rw [hcells]; exact Nat.le_refl _) (by unfold lim; omega))⟩⟩
  cases hi : P.info? e with
  | none => rw [hi] at hs; cases hs
  | some ie =>
    rw [hi] at hs hz hbb
    have e1 : ie.size = 1 := by simpa [Ty.size] using hs
    have e2 : ie.zero = some (.int k 0) := by simpa [Ty.real] using hz
    have e3 : ie.bytes = bb := by simpa using hbb
    have hnot : (decide (c < 0) || decide ((bb : Int) * c > 2 ^ 48) || decide (l < 0) || decide (l > c)) = false := by
      have : (bb : Int) * c ≤ 8 * 17592186044416 := Int.mul_le_mul (by omega) h2 (by omega) (by omega)
      simp
      omega
    simp only [execOp, hx', hy', Instr.makeSlice, Sem.run_bind, run_underlying hu, Result.andThen_ok, asInt, asIntOf, Sem.run_pure, typeInfo, run_program, hi, hl, hcc, e3]
    rw [hnot]
    simp only [Bool.false_eq_true, if_false]
    by_cases hroom : c.toNat * bb > roomBytes
    · simp only [askRoom, if_pos hroom, mark, Sem.run, Result.andThen_ok, Sem.run_bind, run_sizeOf' w (show (P.info? e).map (·.size) = some 1 by rw [hi]; simp [e1])]
      by_cases hn : c.toNat * 1 = 0
      · have : c.toNat = 0 := by omega
        simp [newRow, this, Array.range_zero']
      · simp only [if_neg hn, Sem.run_bind, run_zero' w (show (P.info? e).bind (·.zero) = some (.int k 0) by rw [hi]; simp [e2]), Result.andThen_ok, Sem.run_pure, Value.cells, newRow]
        rw [replicate_zero, Nat.mul_one]
        rfl
    · simp only [askRoom, if_neg hroom, Sem.run_pure, Result.andThen_ok, Sem.run_bind, run_sizeOf' w (show (P.info? e).map (·.size) = some 1 by rw [hi]; simp [e1])]
      by_cases hn : c.toNat * 1 = 0
      · have : c.toNat = 0 := by omega
        simp [newRow, this, Array.range_zero']
      · simp only [if_neg hn, Sem.run_bind, run_zero' w (show (P.info? e).bind (·.zero) = some (.int k 0) by rw [hi]; simp [e2]), Result.andThen_ok, Sem.run_pure, Value.cells, newRow]
        rw [replicate_zero, Nat.mul_one]
        rfl

/-- The bounds of a slice expression. -/
theorem bounds_run {n N : Nat} (isS : Bool) (hN : n ≤ N) (lo hi : Option Operand) (hlo : ∀ x ∈ lo, VR ρ m w (opnd tm x) (a.eval x)) (hhi : ∀ x ∈ hi, VR ρ m w (opnd tm x) (a.eval x)) (κ' : Nat → Nat → R)
    (h : sliceBds n (lo.map (opnd tm)) (hi.map (opnd tm)) κ' = some r) :
    ∃ l h', l ≤ h' ∧ h' ≤ n ∧ κ' l h' = some r ∧ (Instr.sliceBounds isS n N (lo.map a.eval) (hi.map a.eval) none).run P w = .ok (l, h', N) w := by
  have low : ∀ (h' : Nat), (match (lo.map (opnd tm)) with | none => κ' 0 h' | some (.o (.p (.int _ l))) => cond (decide (0 ≤ l ∧ l ≤ (h' : Int))) (κ' l.toNat h') none | _ => none) = some r →
      ∃ l, l ≤ h' ∧ κ' l h' = some r ∧ ∀ code, (match lo.map a.eval with | some v => Instr.sliceBound v h' code | none => pure 0).run P w = .ok l w := by
    intro h' hl
    cases lo with
    | none => exact ⟨0, Nat.zero_le _, hl, fun _ => rfl⟩
    | some x =>
      simp only [Option.map_some] at hl
      split at hl
      · rename_i heq; cases heq
      · rename_i kd l heq
        injection heq with heq
        have hx := (vr_int (hlo x rfl) heq).1
        obtain ⟨hc, hl⟩ := cond_none hl
        have hc := of_decide_eq_true hc
        refine ⟨l.toNat, by omega, hl, fun code => ?_⟩
        simp [hx, Instr.sliceBound, asIntOf, hc]
      · cases hl
  unfold sliceBds at h
  cases hi with
  | none =>
    simp only [Option.map_none] at h
    obtain ⟨l, h1, h2, h3⟩ := low n h
    refine ⟨l, n, h1, Nat.le_refl _, h2, ?_⟩
    simp only [Instr.sliceBounds, Option.map_none, Sem.run_bind, Sem.run_pure, Result.andThen_ok, Option.isSome_none, Bool.false_eq_true, if_false]
    cases lo <;> simp_all
  | some x =>
    simp only [Option.map_some] at h
    split at h
    · rename_i heq; cases heq
    · rename_i kd q heq
      injection heq with heq
      have hx := (vr_int (hhi x rfl) heq).1
      obtain ⟨hc, h⟩ := cond_none h
      have hc := of_decide_eq_true hc
      obtain ⟨l, h1, h2, h3⟩ := low q.toNat h
      refine ⟨l, q.toNat, h1, by omega, h2, ?_⟩
      have hb : ∀ code, (Instr.sliceBound (a.eval x) N code).run P w = .ok q.toNat w := fun code => by
        simp [hx, Instr.sliceBound, asIntOf, hc.1, show q ≤ (N : Int) by omega]
      simp only [Instr.sliceBounds, Option.map_some, Sem.run_bind, Sem.run_pure, Result.andThen_ok, hb, Option.isSome_none, Bool.false_eq_true, if_false]
      cases lo <;> simp_all
    · cases h

theorem op_slice (hE : EnvOK P E) (t : TypeId) (x : Operand) (lo hi : Option Operand) (hx : VR ρ m w (opnd tm x) (a.eval x)) (hlo : ∀ x ∈ lo, VR ρ m w (opnd tm x) (a.eval x)) (hhi : ∀ x ∈ hi, VR ρ m w (opnd tm x) (a.eval x))
    (hb : Touch ρ m w (nameOf (opnd tm x)).toList) (h : opK E tm m (.slice t x lo hi none) κ = some r) : Owes P ρ m ⟨dst, .slice t x lo hi none, ty, pos, after, guard⟩ a w fr κ r := by
  simp only [opK] at h
  split at h
  · rename_i n k i ht hv
    split at h
    case h_2 => cases h
    rename_i s kd n' xs hm
    replace h := cond_none h
    obtain ⟨hn, h⟩ := h
    have hn := of_decide_eq_true hn
    subst hn
    rw [hv] at hx hb
    obtain ⟨hi', b, o, h1, h2⟩ := hx
    obtain ⟨⟨hl, hlim, hR, hB⟩, hM⟩ := hb i (by simp [nameOf]) _ _ hm
    obtain ⟨hln, e, hu, _, hs⟩ := (hE.ty _ _ ht).2.2
    have main : ∀ (κ' : Nat → Nat → R), sliceBds n' (lo.map (opnd tm)) (hi.map (opnd tm)) κ' = some r → ∃ l h' rv, κ' l h' = some r ∧ (lo = none → hi = none → l = 0 ∧ h' = n') ∧
        (execOp a.eval (⟨dst, .slice t x lo hi none, ty, pos, after, guard⟩ : Oper)).run P w = .ok (.value rv) w ∧ SlR ρ m w i l (h' - l) rv := by
      intro κ' h
      obtain ⟨l, h', g1, g2, g3, g4⟩ := bounds_run (P := P) (w := w) (a := a) false (Nat.le_refl n') lo hi hlo hhi _ h
      have hnn : lo = none → hi = none → l = 0 ∧ h' = n' := by
        intro e1 e2
        subst e1
        subst e2
        simp [Instr.sliceBounds] at g4
        omega
      refine ⟨l, h', .slice (some (if n' = l then (⟨b, o, none⟩ : Addr) else ⟨b, o + l, none⟩)) (h' - l) (n' - l), g3, hnn, ?_, hi', _, _, rfl, by omega, by omega, ?_, ?_⟩
      · simp [execOp, h2, Instr.sliceAt, run_underlying hu, Instr.sureAddr, g4, run_sizeOf' w hs, Addr.add_mid]
      · by_cases hz : h' - l = 0
        · exact .inl hz
        · exact .inr ⟨b, o, h1, by rw [if_neg (by omega)]⟩
      · rintro ⟨q, hq⟩
        rw [hm] at hq
        cases hq
        obtain ⟨rfl, c, ee, hc⟩ := hM rfl b o h1
        by_cases hz : n' = l
        · left; omega
        · right
          refine ⟨b, h1, by rw [if_neg hz, Nat.zero_add], ?_⟩
          have : n' ≤ bsize w b := by
            unfold bsize
            rw [hc]
            rcases hB with hB | ⟨b', o', h3, h4⟩
            · omega
            · rw [h1] at h3
              cases h3
              have := h4 (n' - 1) (.int kd (xs.getD (n' - 1) 0)) (by rw [List.getElem?_map, getD_of (by omega)]; rfl)
              unfold World.cell? at this
              rw [hc] at this
              simp only [Option.isSome_none, Bool.false_eq_true, if_false, Nat.zero_add] at this
              obtain ⟨hlt, _⟩ := Array.getElem?_eq_some_iff.1 this
              show n' ≤ c.size
              omega
          omega
    cases hnn : (lo.isNone && hi.isNone) <;> rw [hnn] at h
    · obtain ⟨l, h', rv, g1, _, g2, g3⟩ := main (fun l h' => κ (.o (.s i l (h' - l))) m) h
      exact owes_pure (v := .o (.s i l (h' - l))) g1 g2 g3
    · obtain ⟨e1, e2⟩ := Bool.and_eq_true_iff.1 hnn
      have e1 : lo = none := by simpa using e1
      have e2 : hi = none := by simpa using e2
      have hk : sliceBds n' (lo.map (opnd tm)) (hi.map (opnd tm)) (fun _ _ => κ (.o (.f i)) m) = some r := by
        rw [e1, e2]
        exact h
      obtain ⟨l, h', rv, g1, g0, g2, g3⟩ := main _ hk
      obtain ⟨rfl, rfl⟩ := g0 e1 e2
      refine owes_pure (v := .o (.f i)) g1 g2 ⟨hi', fun n hn => ?_⟩
      have : n = h' := by unfold blkN at hn; rw [hm] at hn; cases hn; rfl
      subst this
      simpa using g3
  · rename_i e i ht hv
    split at h
    case h_2 => cases h
    rename_i ke s kd n xs he hm
    rw [hv] at hx
    have hx := hx.2 n (by unfold blkN; rw [hm])
    obtain ⟨hi', ad, cap, h1, h2, h3, h4, h5⟩ := hx
    have hu := (hE.ty _ _ ht).2.2
    have hs : (P.info? e).map (·.size) = some 1 := (hE.ty _ _ he).1
    obtain ⟨l, h', g1, g2, g3, g4⟩ := bounds_run (P := P) (w := w) (a := a) true h2 lo hi hlo hhi _ h
    refine owes_pure (v := .o (.s i l (h' - l))) (rv := .slice (if cap = l then ad else ad.map (·.add l)) (h' - l) (cap - l)) g3 ?_ ⟨hi', _, _, rfl, by omega, by omega, ?_, ?_⟩
    · simp [execOp, h1, Instr.sliceAt, Instr.slice, run_underlying hu, g4, run_sizeOf' w hs]
    · by_cases hz : h' - l = 0
      · exact .inl hz
      · rcases h4 with h4 | ⟨b, o, h4, rfl⟩
        · omega
        · refine .inr ⟨b, o, h4, ?_⟩
          rw [if_neg (by omega)]
          simp [Addr.add_mid]
    · intro hm'
      rcases h5 hm' with h7 | ⟨b, h7, rfl, h6⟩
      · left; omega
      · by_cases hz : cap = l
        · left; omega
        · right
          refine ⟨b, h7, ?_, by omega⟩
          rw [if_neg hz]
          simp [Addr.add_mid]
  · rename_i e i k n ht hv
    split at h
    case h_2 => cases h
    rename_i ke he
    rw [hv] at hx
    obtain ⟨hi', ad, cap, h1, h2, h3, h4, h5⟩ := hx
    have hu := (hE.ty _ _ ht).2.2
    have hs : (P.info? e).map (·.size) = some 1 := (hE.ty _ _ he).1
    obtain ⟨l, h', g1, g2, g3, g4⟩ := bounds_run (P := P) (w := w) (a := a) true h2 lo hi hlo hhi _ h
    refine owes_pure (v := .o (.s i (k + l) (h' - l))) (rv := .slice (if cap = l then ad else ad.map (·.add l)) (h' - l) (cap - l)) g3 ?_ ⟨hi', _, _, rfl, by omega, by omega, ?_, ?_⟩
    · simp [execOp, h1, Instr.sliceAt, Instr.slice, run_underlying hu, g4, run_sizeOf' w hs]
    · by_cases hz : h' - l = 0
      · exact .inl hz
      · rcases h4 with h4 | ⟨b, o, h4, rfl⟩
        · omega
        · refine .inr ⟨b, o, h4, ?_⟩
          rw [if_neg (by omega)]
          simp [Addr.add_mid, Nat.add_assoc]
    · intro hm
      rcases h5 hm with h7 | ⟨b, h7, rfl, h6⟩
      · left; omega
      · by_cases hz : cap = l
        · left; omega
        · right
          refine ⟨b, h7, ?_, by omega⟩
          rw [if_neg hz]
          simp [Addr.add_mid]
  · rename_i e ht hv
    split at h
    case h_2 => cases h
    rename_i td he
    rw [hv] at hx
    obtain ⟨ad, h1⟩ := hx
    have hu := (hE.ty _ _ ht).2.2
    obtain ⟨l, h', g1, g2, g3, g4⟩ := bounds_run (P := P) (w := w) (a := a) (n := 0) (N := 0) true (Nat.le_refl 0) lo hi hlo hhi _ h
    have hl : l = 0 := by omega
    have hh : h' = 0 := by omega
    subst hl
    subst hh
    have hs := (hE.ty _ _ he).1
    refine owes_pure (v := .o .z) (rv := .slice ad 0 0) g3 ?_ ⟨ad, rfl⟩
    simp [execOp, h1, Instr.sliceAt, Instr.slice, run_underlying hu, g4, run_sizeOf' w hs]
  · cases h

theorem isSlV_vr {v : V0} {rv : Value} (h : isSlV m v = true) (hv : VR ρ m w (.o v) rv) : ∃ ad n cap, rv = .slice ad n cap := by
  cases v with
  | s i k n => obtain ⟨_, ad, cap, h1, _⟩ := hv; exact ⟨_, _, _, h1⟩
  | z => obtain ⟨ad, h1⟩ := hv; exact ⟨_, _, _, h1⟩
  | f i =>
    have h' : ((m[i]?).any fun | (_, .w ..) => true | _ => false) = true := h
    cases hm : m[i]? with
    | none => rw [hm] at h'; cases h'
    | some q =>
      obtain ⟨s, b⟩ := q
      rw [hm] at h'
      cases b with
      | w k n xs =>
        obtain ⟨_, ad, cap, h1, _⟩ := hv.2 n (by unfold blkN; rw [hm])
        exact ⟨_, _, _, h1⟩
      | _ => cases h'
  | _ => cases h
theorem op_slice3 (hE : EnvOK P E) (t : TypeId) (x z : Operand) (lo hi : Option Operand) (hx : VR ρ m w (opnd tm x) (a.eval x)) (hhi : ∀ x ∈ hi, VR ρ m w (opnd tm x) (a.eval x)) (hz : VR ρ m w (opnd tm z) (a.eval z))
    (h : opK E tm m (.slice t x lo hi (some z)) κ = some r) : Owes P ρ m ⟨dst, .slice t x lo hi (some z), ty, pos, after, guard⟩ a w fr κ r := by
  simp only [opK, slice3K] at h
  split at h
  case h_2 => cases h
  rename_i e ht
  split at h
  case h_2 => cases h
  rename_i td he
  split at h
  case h_2 => cases h
  rename_i v k1 h1 k2 c hv hlo hh hz'
  cases hi with
  | none => cases hh
  | some y =>
  cases lo with
  | some _ => cases hlo
  | none =>
  have hy := hhi y rfl
  have hy' : opnd tm y = .o (.p (.int k1 h1)) := by simpa using hh
  replace h := cond_none h
  obtain ⟨hc, h⟩ := h
  obtain ⟨hs, hc⟩ := Bool.and_eq_true_iff.1 hc
  obtain ⟨rfl, rfl⟩ := of_decide_eq_true hc
  rw [hv] at hx
  obtain ⟨ad, n, cap, hr⟩ := isSlV_vr hs hx
  have hu := (hE.ty _ _ ht).2.2
  have hsz := (hE.ty _ _ he).1
  refine owes_pure (v := .o .z) (rv := .slice ad 0 0) h ?_ ⟨ad, rfl⟩
  simp [execOp, hr, (vr_int hy hy').1, (vr_int hz hz').1, Instr.sliceAt, Instr.slice, run_underlying hu, Instr.sliceBounds, Instr.sliceBound, asIntOf, run_sizeOf' w hsz]
end ops
end Go.Vm
