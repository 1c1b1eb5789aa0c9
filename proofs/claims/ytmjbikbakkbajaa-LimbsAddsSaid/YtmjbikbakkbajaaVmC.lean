/-
  What one operation of the evaluator does on the machine: the plain operations. No statement is proved here.
-/
import Derived.Test.YtmjbikbakkbajaaVmB
namespace Go.Vm
open Go.RowKit (Below)
variable {P : Program}

/-- An operation comes to a value and a world. -/
def Does (P : Program) (o : Oper) (a : Act) (w : World) (post : Value → World → Prop) : Prop :=
  ∀ (K : Act → World → Prop) (Q : Exit → Act → World → Prop), (∀ rv w', post rv w' → K (a.put o.dst rv) w') → o.wp P a w K Q
theorem does_value {o : Oper} {a : Act} {w w' : World} {post : Value → World → Prop} {rv : Value} (h : (execOp a.eval o).run P w = .ok (.value rv) w') (hp : post rv w') : Does P o a w post := by
  intro K Q hK
  unfold Oper.wp
  rw [h]
  exact hK _ _ hp
theorem does_skip {o : Oper} {a : Act} {w w' : World} {post : Value → World → Prop} (h : (execOp a.eval o).run P w = .ok .skip w') (hp : post undef w') : Does P o a w post := by
  intro K Q hK
  unfold Oper.wp
  rw [h]
  exact hK _ _ hp
theorem Does.mono {o : Oper} {a : Act} {w : World} {post post' : Value → World → Prop} (h : Does P o a w post) (hp : ∀ rv w', post rv w' → post' rv w') : Does P o a w post' :=
  fun K Q hK => h K Q fun rv w' hr => hK rv w' (hp rv w' hr)

/-- A block that has not been given up. -/
def liveAt (m : Mem) (i : Nat) : Prop := ∃ s b, m[i]? = some (s, b) ∧ b ≠ .dead

structure NewOK (ρ : Nm) (m : Mem) (w w' : World) (fr : List Nat) (ρ' : Nm) (nb : Mem) : Prop where
  blk : ∀ j s b, nb[j]? = some (s, b) → BlkOK ρ' w' (m.length + j) b
  mine : ∀ j b, nb[j]? = some (.mine, b) → MineOK ρ' w' (m.length + j) ∧ ∀ c o, ρ' (m.length + j) = some (c, o) → w.heap.size ≤ c
  apart : ∀ j b j' c o o', nb[j]? = some (.mine, b) → j' < nb.length → ρ' (m.length + j) = some (c, o) → ρ' (m.length + j') = some (c, o') → j = j'
  new : ∀ j b, nb[j]? = some (.new, b) → ∀ c o, ρ' (m.length + j) = some (c, o) → w.heap.size ≤ c
  old : ∀ j b, nb[j]? = some (.old, b) → ∀ c o, ρ' (m.length + j) = some (c, o) → w.heap.size ≤ c ∨ ∃ n, n ∈ fr ∧ liveAt m n ∧ ¬ mineAt m n ∧ ∃ o', ρ n = some (c, o')
  live : ∀ (j : Nat) (s : Own) (b : Blk), nb[j]? = some (s, b) → b ≠ .dead
  lt : ∀ j c o, j < nb.length → ρ' (m.length + j) = some (c, o) → c < w'.heap.size

/-- What an operation has done to memory: new blocks, or one block written. -/
inductive Eff (ρ : Nm) (m : Mem) (w : World) (fr : List Nat × List Nat) : V → Mem → Value → World → Nm → Prop
  | ext (nb : Mem) (ρ' : Nm) (v : V) (rv : Value) (w' : World) (hB : Below w.heap.size w w') (hρ : ∀ n, n < m.length ∨ m.length + nb.length ≤ n → ρ' n = ρ n)
      (hN : NewOK ρ m w w' fr.2 ρ' nb) (hV : VR ρ' (m ++ nb) w' v rv) : Eff ρ m w fr v (m ++ nb) rv w' ρ'
  | put (i b : Nat) (blk blk' : Blk) (w' : World) (hfw : i ∈ fr.1) (hm : m[i]? = some (.mine, blk)) (hb : ρ i = some (b, 0)) (hs : w'.heap.size = w.heap.size) (he : w'.os = w.os ∧ w'.tape = w.tape ∧ w'.output = w.output)
      (hf : ∀ k, k ≠ b → w'.heap[k]? = w.heap[k]?) (hz : bsize w' b = bsize w b) (hbk : BlkOK ρ w' i blk') (hmn : MineOK ρ w' i) (hd : blk' ≠ .dead)
      (hn : ∀ k n xs, blk' = .w k n xs → blkN m i = some n) : Eff ρ m w fr (.o .u) (m.set i (.mine, blk')) undef w' ρ

/-- Nothing new. -/
theorem NewOK.nil (ρ : Nm) (m : Mem) (w : World) (fr : List Nat) : NewOK ρ m w w fr ρ [] :=
  ⟨fun _ _ _ h => by simp at h, fun _ _ h => by simp at h, fun _ _ _ _ _ _ h => by simp at h, fun _ _ h => by simp at h, fun _ _ h => by simp at h, fun _ _ _ h => by simp at h, fun _ _ _ h => by simp at h⟩
theorem Eff.pure {ρ : Nm} {m : Mem} {w : World} {fr : List Nat × List Nat} {v : V} {rv : Value} (h : VR ρ m w v rv) : Eff ρ m w fr v m rv w ρ := by
  have := Eff.ext (fr := fr) [] ρ v rv w (Below.refl _ _) (fun _ _ => rfl) (NewOK.nil ρ m w fr.2) (by simpa using h)
  simpa using this

/-- What the evaluator's answer for an operation owes. -/
def Owes (P : Program) (ρ : Nm) (m : Mem) (o : Oper) (a : Act) (w : World) (fr : List Nat × List Nat) (κ : V → Mem → R) (r : List (Own × D)) : Prop :=
  ∃ v m', κ v m' = some r ∧ Does P o a w fun rv w' => ∃ ρ', Eff ρ m w fr v m' rv w' ρ'
theorem owes_pure {ρ : Nm} {m : Mem} {o : Oper} {a : Act} {w : World} {fr : List Nat × List Nat} {κ : V → Mem → R} {r : List (Own × D)} {v : V} {rv : Value} (hκ : κ v m = some r)
    (hr : (execOp a.eval o).run P w = .ok (.value rv) w) (h : VR ρ m w v rv) : Owes P ρ m o a w fr κ r :=
  ⟨v, m, hκ, does_value hr ⟨ρ, Eff.pure h⟩⟩

/-! ### Runs -/
theorem run_sizeOf' {t : TypeId} {n : Nat} (w : World) (h : (P.info? t).map (·.size) = some n) : (sizeOf t).run P w = .ok n w := by
  cases hq : P.info? t with
  | none => simp [hq] at h
  | some i =>
    have : i.size = n := by simpa [hq] using h
    simp [sizeOf, typeInfo, hq, this]
theorem run_zero' {t : TypeId} {v : Value} (w : World) (h : (P.info? t).bind (·.zero) = some v) : (zeroValue t).run P w = .ok v w := by
  cases hq : P.info? t with
  | none => simp [hq] at h
  | some i =>
    have : i.zero = some v := by simpa [hq] using h
    simp [zeroValue, typeInfo, hq, this]
theorem run_isAgg' {t : TypeId} {d : TypeDesc} (w : World) (h : P.underlying t = some d) : (isAgg t).run P w = .ok d.isRow w := by
  unfold isAgg
  rw [Sem.run_bind, run_underlying h w]
  cases d <;> simp_all
theorem run_part_agg {t : TypeId} {d : TypeDesc} {n : Nat} (w : World) (cs : Array Value) (off : Nat) (h : P.underlying t = some d) (hd : d.isRow = true) (hn : (P.info? t).map (·.size) = some n) :
    (part t cs off).run P w = .ok (.agg (cs.extract off (off + n))) w := by
  unfold part
  rw [Sem.run_bind, run_isAgg' w h, hd]
  simp [run_sizeOf' w hn]
theorem run_part_one {t : TypeId} {d : TypeDesc} (w : World) (cs : Array Value) (off : Nat) (v : Value) (h : P.underlying t = some d) (hd : d.isRow = false) (hv : cs[off]? = some v) :
    (part t cs off).run P w = .ok v w := by
  unfold part
  rw [Sem.run_bind, run_isAgg' w h, hd]
  simp [hv]

theorem wf_wrap (k : IntKind) (n : Int) : wfB (.int k (k.wrap n)) = true := by
  cases k <;> simp [wfB, IntKind.wrap, IntKind.min, IntKind.max, IntKind.signed, IntKind.bits] <;> (try split) <;> omega
theorem wf_bool (b : Bool) : wfB (.bool b) = true := rfl

/-- What is told of an operand. -/
theorem vr_const {ρ : Nm} {m : Mem} {w : World} (v : Value) : VR0 ρ m w (constV v) v := by
  unfold constV
  split
  · rename_i k n
    cases h : wfB (.int k n) <;> simp [VR0, h]
  · exact ⟨rfl, rfl⟩
  · rename_i s
    cases h : wfB (.string s) <;> simp [VR0, h]
  · exact ⟨none, rfl⟩
  · trivial

section ops
variable {E : Env} {ρ : Nm} {m : Mem} {w : World} {a : Act} {tm : List V} {κ : V → Mem → R} {r : List (Own × D)} {fr : List Nat × List Nat} {dst : Option Tmp} {ty : TypeId} {pos : String} {after : Array Edge} {guard : Option (Nat × Bool)}

theorem cond_some {b : Bool} {x y : R} {r : List (Own × D)} (h : cond b x y = some r) : (b = true ∧ x = some r) ∨ (b = false ∧ y = some r) := by
  cases b
  · exact .inr ⟨rfl, h⟩
  · exact .inl ⟨rfl, h⟩
theorem cond_none {b : Bool} {x : R} {r : List (Own × D)} (h : cond b x none = some r) : b = true ∧ x = some r := by
  cases b
  · cases h
  · exact ⟨rfl, h⟩
theorem cond_none' {b : Bool} {y : R} {r : List (Own × D)} (h : cond b none y = some r) : b = false ∧ y = some r := by
  cases b
  · exact ⟨rfl, h⟩
  · cases h

/-- A whole number in a slot. -/
theorem vr_int {x : V} {rv : Value} {k : IntKind} {n : Int} (h : VR ρ m w x rv) (hx : x = .o (.p (.int k n))) : rv = .int k n ∧ wfB (.int k n) = true := by
  subst hx
  exact h
theorem vr_bool {x : V} {rv : Value} {b : Bool} (h : VR ρ m w x rv) (hx : x = .o (.p (.bool b))) : rv = .bool b := by
  subst hx
  exact h.1

theorem ty_under (hE : EnvOK P E) {t : TypeId} {td : Ty} (h : E.ty t = some td) : ∃ d, P.underlying t = some d := by
  have h1 := (hE.ty _ _ h).2.2
  cases td with
  | i k => exact ⟨_, h1.1⟩
  | b => exact ⟨_, h1⟩
  | str => exact ⟨_, h1⟩
  | arr n k => obtain ⟨_, e, h1, _⟩ := h1; exact ⟨_, h1⟩
  | st zs fs =>
    have h2 := h1.1
    unfold structOf at h2
    cases hu : P.underlying t with
    | none => rw [hu] at h2; cases h2
    | some d => exact ⟨d, rfl⟩
  | sl e => exact ⟨_, h1⟩

theorem op_move (x : Operand) (hx : VR ρ m w (opnd tm x) (a.eval x)) (h : opK E tm m (.move x) κ = some r) : Owes P ρ m ⟨dst, .move x, ty, pos, after, guard⟩ a w fr κ r :=
  owes_pure h (by simp [execOp]) hx
theorem op_assign (x : Operand) (hx : VR ρ m w (opnd tm x) (a.eval x)) (h : opK E tm m (.assign x) κ = some r) : Owes P ρ m ⟨dst, .assign x, ty, pos, after, guard⟩ a w fr κ r :=
  owes_pure h (by simp [execOp]) hx
theorem op_pick (c x y : Operand) (hc : VR ρ m w (opnd tm c) (a.eval c)) (hx : VR ρ m w (opnd tm x) (a.eval x)) (hy : VR ρ m w (opnd tm y) (a.eval y)) (h : opK E tm m (.pick c x y) κ = some r) :
    Owes P ρ m ⟨dst, .pick c x y, ty, pos, after, guard⟩ a w fr κ r := by
  simp only [opK] at h
  split at h
  · rename_i t ht
    have hc' := vr_bool hc ht
    rcases cond_some h with ⟨rfl, h⟩ | ⟨rfl, h⟩
    · exact owes_pure h (by simp [execOp, hc', asBool]) hx
    · exact owes_pure h (by simp [execOp, hc', asBool]) hy
  · cases h
theorem op_not (t : TypeId) (x : Operand) (hx : VR ρ m w (opnd tm x) (a.eval x)) (h : opK E tm m (.unOp .not t x) κ = some r) : Owes P ρ m ⟨dst, .unOp .not t x, ty, pos, after, guard⟩ a w fr κ r := by
  simp only [opK] at h
  split at h
  · rename_i b hb
    have hx' := vr_bool hx hb
    exact owes_pure h (by simp [execOp, hx', Op.unary]) ⟨rfl, rfl⟩
  · cases h
theorem op_neg (t : TypeId) (x : Operand) (hx : VR ρ m w (opnd tm x) (a.eval x)) (h : opK E tm m (.unOp .neg t x) κ = some r) : Owes P ρ m ⟨dst, .unOp .neg t x, ty, pos, after, guard⟩ a w fr κ r := by
  simp only [opK] at h
  split at h
  · rename_i k n hb
    have hx' := (vr_int hx hb).1
    exact owes_pure h (by simp [execOp, hx', Op.unary, Op.intArith]) ⟨rfl, wf_wrap _ _⟩
  · cases h
theorem op_convert (hE : EnvOK P E) (s t : TypeId) (x : Operand) (hx : VR ρ m w (opnd tm x) (a.eval x)) (h : opK E tm m (.convert s t x) κ = some r) :
    Owes P ρ m ⟨dst, .convert s t x, ty, pos, after, guard⟩ a w fr κ r := by
  simp only [opK] at h
  split at h
  · rename_i sd k _ n hs ht hb
    have hx' := (vr_int hx hb).1
    have hT := (hE.ty _ _ ht).2.2.1
    obtain ⟨d, hd⟩ := ty_under hE hs
    exact owes_pure h (by simp [execOp, hx', convert, run_underlying hd, run_underlying hT, Conv.intToInt]) ⟨rfl, wf_wrap _ _⟩
  · cases h
theorem op_extract (x : Operand) (i : Nat) (hx : VR ρ m w (opnd tm x) (a.eval x)) (h : opK E tm m (.extract x i) κ = some r) : Owes P ρ m ⟨dst, .extract x i, ty, pos, after, guard⟩ a w fr κ r := by
  simp only [opK] at h
  split at h
  · rename_i l hl
    split at h
    · rename_i v hv
      rw [hl] at hx
      obtain ⟨rs, h1, h2⟩ := hx
      have key : ∀ (l : List V0) (rs : List Value) (i : Nat) (v : V0), all2 (VR0 ρ m w) l rs → l[i]? = some v → ∃ rv, rs[i]? = some rv ∧ VR0 ρ m w v rv := by
        intro l
        induction l with
        | nil => intro rs i v _ h; simp at h
        | cons q l ih =>
          intro rs i v h h'
          cases rs with
          | nil => exact h.elim
          | cons q' rs =>
            cases i with
            | zero => simp at h'; subst h'; exact ⟨q', rfl, h.1⟩
            | succ i => exact ih rs i v h.2 (by simpa using h')
      obtain ⟨rv, h3, h4⟩ := key l rs i v h2 hv
      exact owes_pure (rv := rv) h (by simp [execOp, h1, Instr.extract, h3]) h4
    · cases h
  · cases h
/-- Of an operation on two whole numbers: what it comes to. -/
theorem intOp_run (op : BinOp) (t : TypeId) (k : IntKind) (x y : Int) (v : Value) (hx : wfB (.int k x) = true) (hs : op ≠ .shl ∧ op ≠ .shr) (h : intV op k x y = some (false, v)) :
    wfB v = true ∧ (binOp op t (.int k x) (.int k y)).run P w = .ok v w := by
  have hq : ∀ z : Int, wfB (.int k (Int.tmod x z)) = true := by
    intro z
    have h1 := Int.natAbs_tmod x z
    have h2 : (Int.tmod x z).natAbs ≤ x.natAbs := by rw [h1]; exact Nat.mod_le _ _
    have h3 : 0 ≤ x → 0 ≤ Int.tmod x z := fun h => Int.tmod_nonneg _ h
    have h4 : x ≤ 0 → Int.tmod x z ≤ 0 := fun h => by
      have := Int.tmod_nonneg z (show 0 ≤ -x by omega)
      rw [Int.neg_tmod] at this
      omega
    simp only [wfB, Bool.and_eq_true, decide_eq_true_eq] at hx ⊢
    have h5 : k.min ≤ 0 := by cases k <;> decide
    have h6 : 0 ≤ k.max := by cases k <;> decide
    omega
  cases op <;> simp only [intV, Option.some.injEq, Prod.mk.injEq, true_and] at h
  case add => subst h; exact ⟨wf_wrap _ _, by simp [binOp, Op.intArith]⟩
  case sub => subst h; exact ⟨wf_wrap _ _, by simp [binOp, Op.intArith]⟩
  case mul => subst h; exact ⟨wf_wrap _ _, by simp [binOp, Op.intArith]⟩
  case quo =>
    obtain ⟨h0, rfl⟩ := h
    exact ⟨wf_wrap _ _, by simp [binOp, Op.intDiv, of_decide_eq_false h0]⟩
  case rem =>
    obtain ⟨h0, rfl⟩ := h
    exact ⟨hq y, by simp [binOp, Op.intDiv, of_decide_eq_false h0]⟩
  case and => subst h; exact ⟨wf_wrap _ _, by simp [binOp]; rfl⟩
  case or => subst h; exact ⟨wf_wrap _ _, by simp [binOp]; rfl⟩
  case xor => subst h; exact ⟨wf_wrap _ _, by simp [binOp]; rfl⟩
  case andNot => subst h; exact ⟨wf_wrap _ _, by simp [binOp]; rfl⟩
  case eql => subst h; exact ⟨rfl, by simp [binOp, Op.intCmp]⟩
  case neq => subst h; exact ⟨rfl, by simp [binOp, Op.intCmp]⟩
  case lss => subst h; exact ⟨rfl, by simp [binOp, Op.intCmp]⟩
  case leq => subst h; exact ⟨rfl, by simp [binOp, Op.intCmp]⟩
  case gtr => subst h; exact ⟨rfl, by simp [binOp, Op.intCmp]⟩
  case geq => subst h; exact ⟨rfl, by simp [binOp, Op.intCmp]⟩
  all_goals first | (cases h; done) | exact absurd rfl hs.1 | exact absurd rfl hs.2

theorem wf_shr (k : IntKind) (x y : Int) (hx : wfB (.int k x) = true) : wfB (.int k (shrI k x y)) = true := by
  unfold shrI
  generalize min y.toNat k.bits = n
  have hp : (0 : Int) < 2 ^ n := Int.pow_pos (by decide)
  rw [Int.fdiv_eq_ediv_of_nonneg _ (by omega)]
  have h1 : 0 ≤ x → x / 2 ^ n ≤ x := fun h => Int.ediv_le_self _ h
  have h2 : 0 ≤ x → 0 ≤ x / 2 ^ n := fun h => Int.ediv_nonneg h (by omega)
  have h3 : x < 0 → x / 2 ^ n < 0 := fun h => Int.ediv_neg_of_neg_of_pos h hp
  have h4 : x < 0 → x ≤ x / 2 ^ n := fun h => by
    rw [Int.le_ediv_iff_mul_le hp]
    have : 1 ≤ (2 : Int) ^ n := by omega
    have h5 := Int.mul_le_mul_of_nonpos_left (show x ≤ 0 by omega) this
    omega
  simp only [wfB, Bool.and_eq_true, decide_eq_true_eq] at hx ⊢
  have h5 : k.min ≤ 0 := by cases k <;> decide
  have h6 : 0 ≤ k.max := by cases k <;> decide
  by_cases hh : 0 ≤ x
  · have := h1 hh; have := h2 hh; omega
  · have := h3 (by omega); have := h4 (by omega); omega

theorem guard_plain (op : BinOp) (t : TypeId) (x y : Operand) (u v : Value) (hu : wfB u = true) : (eqGuard op t x y u v).run P w = .ok () w := by
  cases u <;> first | (cases hu; done) | (cases op <;> cases v <;> rfl)

theorem guard_agg (op : BinOp) (t : TypeId) (x y : Operand) (xs ys : Array Value) (hm : P.eqGuardType P.depth t = false) : (eqGuard op t x y (.agg xs) (.agg ys)).run P w = .ok () w := run_eqGuard_agg w op t x y xs ys hm
theorem eqV_run (hE : EnvOK P E) (t : TypeId) (vx vy : V0) (rx ry : Value) (b : Bool) (h : eqV (E.ty t) vx vy = some b) (x y : Operand) (hx : VR ρ m w (.o vx) rx) (hy : VR ρ m w (.o vy) ry) :
    (eqGuard .eql t x y rx ry).run P w = .ok () w ∧ (binOp .eql t rx ry).run P w = .ok (.bool b) w ∧ (eqGuard .neq t x y rx ry).run P w = .ok () w ∧ (binOp .neq t rx ry).run P w = .ok (.bool (!b)) w := by
  unfold eqV at h
  split at h
  · rename_i p q
    obtain ⟨rfl, _⟩ := hx
    obtain ⟨rfl, _⟩ := hy
    split at h
    · rename_i ht
      injection h with h
      subst h
      have hu := (hE.ty _ _ ht).2.2
      have e : (Op.equalIn 10000 t (.bool p) (.bool q)).run P w = .ok (p == q) w := run_equalIn_bool' w 9999 t p q hu
      refine ⟨guard_plain _ _ _ _ _ _ rfl, ?_, guard_plain _ _ _ _ _ _ rfl, ?_⟩ <;> simp only [binOp, Op.equal, Op.maxDepth, Sem.run_bind, e, Result.andThen_ok] <;> rfl
    · cases h
  · rename_i p q
    obtain ⟨rfl, hp⟩ := hx
    obtain ⟨rfl, hq⟩ := hy
    split at h
    · injection h with h
      subst h
      refine ⟨guard_plain _ _ _ _ _ _ hp, ?_, guard_plain _ _ _ _ _ _ hp, ?_⟩ <;> simp [binOp, Op.stringOp] <;> exact (beq_toListBytes p q).symm
    · cases h
  · rename_i k n xs k' n' ys
    obtain ⟨rfl, h1, _⟩ := hx
    obtain ⟨rfl, h2, _⟩ := hy
    split at h
    · rename_i n2 k2 ht
      cases hd : decide (n = n2 ∧ n' = n2 ∧ k = k2 ∧ k' = k2) <;> rw [hd] at h
      · cases h
      · obtain ⟨rfl, rfl, rfl, rfl⟩ := of_decide_eq_true hd
        injection h with h
        subst h
        obtain ⟨g1, g2⟩ := hE.eq _ _ ht
        have e := g2 w xs ys h1 h2
        refine ⟨guard_agg _ _ _ _ _ _ g1, ?_, guard_agg _ _ _ _ _ _ g1, ?_⟩ <;> simp only [binOp, Op.equal, Op.maxDepth, Sem.run_bind, e, Result.andThen_ok] <;> rfl
    · cases h
  · rename_i xs ys
    obtain ⟨rfl, hwx⟩ := hx
    obtain ⟨rfl, hwy⟩ := hy
    split at h
    · rename_i zs fs ht
      cases hd : (likeZ zs xs && likeZ zs ys) <;> rw [hd] at h
      · cases h
      · obtain ⟨h1, h2⟩ := Bool.and_eq_true_iff.1 hd
        obtain ⟨g1, g2⟩ := hE.eq _ _ ht
        have e := g2 w xs ys b hwx hwy h1 h2 h
        refine ⟨guard_agg _ _ _ _ _ _ g1, ?_, guard_agg _ _ _ _ _ _ g1, ?_⟩ <;> simp only [binOp, Op.equal, Op.maxDepth, Sem.run_bind, e, Result.andThen_ok] <;> rfl
    · cases h
  · cases h

theorem op_bin (hE : EnvOK P E) (op : BinOp) (t yt : TypeId) (x y : Operand) (hx : VR ρ m w (opnd tm x) (a.eval x)) (hy : VR ρ m w (opnd tm y) (a.eval y)) (h : opK E tm m (.binOp op t x y yt) κ = some r) :
    Owes P ρ m ⟨dst, .binOp op t x y yt, ty, pos, after, guard⟩ a w fr κ r := by
  simp only [opK] at h
  unfold binK at h
  split at h
  case h_2 => cases h
  rename_i bad v hb
  obtain ⟨rfl, h⟩ := cond_none' h
  suffices hh : wfB v = true ∧ ((do eqGuard op t x y (a.eval x) (a.eval y); binOp op t (a.eval x) (a.eval y) : Sem Value)).run P w = .ok v w by
    refine owes_pure (v := .o (.p v)) h ?_ ⟨rfl, hh.1⟩
    simp only [execOp]
    rw [Sem.run_bind, hh.2]
    rfl
  unfold binV at hb
  split at hb
  · rename_i k b k' c hx' hy'
    have hx1 := vr_int hx hx'
    have hy1 := vr_int hy hy'
    simp only [Option.some.injEq, Prod.mk.injEq] at hb
    obtain ⟨h0, rfl⟩ := hb
    refine ⟨wf_wrap _ _, ?_⟩
    simp only [hx1.1, hy1.1, Sem.run_bind, guard_plain (P := P) (w := w) _ t x y _ _ hx1.2, Result.andThen_ok]
    simp [binOp, Op.shift, of_decide_eq_false h0]
    rfl
  · rename_i k b k' c hx' hy'
    have hx1 := vr_int hx hx'
    have hy1 := vr_int hy hy'
    simp only [Option.some.injEq, Prod.mk.injEq] at hb
    obtain ⟨h0, rfl⟩ := hb
    refine ⟨wf_shr _ _ _ hx1.2, ?_⟩
    simp only [hx1.1, hy1.1, Sem.run_bind, guard_plain (P := P) (w := w) _ t x y _ _ hx1.2, Result.andThen_ok]
    simp [binOp, Op.shift, of_decide_eq_false h0]
    rfl
  · rename_i op' x0 y0 k b k' c n1 n2 hx' hy'
    have hx1 := vr_int hx hx'
    have hy1 := vr_int hy hy'
    split at hb
    · rename_i hk
      subst hk
      obtain ⟨h2, h3⟩ := intOp_run (P := P) (w := w) _ t k b c v hx1.2 ⟨n1, n2⟩ hb
      refine ⟨h2, ?_⟩
      simp only [hx1.1, hy1.1, Sem.run_bind, guard_plain (P := P) (w := w) _ t x y _ _ hx1.2, Result.andThen_ok, h3]
    · cases hb
  · rename_i s1 s2 hx' hy'
    split at hb
    case h_2 => cases hb
    rename_i ht
    simp only [Option.some.injEq, Prod.mk.injEq] at hb
    obtain ⟨h0, rfl⟩ := hb
    rw [hx'] at hx
    rw [hy'] at hy
    obtain ⟨e1, g1⟩ := hx
    obtain ⟨e2, g2⟩ := hy
    have h0 : s1.size + s2.size ≤ lim := by
      have := of_decide_eq_false h0
      omega
    refine ⟨by simpa [wfB, ByteArray.size_append] using h0, ?_⟩
    have h47 : lim = 140737488355328 := by decide
    have hlt : ¬ (((s1.size + s2.size : Nat) : Int) > IntKind.i64.max) := by
      have hmx : IntKind.i64.max = 9223372036854775807 := by decide
      rw [hmx]
      omega
    simp only [e1, e2, Sem.run_bind, guard_plain (P := P) (w := w) _ t x y _ _ g1, Result.andThen_ok]
    simp [binOp, Op.stringOp]
    exact by simpa using hlt
  · rename_i vx vy _ hx' hy'
    split at hb
    · rename_i b hq
      simp only [Option.some.injEq, Prod.mk.injEq, true_and] at hb
      subst hb
      rw [hx'] at hx
      rw [hy'] at hy
      obtain ⟨e1, e2, _⟩ := eqV_run hE t vx vy _ _ b hq x y hx hy
      exact ⟨rfl, by simp only [Sem.run_bind, e1, Result.andThen_ok, e2]⟩
    · cases hb
  · rename_i vx vy _ hx' hy'
    split at hb
    · rename_i b hq
      simp only [Option.some.injEq, Prod.mk.injEq, true_and] at hb
      subst hb
      rw [hx'] at hx
      rw [hy'] at hy
      obtain ⟨_, _, e1, e2⟩ := eqV_run hE t vx vy _ _ b hq x y hx hy
      exact ⟨rfl, by simp only [Sem.run_bind, e1, Result.andThen_ok, e2]⟩
    · cases hb
  · cases hb
end ops
end Go.Vm
