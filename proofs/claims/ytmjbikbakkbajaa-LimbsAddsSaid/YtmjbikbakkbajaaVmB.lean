/-
  The evaluator's relation to the machine: how values of slots and blocks by name read in a world; what an environment owes. No statement is proved here.
-/
import Derived.Test.YtmjbikbakkbajaaVmA
import Derived.Deep.MidRow
import Derived.Below
import Derived.OrdersHeld
namespace Go.Vm
open Go.RowKit (Below)
variable {P : Program}

abbrev Nm := Nat → Option (Nat × Nat)

def inR (k : IntKind) (xs : List Int) : Prop := ∀ x ∈ xs, wfB (.int k x) = true
def wfL (vs : List Value) : Prop := ∀ v ∈ vs, wfB v = true
def bsize (w : World) (b : Nat) : Nat := match w.heap[b]? with | some (.cells c _ _) => c.size | _ => 0

def mineAt (m : Mem) (i : Nat) : Prop := ∃ b, m[i]? = some (.mine, b)
/-- How many numbers a block has. -/
def blkN (m : Mem) (i : Nat) : Option Nat := match m[i]? with
  | some (_, .w _ n _) => some n
  | _ => none
/-- How a slice reads: from cell k of block i on. -/
def SlR (ρ : Nm) (m : Mem) (w : World) (i k n : Nat) (r : Value) : Prop := i < m.length ∧ ∃ ad cap, r = .slice ad n cap ∧ n ≤ cap ∧ n ≤ lim ∧ (n = 0 ∨ ∃ b o, ρ i = some (b, o) ∧ ad = some ⟨b, o + k, none⟩) ∧
      (mineAt m i → cap = 0 ∨ ∃ b, ρ i = some (b, 0) ∧ ad = some ⟨b, k, none⟩ ∧ k + cap ≤ bsize w b)
/-- How a value reads; of m: how many blocks there are, which are the call's own, how many numbers each has. -/
def VR0 (ρ : Nm) (m : Mem) (w : World) : V0 → Value → Prop
  | .p v, r => r = v ∧ wfB v = true
  | .r k n xs, r => r = .agg (xs.map (Value.int k)).toArray ∧ xs.length = n ∧ n ≤ lim ∧ inR k xs
  | .g vs, r => r = .agg vs.toArray ∧ wfL vs
  | .a i k, r => i < m.length ∧ ∃ b o, ρ i = some (b, o) ∧ r = .pointer (some ⟨b, o + k, none⟩)
  | .s i k n, r => SlR ρ m w i k n r
  | .f i, r => i < m.length ∧ ∀ n, blkN m i = some n → SlR ρ m w i 0 n r
  | .z, r => ∃ ad, r = .slice ad 0 0
  | .u, _ => True

def all2 {α β : Type} (S : α → β → Prop) : List α → List β → Prop
  | [], [] => True
  | a :: l, b :: l' => S a b ∧ all2 S l l'
  | _, _ => False

def VR (ρ : Nm) (m : Mem) (w : World) : V → Value → Prop
  | .o x, r => VR0 ρ m w x r
  | .t l, r => ∃ rs : List Value, r = .tuple rs.toArray ∧ all2 (VR0 ρ m w) l rs

/-- A block reads as it is told. -/
def BlkOK (ρ : Nm) (w : World) (i : Nat) : Blk → Prop
  | .w k n xs => xs.length = n ∧ n ≤ lim ∧ inR k xs ∧ (n = 0 ∨ ∃ b o, ρ i = some (b, o) ∧ w.rangeAt b o (xs.map (Value.int k)))
  | .c vs => wfL vs ∧ (vs = [] ∨ ∃ b o, ρ i = some (b, o) ∧ w.rangeAt b o vs)
  | .dead => True
/-- A block of the call's own may be written. -/
def MineOK (ρ : Nm) (w : World) (i : Nat) : Prop := ∀ b o, ρ i = some (b, o) → o = 0 ∧ ∃ c e, w.heap[b]? = some (.cells c e (0, 0))

/-- How what is handed on reads. -/
def DR (w : World) : D → Value → Prop
  | .p v, r => r = v ∧ wfB v = true
  | .r k n xs, r => r = .agg (xs.map (Value.int k)).toArray ∧ xs.length = n ∧ n ≤ lim ∧ inR k xs
  | .g vs, r => r = .agg vs.toArray ∧ wfL vs
  | .w k xs, r => ∃ ad cap, r = .slice ad xs.length cap ∧ xs.length ≤ cap ∧ xs.length ≤ lim ∧ inR k xs ∧ (xs.length = 0 ∨ ∃ b o, ad = some ⟨b, o, none⟩ ∧ w.rangeAt b o (xs.map (Value.int k)))
  | .c n vs, r => ∃ ad cap, r = .slice ad n cap ∧ n ≤ cap ∧ n ≤ lim ∧ wfL vs ∧ (n = 0 ↔ vs = []) ∧ (n = 0 ∨ ∃ b o, ad = some ⟨b, o, none⟩ ∧ w.rangeAt b o vs)
def D.wf : D → Prop
  | .p v => wfB v = true
  | .r k n xs => xs.length = n ∧ n ≤ lim ∧ inR k xs
  | .g vs => wfL vs
  | .w k xs => xs.length ≤ lim ∧ inR k xs
  | .c n vs => n ≤ lim ∧ wfL vs ∧ (n = 0 ↔ vs = [])
def D.isSl : D → Bool
  | .w .. => true
  | .c .. => true
  | _ => false

theorem DR.wf {w : World} {d : D} {r : Value} (h : DR w d r) : d.wf := by
  cases d with
  | p v => exact h.2
  | r k n xs => exact ⟨h.2.1, h.2.2.1, h.2.2.2⟩
  | g vs => exact h.2
  | w k xs => obtain ⟨_, _, _, _, h1, h2, _⟩ := h; exact ⟨h1, h2⟩
  | c n vs => obtain ⟨_, _, _, _, h1, h2, h3, _⟩ := h; exact ⟨h1, h2, h3⟩

/-- The block that a slice leads into. -/
def blockOf : Value → Option Nat
  | .slice (some a) _ _ => some a.block
  | _ => none

/-- Of one result: how it reads, and whose it is. -/
def ResOK (w w' : World) (args : List Value) (one : Prop) : Own × D → Value → Prop
  | (ow, d), r => DR w' d r ∧ (d.isSl = true → match ow with
    | .mine => (∃ ad n cap, r = .slice ad n cap ∧ (cap = 0 ∨ ∃ b, ad = some ⟨b, 0, none⟩ ∧ w.heap.size ≤ b ∧ (one → (∃ c e, w'.heap[b]? = some (.cells c e (0, 0))) ∧ cap ≤ bsize w' b)))
    | .new => ∀ b ad n cap, r = .slice (some ad) n cap → n ≠ 0 → ad.block = b → w.heap.size ≤ b
    | .old => ∀ b ad n cap, r = .slice (some ad) n cap → n ≠ 0 → ad.block = b → w.heap.size ≤ b ∨ ∃ v, v ∈ args ∧ ∃ ad n cap, v = .slice (some ad) n cap ∧ n ≠ 0 ∧ ad.block = b)

def tupleOf : List Value → Value
  | [v] => v
  | l => .tuple l.toArray

/-- A call comes to this. -/
def CallsTo (P : Program) (f : FuncId) (args : Array Value) (w : World) (post : Value → World → Prop) : Prop :=
  (∃ rv w', (callFunc f args).run P w = .ok (.value rv) w' ∧ post rv w') ∨
  ((callFunc f args).run P w = .ok (.enter f args) w ∧ Calls P f args w fun e w' => ∃ rv, e = .returned rv ∧ post rv w')

/-- The answer to a call is right: in whatever world that reads so. -/
def CallOK (P : Program) (f : FuncId) (ds : List D) (res : List (Own × D)) : Prop :=
  ∀ (w : World) (vs : List Value), all2 (DR w) ds vs →
    CallsTo P f vs.toArray w fun rv w' => Below w.heap.size w w' ∧ ∃ rs, rv = tupleOf rs ∧ all2 (ResOK w w' vs (res.length = 1)) res rs

/-- What an environment's answer for a function owes. -/
def FnOK (P : Program) (f : FuncId) (F : List D → (List (Own × D) → R) → R) : Prop :=
  ∀ ds κ r, (∀ d ∈ ds, d.wf) → F ds κ = some r → ∃ res, κ res = some r ∧ CallOK P f ds res

def structOf (P : Program) (t : TypeId) : Option (List (Nat × TypeId)) := match P.underlying t with
  | some (.struct F) => some (F.toList.map fun f => (f.offset, f.type))
  | _ => none
def Ty.real : Ty → Value
  | .i k => .int k 0
  | .b => .bool false
  | .str => .string ByteArray.empty
  | .arr n k => .agg ((List.replicate n (0 : Int)).map (Value.int k)).toArray
  | .st zs _ => .agg zs.toArray
  | .sl _ => .slice none 0 0
def TdOK (P : Program) (t : TypeId) (td : Ty) : Prop :=
  (P.info? t).map (·.size) = some td.size ∧ (P.info? t).bind (·.zero) = some td.real ∧ match td with
  | .i k => P.underlying t = some (.int k) ∧ ∃ bb, (P.info? t).map (·.bytes) = some bb ∧ bb ≤ 8
  | .b => P.underlying t = some .bool
  | .str => P.underlying t = some .string
  | .arr n k => n ≤ lim ∧ ∃ e, P.underlying t = some (.array n e) ∧ P.underlying e = some (.int k) ∧ (P.info? e).map (·.size) = some 1
  | .st zs fs => structOf P t = some fs ∧ zs.all wfB = true
  | .sl e => P.underlying t = some (.slice e)

/-- What '==' of two arrays or structs comes to. -/
def EqOK (P : Program) (t : TypeId) (td : Ty) : Prop := match td with
  | .arr n k => P.eqGuardType P.depth t = false ∧ ∀ (w : World) (xs ys : List Int), xs.length = n → ys.length = n →
      (Op.equalIn 10000 t (.agg (xs.map (Value.int k)).toArray) (.agg (ys.map (Value.int k)).toArray)).run P w = .ok (decide (xs = ys)) w
  | .st zs _ => P.eqGuardType P.depth t = false ∧ ∀ (w : World) (xs ys : List Value) (b : Bool), wfL xs → wfL ys → likeZ zs xs = true → likeZ zs ys = true → eqCells xs ys = some b →
      (Op.equalIn 10000 t (.agg xs.toArray) (.agg ys.toArray)).run P w = .ok b w
  | _ => True

structure EnvOK (P : Program) (E : Env) : Prop where
  ty : ∀ t td, E.ty t = some td → TdOK P t td
  eq : ∀ t td, E.ty t = some td → EqOK P t td
  fn : ∀ f F, E.fn f = some F → FnOK P f F

/-- What is told over m holds over m': no block has gone, none has become the call's own, none has another length. -/
def StLe (m m' : Mem) : Prop := m.length ≤ m'.length ∧ (∀ i, i < m.length → mineAt m' i → mineAt m i) ∧ ∀ i n, i < m.length → blkN m' i = some n → blkN m i = some n
theorem StLe.refl (m : Mem) : StLe m m := ⟨Nat.le_refl _, fun _ _ h => h, fun _ _ _ h => h⟩
theorem StLe.append (m nb : Mem) : StLe m (m ++ nb) := ⟨by simp, fun i hi h => by
  obtain ⟨b, hb⟩ := h
  rw [List.getElem?_append_left hi] at hb
  exact ⟨b, hb⟩, fun i n hi h => by
  unfold blkN at h ⊢
  rwa [List.getElem?_append_left hi] at h⟩
theorem StLe.trans {a b c : Mem} (h : StLe a b) (k : StLe b c) : StLe a c := ⟨Nat.le_trans h.1 k.1, fun i hi hm => h.2.1 i hi (k.2.1 i (Nat.lt_of_lt_of_le hi h.1) hm),
  fun i n hi hn => h.2.2 i n hi (k.2.2 i n (Nat.lt_of_lt_of_le hi h.1) hn)⟩
/-- A block is written, or given up. -/
theorem StLe.set (m : Mem) (i : Nat) (s : Own) (blk : Blk) (h : s = .mine → mineAt m i) (hn : ∀ k n xs, blk = .w k n xs → blkN m i = some n) : StLe m (m.set i (s, blk)) := ⟨by simp, fun j hj hm => by
  obtain ⟨b, hb⟩ := hm
  by_cases e : i = j
  · subst e
    rw [List.getElem?_set_self hj] at hb
    cases hb
    exact h rfl
  · rw [List.getElem?_set_ne e] at hb; exact ⟨b, hb⟩, fun j n hj hm => by
  by_cases e : i = j
  · subst e
    unfold blkN at hm
    rw [List.getElem?_set_self hj] at hm
    cases blk with
    | w k n' xs => cases hm; exact hn _ _ _ rfl
    | _ => cases hm
  · unfold blkN at hm ⊢
    rwa [List.getElem?_set_ne e] at hm⟩

/-- The old blocks are as they were in size. -/
def Sizes (w w' : World) : Prop := ∀ b, b < w.heap.size → bsize w' b = bsize w b

theorem SlR.mono {ρ ρ' : Nm} {m m' : Mem} {w w' : World} {i k n : Nat} {r : Value} (hr : ∀ i b o, i < m.length → ρ i = some (b, o) → ρ' i = some (b, o) ∧ bsize w' b = bsize w b)
    (hm : StLe m m') (h : SlR ρ m w i k n r) : SlR ρ' m' w' i k n r := by
  obtain ⟨hi, ad, cap, h1, h2, h3, h4, h5⟩ := h
  refine ⟨Nat.lt_of_lt_of_le hi hm.1, ad, cap, h1, h2, h3, ?_, ?_⟩
  · rcases h4 with h4 | ⟨b, o, h4, h4'⟩
    · exact .inl h4
    · exact .inr ⟨b, o, (hr i b o hi h4).1, h4'⟩
  · intro hm'
    rcases h5 (hm.2.1 i hi hm') with h5 | ⟨b, h5, h5', h5''⟩
    · exact .inl h5
    · exact .inr ⟨b, (hr i b 0 hi h5).1, h5', by rw [(hr i b 0 hi h5).2]; exact h5''⟩
theorem VR0.mono {ρ ρ' : Nm} {m m' : Mem} {w w' : World} {x : V0} {r : Value} (hr : ∀ i b o, i < m.length → ρ i = some (b, o) → ρ' i = some (b, o) ∧ bsize w' b = bsize w b)
    (hm : StLe m m') (h : VR0 ρ m w x r) : VR0 ρ' m' w' x r := by
  cases x with
  | p v => exact h
  | r k n xs => exact h
  | g vs => exact h
  | a i k =>
    obtain ⟨hi, b, o, h1, h2⟩ := h
    exact ⟨Nat.lt_of_lt_of_le hi hm.1, b, o, (hr i b o hi h1).1, h2⟩
  | s i k n => exact SlR.mono hr hm h
  | f i =>
    obtain ⟨hi, h⟩ := h
    exact ⟨Nat.lt_of_lt_of_le hi hm.1, fun n hn => SlR.mono hr hm (h n (hm.2.2 i n hi hn))⟩
  | z => exact h
  | u => trivial
theorem all2.mono {α β : Type} {S S' : α → β → Prop} (h : ∀ a b, S a b → S' a b) : ∀ (l : List α) (l' : List β), all2 S l l' → all2 S' l l'
  | [], [], _ => trivial
  | _ :: l, _ :: l', ⟨h1, h2⟩ => ⟨h _ _ h1, all2.mono h l l' h2⟩
theorem all2.length {α β : Type} {S : α → β → Prop} : ∀ (l : List α) (l' : List β), all2 S l l' → l.length = l'.length
  | [], [], _ => rfl
  | _ :: l, _ :: l', ⟨_, h2⟩ => by simp [all2.length l l' h2]
theorem VR.mono {ρ ρ' : Nm} {m m' : Mem} {w w' : World} {x : V} {r : Value} (hr : ∀ i b o, i < m.length → ρ i = some (b, o) → ρ' i = some (b, o) ∧ bsize w' b = bsize w b)
    (hm : StLe m m') (h : VR ρ m w x r) : VR ρ' m' w' x r := by
  cases x with
  | o x => exact VR0.mono hr hm h
  | t l =>
    obtain ⟨rs, h1, h2⟩ := h
    exact ⟨rs, h1, h2.mono (fun _ _ h => VR0.mono hr hm h)⟩
end Go.Vm
