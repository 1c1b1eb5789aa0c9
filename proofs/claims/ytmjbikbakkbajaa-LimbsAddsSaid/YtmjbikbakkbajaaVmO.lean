/-
  What an operation answers does not hang on what goes on behind it. No statement is proved here.
-/
import Derived.Test.YtmjbikbakkbajaaVmK
namespace Go.Vm
open Go.RowKit (Below)
variable {P : Program}

def namesV : V → List Nat
  | .o x => (nameOf (.o x)).toList
  | .t l => l.filterMap fun x => nameOf (.o x)

/-- The names in an operation's answer, and what becomes of memory. -/
def Shape (tm : List V) (m : Mem) (o : Op) (v : V) (m' : Mem) : Prop :=
  (∀ n, n ∈ namesV v → (m.length ≤ n ∧ n < m'.length) ∨ ∃ x, x ∈ o.operands ∧ n ∈ namesV (opnd tm x)) ∧
  (((foot tm o).1 = [] ∧ ∃ nb, m' = m ++ nb) ∨ ∃ n blk', (foot tm o).1 = [n] ∧ v = .o .u ∧ m' = m.set n (.mine, blk') ∧ mineAt m n ∧ blkN m' n = blkN m n)

def Det (E : Env) (tm : List V) (m : Mem) (o : Op) : Prop := ∃ v m', (∀ κ, opK E tm m o κ = κ v m') ∧ Shape tm m o v m'

theorem blkN_set_w {m : Mem} {i n : Nat} {s s' : Own} {k k' : IntKind} {xs ys : List Int} (h : m[i]? = some (s, .w k n xs)) : blkN (m.set i (s', .w k' n ys)) i = blkN m i := by
  unfold blkN
  rw [List.getElem?_set_self (List.getElem?_eq_some_iff.1 h).1, h]
theorem blkN_set_c {m : Mem} {i : Nat} {s s' : Own} {xs ys : List Value} (h : m[i]? = some (s, .c xs)) : blkN (m.set i (s', .c ys)) i = blkN m i := by
  unfold blkN
  rw [List.getElem?_set_self (List.getElem?_eq_some_iff.1 h).1, h]

section
variable {E : Env} {tm : List V} {m : Mem} {κ : V → Mem → R} {r : List (Own × D)}

theorem shape_same {o : Op} {v : V} (h : ∀ n, n ∈ namesV v → ∃ x, x ∈ o.operands ∧ n ∈ namesV (opnd tm x)) (hf : (foot tm o).1 = []) : Shape tm m o v m :=
  ⟨fun n hn => .inr (h n hn), .inl ⟨hf, [], by simp⟩⟩
theorem shape_plain {o : Op} {v : V} (h : namesV v = []) (hf : (foot tm o).1 = []) : Shape tm m o v m :=
  shape_same (fun n hn => by rw [h] at hn; cases hn) hf
theorem shape_new {o : Op} {v : V} {b : Own × Blk} (h : ∀ n, n ∈ namesV v → n = m.length) (hf : (foot tm o).1 = []) : Shape tm m o v (m ++ [b]) :=
  ⟨fun n hn => .inl (by have := h n hn; subst this; simp), .inl ⟨hf, [b], rfl⟩⟩

theorem det_move (x : Operand) (_ : opK E tm m (.move x) κ = some r) : Det E tm m (.move x) := ⟨_, _, fun _ => rfl, shape_same (fun n hn => ⟨x, by simp [Op.operands], hn⟩) rfl⟩
theorem det_assign (x : Operand) (_ : opK E tm m (.assign x) κ = some r) : Det E tm m (.assign x) := ⟨_, _, fun _ => rfl, shape_same (fun n hn => ⟨x, by simp [Op.operands], hn⟩) rfl⟩
theorem det_pick (c x y : Operand) (h : opK E tm m (.pick c x y) κ = some r) : Det E tm m (.pick c x y) := by
  simp only [opK] at h
  split at h
  · rename_i t ht
    rcases cond_some h with ⟨rfl, h⟩ | ⟨rfl, h⟩
    · exact ⟨_, _, fun κ => by simp only [opK, ht]; rfl, shape_same (fun n hn => ⟨x, by simp [Op.operands], hn⟩) rfl⟩
    · exact ⟨_, _, fun κ => by simp only [opK, ht]; rfl, shape_same (fun n hn => ⟨y, by simp [Op.operands], hn⟩) rfl⟩
  · cases h
theorem det_not (t : TypeId) (x : Operand) (h : opK E tm m (.unOp .not t x) κ = some r) : Det E tm m (.unOp .not t x) := by
  simp only [opK] at h
  split at h
  · rename_i b hb
    exact ⟨_, _, fun κ => by simp only [opK, hb]; rfl, shape_plain rfl rfl⟩
  · cases h
theorem det_neg (t : TypeId) (x : Operand) (h : opK E tm m (.unOp .neg t x) κ = some r) : Det E tm m (.unOp .neg t x) := by
  simp only [opK] at h
  split at h
  · rename_i k n hb
    exact ⟨_, _, fun κ => by simp only [opK, hb]; rfl, shape_plain rfl rfl⟩
  · cases h
theorem det_convert (s t : TypeId) (x : Operand) (h : opK E tm m (.convert s t x) κ = some r) : Det E tm m (.convert s t x) := by
  simp only [opK] at h
  split at h
  · rename_i sd k _ n hs ht hb
    exact ⟨_, _, fun κ => by simp only [opK, hs, ht, hb]; rfl, shape_plain rfl rfl⟩
  · cases h
theorem det_extract (x : Operand) (i : Nat) (h : opK E tm m (.extract x i) κ = some r) : Det E tm m (.extract x i) := by
  simp only [opK] at h
  split at h
  · rename_i l hl
    split at h
    · rename_i v hv
      refine ⟨_, _, fun κ => by simp only [opK, hl, hv]; rfl, shape_same (fun n hn => ⟨x, by simp [Op.operands], ?_⟩) rfl⟩
      rw [hl]
      have : nameOf (.o v) = some n := by
        simp only [namesV] at hn
        simpa using hn
      exact List.mem_filterMap.2 ⟨v, List.mem_of_getElem? hv, this⟩
    · cases h
  · cases h
theorem det_alloc (t : TypeId) (h : opK E tm m (.alloc t) κ = some r) : Det E tm m (.alloc t) := by
  simp only [opK] at h
  split at h
  · rename_i v hv
    split at h
    · rename_i b hb
      exact ⟨_, _, fun κ => by simp only [opK, hv, hb]; rfl, shape_new (fun n hn => by simpa [namesV, nameOf] using hn) rfl⟩
    · cases h
  · cases h
theorem det_box (t : TypeId) (x : Operand) (h : opK E tm m (.box t x) κ = some r) : Det E tm m (.box t x) := by
  simp only [opK] at h
  split at h
  · rename_i td v ht hv
    split at h
    · rename_i b hb
      obtain ⟨hc, h⟩ := cond_none h
      exact ⟨_, _, fun κ => by simp only [opK, ht, hv, hb, hc]; rfl, shape_new (fun n hn => by simpa [namesV, nameOf] using hn) rfl⟩
    · cases h
  · cases h
theorem det_build (t : TypeId) (ps : Array (Nat × Operand)) (h : opK E tm m (.build t ps) κ = some r) : Det E tm m (.build t ps) := by
  simp only [opK] at h
  split at h
  · rename_i n k ht
    split at h
    · rename_i xs hb
      exact ⟨.o (.r k n xs), m, fun κ => by simp only [opK, ht, hb], shape_plain rfl rfl⟩
    · cases h
  · rename_i zs fs ht
    split at h
    · rename_i pl rs hpl hrs
      split at h
      · rename_i vs hf
        exact ⟨.o (.g vs.toList), m, fun κ => by simp only [opK, ht, hpl, hrs, hf], shape_plain rfl rfl⟩
      · cases h
    · cases h
  · cases h
theorem det_buildSlice (t : TypeId) (n : Nat) (ps : Array (Nat × Operand)) (h : opK E tm m (.buildSlice t n ps) κ = some r) : Det E tm m (.buildSlice t n ps) := by
  simp only [opK] at h
  split at h
  case h_2 => cases h
  rename_i e ht
  split at h
  · rename_i k he
    cases hn : (n == 0) <;> rw [hn] at h
    · change (match buildArr k (List.replicate n 0) (ps.toList.map fun q => (q.1, opnd tm q.2)) with | some xs => _ | none => none) = some r at h
      split at h
      case h_2 => cases h
      rename_i xs hb
      obtain ⟨hc, h⟩ := cond_none h
      exact ⟨_, _, fun κ => by simp only [opK, ht, he, hn, hb, hc]; rfl, shape_new (fun n hn => by simpa [namesV, nameOf] using hn) rfl⟩
    · change (bif ps.size == 0 then κ (.o .z) m else none) = some r at h
      obtain ⟨hc, h⟩ := cond_none h
      exact ⟨_, _, fun κ => by simp only [opK, ht, he, hn, hc]; rfl, shape_plain rfl rfl⟩
  · rename_i zs fs he
    split at h
    case h_2 => cases h
    rename_i rs hrs
    split at h
    case h_2 => cases h
    rename_i vs hf
    obtain ⟨hc, h⟩ := cond_none h
    exact ⟨_, _, fun κ => by simp only [opK, ht, he, hrs, hf, hc]; rfl, shape_new (fun n hn => by simpa [namesV, nameOf] using hn) rfl⟩
  · cases h
theorem det_load (t : TypeId) (x : Operand) (h : opK E tm m (.load t x) κ = some r) : Det E tm m (.load t x) := by
  simp only [opK] at h
  split at h
  case h_2 => cases h
  rename_i td i k ht hv
  unfold loadV at h
  split at h
  · rename_i s kd n xs hm
    split at h
    · obtain ⟨hk, h⟩ := cond_none h
      exact ⟨_, _, fun κ => by simp only [opK, ht, hv, loadV, hm, hk]; rfl, shape_plain rfl rfl⟩
    · obtain ⟨hk, h⟩ := cond_none h
      exact ⟨_, _, fun κ => by simp only [opK, ht, hv, loadV, hm, hk]; rfl, shape_plain rfl rfl⟩
    · cases h
  · rename_i s vs hm
    obtain ⟨hk, h⟩ := cond_none h
    split at h
    · rename_i v hc
      refine ⟨_, _, fun κ => by simp only [opK, ht, hv, loadV, hm, hk, hc]; rfl, shape_plain ?_ rfl⟩
      rcases ofCells_cases hc with ⟨u, _, rfl, _⟩ | ⟨n, k, _, _, _, rfl⟩ | ⟨zs', fs', _, _, rfl⟩ <;> rfl
    · cases h
  · cases h
theorem det_store (t : TypeId) (x y : Operand) (h : opK E tm m (.store t x y) κ = some r) : Det E tm m (.store t x y) := by
  simp only [opK] at h
  split at h
  case h_2 => cases h
  rename_i td i k v ht hv hv'
  have hfoot : (foot tm (.store t x y)).1 = [i] := by simp [foot, hv, nameOf]
  unfold storeV at h
  split at h
  · rename_i kd n xs hm
    split at h
    · obtain ⟨hk, h⟩ := cond_none h
      exact ⟨_, _, fun κ => by simp only [opK, ht, hv, hv', storeV, hm, hk]; rfl, fun n hn => by simp [namesV, nameOf] at hn, .inr ⟨i, _, hfoot, rfl, rfl, ⟨_, hm⟩, blkN_set_w hm⟩⟩
    · obtain ⟨hk, h⟩ := cond_none h
      exact ⟨_, _, fun κ => by simp only [opK, ht, hv, hv', storeV, hm, hk]; rfl, fun n hn => by simp [namesV, nameOf] at hn, .inr ⟨i, _, hfoot, rfl, rfl, ⟨_, hm⟩, by obtain ⟨_, h2, rfl, _⟩ := of_decide_eq_true hk; subst h2; exact blkN_set_w hm⟩⟩
    · cases h
  · rename_i vs hm
    split at h
    · rename_i cs hcs
      obtain ⟨hk, h⟩ := cond_none h
      exact ⟨_, _, fun κ => by simp only [opK, ht, hv, hv', storeV, hm, hcs, hk]; rfl, fun n hn => by simp [namesV, nameOf] at hn, .inr ⟨i, _, hfoot, rfl, rfl, ⟨_, hm⟩, blkN_set_c hm⟩⟩
    · cases h
  · cases h
theorem det_makeSlice (t : TypeId) (x y : Operand) (h : opK E tm m (.makeSlice t x y) κ = some r) : Det E tm m (.makeSlice t x y) := by
  simp only [opK] at h
  split at h
  case h_2 => cases h
  rename_i k kx l ky c hk hv hv'
  obtain ⟨hc, h⟩ := cond_none h
  exact ⟨_, _, fun κ => by simp only [opK, hk, hv, hv', hc]; rfl, shape_new (fun n hn => by simpa [namesV, nameOf] using hn) rfl⟩
theorem det_fieldAddr (t : TypeId) (x : Operand) (f : Nat) (h : opK E tm m (.fieldAddr t x f) κ = some r) : Det E tm m (.fieldAddr t x f) := by
  simp only [opK] at h
  split at h
  · rename_i zs fs i k ht hv
    split at h
    · rename_i off ft hf
      split at h
      case h_2 => cases h
      rename_i fd' hfd
      obtain ⟨hz, h⟩ := cond_none' h
      exact ⟨_, _, fun κ => by simp only [opK, ht, hv, hf, hfd, hz]; rfl, shape_same (fun n hn => ⟨x, by simp [Op.operands], by rw [hv]; simpa [namesV, nameOf] using hn⟩) rfl⟩
    · cases h
  · cases h
theorem det_field (t : TypeId) (x : Operand) (f : Nat) (h : opK E tm m (.field t x f) κ = some r) : Det E tm m (.field t x f) := by
  simp only [opK] at h
  split at h
  case h_2 => cases h
  rename_i zs fs vs ht hv
  split at h
  case h_2 => cases h
  rename_i off ft hf
  split at h
  case h_2 => cases h
  rename_i td hft
  split at h
  case h_2 => cases h
  rename_i v hc
  refine ⟨.o v, m, fun κ => by simp only [opK, ht, hv, hf, hft, hc], shape_plain ?_ rfl⟩
  rcases ofCells_cases hc with ⟨u, _, rfl, _⟩ | ⟨n, k, _, _, _, rfl⟩ | ⟨zs', fs', _, _, rfl⟩ <;> rfl
theorem det_indexAddr (t : TypeId) (x y : Operand) (h : opK E tm m (.indexAddr t x y) κ = some r) : Det E tm m (.indexAddr t x y) := by
  simp only [opK] at h
  split at h
  · rename_i n kk i k kd j ht hv hv'
    obtain ⟨hc, h⟩ := cond_none h
    exact ⟨_, _, fun κ => by simp only [opK, ht, hv, hv', hc]; rfl, shape_same (fun n hn => ⟨x, by simp [Op.operands], by rw [hv]; simpa [namesV, nameOf] using hn⟩) rfl⟩
  · rename_i e i kd j ht hv hv'
    split at h
    case h_2 => cases h
    rename_i ke s kd' n xs he hm
    obtain ⟨hc, h⟩ := cond_none h
    exact ⟨_, _, fun κ => by simp only [opK, ht, hv, hv', he, hm, hc]; rfl, shape_same (fun n hn => ⟨x, by simp [Op.operands], by rw [hv]; simpa [namesV, nameOf] using hn⟩) rfl⟩
  · rename_i e i k n kd j ht hv hv'
    split at h
    · rename_i sz hsz
      obtain ⟨hc, h⟩ := cond_none h
      exact ⟨_, _, fun κ => by simp only [opK, ht, hv, hv', hsz, hc]; rfl, shape_same (fun n hn => ⟨x, by simp [Op.operands], by rw [hv]; simpa [namesV, nameOf] using hn⟩) rfl⟩
    · cases h
  · cases h
theorem det_index (t : TypeId) (x y : Operand) (h : opK E tm m (.index t x y) κ = some r) : Det E tm m (.index t x y) := by
  simp only [opK] at h
  split at h
  · rename_i n kk k' n' xs kd j ht hv hv'
    obtain ⟨hc, h⟩ := cond_none h
    exact ⟨_, _, fun κ => by simp only [opK, ht, hv, hv', hc]; rfl, shape_plain rfl rfl⟩
  · rename_i s kd j ht hv hv'
    obtain ⟨hc, h⟩ := cond_none h
    exact ⟨_, _, fun κ => by simp only [opK, ht, hv, hv', hc]; rfl, shape_plain rfl rfl⟩
  · cases h
end
end Go.Vm
