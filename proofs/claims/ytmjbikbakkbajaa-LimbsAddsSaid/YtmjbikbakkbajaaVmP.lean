/-
  What an operation answers does not hang on what goes on behind it, nor on the machine's state. No statement is proved here.
-/
import Derived.Test.YtmjbikbakkbajaaVmO
namespace Go.Vm
open Go.RowKit (Below)
variable {P : Program}

section
variable {E : Env} {tm : List V} {m : Mem} {κ : V → Mem → R} {r : List (Own × D)}
theorem det_bin (op : BinOp) (t yt : TypeId) (x y : Operand) (h : opK E tm m (.binOp op t x y yt) κ = some r) : Det E tm m (.binOp op t x y yt) := by
  simp only [opK] at h
  unfold binK at h
  split at h
  case h_2 => cases h
  rename_i bad v hb
  obtain ⟨h0, h⟩ := cond_none' h
  exact ⟨.o (.p v), m, fun κ => by simp only [opK, binK, hb, h0]; rfl, shape_plain rfl rfl⟩

/-- The bounds of a slice expression. -/
theorem det_bds {n : Nat} (lo hi : Option V) (κ' : Nat → Nat → R) (h : sliceBds n lo hi κ' = some r) : ∃ l h', ∀ κ : Nat → Nat → R, sliceBds n lo hi κ = κ l h' := by
  unfold sliceBds at h
  dsimp only at h
  split at h
  · split at h
    · exact ⟨0, n, fun κ => rfl⟩
    · obtain ⟨hc, h⟩ := cond_none h
      exact ⟨_, _, fun κ => by simp only [sliceBds, hc]; rfl⟩
    · cases h
  · split at h
    · obtain ⟨hc, h⟩ := cond_none h
      exact ⟨_, _, fun κ => by simp only [sliceBds, hc]; rfl⟩
    · obtain ⟨hc, h⟩ := cond_none h
      obtain ⟨hc', h⟩ := cond_none h
      exact ⟨_, _, fun κ => by simp only [sliceBds, hc, hc']; rfl⟩
    · obtain ⟨_, h⟩ := cond_none h
      cases h
  · cases h
theorem det_slice (t : TypeId) (x : Operand) (lo hi : Option Operand) (h : opK E tm m (.slice t x lo hi none) κ = some r) : Det E tm m (.slice t x lo hi none) := by
  have same : ∀ {v : V} {i : Nat}, nameOf (opnd tm x) = some i → nameOf v = some i → (∀ x, v = .o x → True) → namesV v = [i] → Shape tm m (.slice t x lo hi none) v m := by
    intro v i h1 _ _ h3
    refine shape_same (fun n hn => ⟨x, by simp [Op.operands], ?_⟩) rfl
    rw [h3] at hn
    generalize opnd tm x = y at h1
    cases y with
    | o y => simp only [namesV, h1]; simpa using hn
    | t l => cases h1
  simp only [opK] at h
  split at h
  · rename_i n k i ht hv
    split at h
    case h_2 => cases h
    rename_i s kd n' xs hm
    obtain ⟨hn, h⟩ := cond_none h
    cases hnn : (lo.isNone && hi.isNone) <;> rw [hnn] at h
    · obtain ⟨l, h', hd⟩ := det_bds _ _ (fun l h => κ (.o (.s i l (h - l))) m) h
      exact ⟨.o (.s i l (h' - l)), m, fun κ => by simp only [opK, ht, hv, hm, hn, hnn, cond_true, cond_false, hd], same (by rw [hv]; rfl) rfl (fun _ _ => trivial) rfl⟩
    · exact ⟨.o (.f i), m, fun κ => by simp only [opK, ht, hv, hm, hn, hnn, cond_true], same (by rw [hv]; rfl) rfl (fun _ _ => trivial) rfl⟩
  · rename_i e i ht hv
    split at h
    case h_2 => cases h
    rename_i ke s kd n xs he hm
    obtain ⟨l, h', hd⟩ := det_bds _ _ (fun l h => κ (.o (.s i l (h - l))) m) h
    exact ⟨.o (.s i l (h' - l)), m, fun κ => by simp only [opK, ht, hv, he, hm, hd], same (by rw [hv]; rfl) rfl (fun _ _ => trivial) rfl⟩
  · rename_i e i k n ht hv
    split at h
    case h_2 => cases h
    rename_i ke he
    obtain ⟨l, h', hd⟩ := det_bds _ _ (fun l h => κ (.o (.s i (k + l) (h - l))) m) h
    exact ⟨.o (.s i (k + l) (h' - l)), m, fun κ => by simp only [opK, ht, hv, he, hd], same (by rw [hv]; rfl) rfl (fun _ _ => trivial) rfl⟩
  · rename_i e ht hv
    split at h
    case h_2 => cases h
    rename_i td he
    obtain ⟨l, h', hd⟩ := det_bds _ _ (fun _ _ => κ (.o .z) m) h
    exact ⟨.o .z, m, fun κ => by simp only [opK, ht, hv, he, hd], shape_plain rfl rfl⟩
  · cases h
theorem det_slice3 (t : TypeId) (x z : Operand) (lo hi : Option Operand) (h : opK E tm m (.slice t x lo hi (some z)) κ = some r) : Det E tm m (.slice t x lo hi (some z)) := by
  simp only [opK, slice3K] at h
  split at h
  case h_2 => cases h
  rename_i e ht
  split at h
  case h_2 => cases h
  rename_i td he
  split at h
  case h_2 => cases h
  rename_i v k1 h1 k2 c hv hlo hh hz
  replace h := cond_none h
  obtain ⟨hc, h⟩ := h
  exact ⟨.o .z, m, fun κ => by simp only [opK, slice3K, ht, he, hv, hlo, hh, hz, hc, cond_true], shape_plain rfl rfl⟩
theorem det_look (b : Builtin) (ts : Array TypeId) (args : Array Operand) (hb : b ≠ .append ∧ b ≠ .copy) (h : opK E tm m (.call ⟨.builtin b, args, ts⟩) κ = some r) : Det E tm m (.call ⟨.builtin b, args, ts⟩) := by
  have hfoot : (foot tm (.call ⟨.builtin b, args, ts⟩)).1 = [] := rfl
  have fin : ∀ v : Value, (∀ κ, builtinK E b ts.toList m (args.toList.map (opnd tm)) κ = κ (.o (.p v)) m) → Det E tm m (.call ⟨.builtin b, args, ts⟩) := fun v hv => ⟨.o (.p v), m, fun κ => by simp only [opK]; exact hv κ, shape_plain rfl hfoot⟩
  simp only [opK] at h
  unfold builtinK at h
  split at h
  · rename_i x hargs
    split at h
    case h_2 => cases h
    rename_i t tl hts
    split at h
    · rename_i ht
      exact fin _ fun κ => by simp only [builtinK, hargs, hts, ht]; rfl
    · rename_i ht
      split at h
      case h_2 => cases h
      rename_i hm
      exact fin _ fun κ => by simp only [builtinK, hargs, hts, ht, hm]; rfl
    · rename_i ht
      exact fin _ fun κ => by simp only [builtinK, hargs, hts, ht]; rfl
    · rename_i ht
      exact fin _ fun κ => by simp only [builtinK, hargs, hts, ht]; rfl
    · cases h
  · rename_i k x k' y hargs
    cases hd : decide (k = k') <;> rw [hd] at h
    · cases h
    · exact fin _ fun κ => by simp only [builtinK, hargs, hd]; rfl
  · rename_i k x k' y hargs
    cases hd : decide (k = k') <;> rw [hd] at h
    · cases h
    · exact fin _ fun κ => by simp only [builtinK, hargs, hd]; rfl
  · exact absurd rfl hb.1
  · exact absurd rfl hb.2
  · exact absurd rfl hb.2
  · cases h

theorem op_det (o : Op) (hw : writesMore o = false) (hc : ∀ f args ts, o ≠ .call ⟨.value (.func f), args, ts⟩) (h : opK E tm m o κ = some r) : Det E tm m o := by
  cases o
  case move x => exact det_move x h
  case assign x => exact det_assign x h
  case pick c x y => exact det_pick c x y h
  case alloc t => exact det_alloc t h
  case box t x => exact det_box t x h
  case build t ps => exact det_build t ps h
  case buildSlice t n ps => exact det_buildSlice t n ps h
  case load t x => exact det_load t x h
  case store t x y => exact det_store t x y h
  case binOp op t x y yt => exact det_bin op t yt x y h
  case unOp op t x =>
    cases op
    case not => exact det_not t x h
    case neg => exact det_neg t x h
    all_goals (simp [opK] at h)
  case convert s t x => exact det_convert s t x h
  case makeSlice t x y => exact det_makeSlice t x y h
  case slice t x lo hi mx =>
    cases mx
    · exact det_slice t x lo hi h
    · exact det_slice3 t x _ lo hi h
  case fieldAddr t x f => exact det_fieldAddr t x f h
  case field t x f => exact det_field t x f h
  case indexAddr t x y => exact det_indexAddr t x y h
  case index t x y => exact det_index t x y h
  case extract x i => exact det_extract x i h
  case call c =>
    obtain ⟨callee, args, ts⟩ := c
    cases callee
    case value x =>
      cases x
      case func f => exact absurd rfl (hc f args ts)
      all_goals (simp [opK] at h)
    case builtin b =>
      refine det_look b ts args ?_ h
      constructor <;> (rintro rfl; cases hw)
    case invoke => simp [opK] at h
  all_goals (simp [opK] at h)
end
end Go.Vm
