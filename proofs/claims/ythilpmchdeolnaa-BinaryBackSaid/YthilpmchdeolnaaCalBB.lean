/-
  The law BinaryBack, evaluated. No statement is proved here.
-/
import Derived.Test.YthilpmchdeolnaaCalB5
import Derived.Test.YthilpmchdeolnaaCalX
namespace Go.Proofs.Ythilpmchdeolnaa.Vm
open Go Go.Vm
noncomputable section
def awake05E : Env := mkE ty [(9, bUnpackC)] [] [] [] 0 (fun _ => false)
def awake05C : FnC := fun ds κ => match ds with
  | [] => κ [(.mine, .p (.bool true))]
  | _ => none
theorem awake05_ev : evFn awake05E Try.f8 [] = some [(.mine, .p (.bool true))] := by kernel_rfl
theorem awake05_he : ∀ ds κ r, (∀ d ∈ ds, d.wf) → awake05C ds κ = some r → ∃ res, κ res = some r ∧ evFn awake05E Try.f8 ds = some res := fun ds κ r hw h => by
  unfold awake05C at h
  split at h
  case h_2 => cases h
  exact ⟨_, h, awake05_ev⟩
theorem awake05_fn : FnOK Try.prog 8 awake05C := fnOK_mk T mixed Try.func8 (by kernel_rfl) (fns := [(9, bUnpackC)]) (lps := []) (live := []) (out := []) (fuel := 0) (give := (fun _ => false)) ⟨bUnpack_fn, trivial⟩ trivial awake05_he

def eqD (xs ys : List Value) : Bool := (eqCells xs ys).getD false
theorem eqD_refl (c x : Int) (s q : Bool) (f : List Int) : eqD (datumCells c s q x f) (datumCells c s q x f) = true := by
  simp [eqD, eqCells, datumCells]
theorem lo4 {a : Nat} (h : a < 2 ^ 256) : val (wordsN 4 a) = a := by rw [val4, Nat.mod_eq_of_lt h]
theorem words_val4 {b : List Int} (hb : inR .u64 b) (hl : b.length = 4) : wordsN 4 (val b) = b := by rw [← hl, wordsN_val hb]
theorem uF_lt {m e B : Nat} (hm : m + 1 ≤ 256) : uF m e B < 2 ^ 256 := by
  have p1 : uT m B < 2 ^ m := Nat.mod_lt _ (Nat.two_pow_pos _)
  refine lt256 (k := m + 1) ?_ hm
  rw [Nat.pow_succ]
  unfold uF
  cases uN m e B
  · rw [cond_false]
    have := Nat.mod_le (uT m B) (2 ^ (m - 1))
    omega
  · rw [cond_true]
    cases decide (0 < uX m e B)
    · rw [cond_false]; omega
    · rw [cond_true]; omega
def backE : Env := mkE ty [(8, awake05C), (9, bUnpackC), (10, bPackC)] [] [] [] 0 (fun _ => false)
def backT (n c x : Int) (s q : Bool) (f : List Int) (F : Nat) : R :=
  cond (decide (1 ≤ n ∧ n ≤ 6)) (cond (isN n c q x F) (cond (decide (1 ≤ n ∧ n ≤ 6))
      (cond (decide (((bitlen (val (wordsN 4 (packN (mN n) (eN n) (eminI n) c s q x F))) : Nat) : Int) ≤ widthI n)) (rb (eqD (uDat n (val (wordsN 4 (packN (mN n) (eN n) (eminI n) c s q x F)))) (datumCells c s q x f))) (rb false)) (rb false))
    (rb (decide (wordsN 4 0 = List.replicate 4 0)))) (rb (decide (wordsN 4 0 = List.replicate 4 0)))
theorem back_ev (n : Int) (b : List Int) (c x : Int) (s q : Bool) (f : List Int) : evFn backE Try.f3 [.p (.int .i64 n), .r .u64 4 b, .g (datumCells c s q x f)] =
    cond (decide (1 ≤ n ∧ n ≤ 6))
      (cond (decide (((bitlen (val b) : Nat) : Int) ≤ widthI n))
        (cond (decide (1 ≤ n ∧ n ≤ 6))
          (cond (isN n (uC (mN n) (eN n) (val b)) (uQ (mN n) (eN n) (val b)) (uE (mN n) (eN n) (eminI n) (val b)) (val (wordsN 4 (uF (mN n) (eN n) (val b)))))
            (cond (!decide (wordsN 4 (packN (mN n) (eN n) (eminI n) (uC (mN n) (eN n) (val b)) (uS (mN n) (eN n) (val b)) (uQ (mN n) (eN n) (val b)) (uE (mN n) (eN n) (eminI n) (val b)) (val (wordsN 4 (uF (mN n) (eN n) (val b))))) = b)) (rb false)
              (backT n c x s q f (val [f.getD 0 0, f.getD 1 0, f.getD 2 0, f.getD 3 0]))) (rb false)) (rb false))
        (cond (decide (1 ≤ n ∧ n ≤ 6)) (backT n c x s q f (val [f.getD 0 0, f.getD 1 0, f.getD 2 0, f.getD 3 0])) (backT n c x s q f (val [f.getD 0 0, f.getD 1 0, f.getD 2 0, f.getD 3 0]))))
      (cond (decide (1 ≤ n ∧ n ≤ 6)) (backT n c x s q f (val [f.getD 0 0, f.getD 1 0, f.getD 2 0, f.getD 3 0])) (backT n c x s q f (val [f.getD 0 0, f.getD 1 0, f.getD 2 0, f.getD 3 0]))) := by kernel_rfl
theorem backT_true {n c x : Int} {s q : Bool} {f : List Int} (hf : inR .u64 f) (hl : f.length = 4) : backT n c x s q f (val f) = rb true := by
  unfold backT
  by_cases h6 : 1 ≤ n ∧ n ≤ 6
  · rw [decide_eq_true h6, cond_true]
    cases hi : isN n c q x (val f)
    · rfl
    · obtain ⟨g1, g2, g3, g4, g5, g6⟩ := unpack_pack h6 s hi rfl
      obtain ⟨f1, f2, f3, f4, f5, f6, f7, f8, f9, f10, f11, f12⟩ := fmt h6
      generalize packN (mN n) (eN n) (eminI n) c s q x (val f) = A at *
      have hb := (bitlen_le_iff A _).2 g1
      rw [cond_true, cond_true, lo4 (lt256 g1 (by omega)), decide_eq_true (by omega), cond_true]
      unfold uDat
      rw [g2, g3, g4, g5, g6, words_val4 hf hl, eqD_refl]
  · rw [decide_eq_false h6]
    rfl
theorem back_true {w : World} {vs : List Value} (n : Int) (b : List Int) (c : Int) (s q : Bool) (x : Int) (f : List Int) (hl : f.length = 4) (hds : all2 (DR w) [.p (.int .i64 n), .r .u64 4 b, .g (datumCells c s q x f)] vs) :
    evFn backE Try.f3 [.p (.int .i64 n), .r .u64 4 b, .g (datumCells c s q x f)] = some [(.mine, .p (.bool true))] := by
  have hw := all_wf _ _ hds
  obtain ⟨bl, hb⟩ := wfR hw (xs := b) (n := 4) (by simp)
  have hf := datum_wf hl (hw (.g (datumCells c s q x f)) (by simp))
  rw [back_ev, ← len4 hl, backT_true hf hl]
  by_cases h6 : 1 ≤ n ∧ n ≤ 6
  · rw [decide_eq_true h6, cond_true, cond_true]
    obtain ⟨f1, f2, f3, f4, f5, f6, f7, f8, f9, f10, f11, f12⟩ := fmt h6
    by_cases hk : ((bitlen (val b) : Nat) : Int) ≤ widthI n
    · have h1 : val b < 2 ^ (mN n + eN n + 1) := (bitlen_le_iff _ _).1 (by omega)
      rw [decide_eq_true hk, cond_true, lo4 (uF_lt (by omega)), is_unpack h6, cond_true, pack_unpack h6 h1, words_val4 hb bl, decide_eq_true rfl]
      rfl
    · rw [decide_eq_false hk, cond_false]
      rfl
  · rw [decide_eq_false h6]
    rfl
theorem back_call {w : World} {ds : List D} {vs : List Value} {res : List (Own × D)} (hds : all2 (DR w) ds vs) (he : evFn backE Try.f3 ds = some res) : CallTo Try.prog 3 w vs res := call_mk T mixed Try.func3 (by kernel_rfl) (fns := [(8, awake05C), (9, bUnpackC), (10, bPackC)]) (lps := []) (live := []) (out := []) (fuel := 0) (give := (fun _ => false)) ⟨awake05_fn, bUnpack_fn, bPack_fn, trivial⟩ trivial hds he
end
end Go.Proofs.Ythilpmchdeolnaa.Vm
