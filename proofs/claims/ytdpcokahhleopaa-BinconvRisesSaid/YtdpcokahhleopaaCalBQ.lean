/-
  The law BinaryQuiets, evaluated. No statement is proved here.
-/
import Derived.Test.YtdpcokahhleopaaCalC2
import Derived.Test.YtdpcokahhleopaaCalC3
import Derived.Test.YtdpcokahhleopaaCalB5
namespace Go.Proofs.Ytdpcokahhleopaa.Vm
open Go Go.Vm
noncomputable section
set_option linter.unusedVariables false
/-! ### Quiet -/
/-- A pattern, quiet. -/
def quietN (n : Int) (B : Nat) : Nat := packN (mN n) (eN n) (eminI n) (uC (mN n) (eN n) B) (uS (mN n) (eN n) B) false (uE (mN n) (eN n) (eminI n) B) (uF (mN n) (eN n) B)
theorem uC_cases (m e B : Nat) : uC m e B = 1 ∨ uC m e B = 2 ∨ uC m e B = 3 := by
  unfold uC
  cases uN m e B
  · cases (uT m B == 0)
    · exact .inr (.inr rfl)
    · exact .inr (.inl rfl)
  · exact .inl rfl
theorem uQ_of (m e B : Nat) (h : uC m e B ≠ 3) : uQ m e B = false := by
  unfold uC at h
  unfold uQ
  cases hN : uN m e B <;> rw [hN] at h
  · cases hT : (uT m B == 0) <;> rw [hT] at h
    · exact absurd rfl h
    · rfl
  · rfl
theorem uQ_three (m e B : Nat) (h : uC m e B = 3) : uQ m e B = (B / 2 ^ (m - 1) % 2 == 0) := by
  unfold uC at h
  unfold uQ
  cases hN : uN m e B <;> rw [hN] at h
  · cases hT : (uT m B == 0) <;> rw [hT] at h
    · rfl
    · cases h
  · cases h
theorem quiet_is {n : Int} (h : 1 ≤ n ∧ n ≤ 6) (B : Nat) : isN n (uC (mN n) (eN n) B) false (uE (mN n) (eN n) (eminI n) B) (uF (mN n) (eN n) B) = true := by
  have h1 := is_unpack h B
  rw [isN_iff h] at h1 ⊢
  rcases h1 with ⟨a, _, b⟩ | ⟨a, _, b⟩ | ⟨a, b, c, _⟩
  · exact .inl ⟨a, rfl, b⟩
  · exact .inr (.inl ⟨a, rfl, b⟩)
  · exact .inr (.inr ⟨a, b, c, .inr rfl⟩)
theorem quiet_other {n : Int} (h : 1 ≤ n ∧ n ≤ 6) {B : Nat} (hB : B < 2 ^ (mN n + eN n + 1)) (h3 : uC (mN n) (eN n) B ≠ 3) : quietN n B = B := by
  have h1 := pack_unpack h hB
  rw [uQ_of _ _ _ h3] at h1
  exact h1
theorem quiet_three {n : Int} (h : 1 ≤ n ∧ n ≤ 6) {B : Nat} (hB : B < 2 ^ (mN n + eN n + 1)) (h3 : uC (mN n) (eN n) B = 3) : quietN n B = B ||| 2 ^ (mN n - 1) := by
  have h1 := pack_unpack h hB
  have h2 := uQ_three _ _ _ h3
  obtain ⟨o1, o2⟩ := or_bit B (mN n - 1)
  unfold quietN
  unfold packN tailN at h1 ⊢
  rw [h3, h2] at h1
  rw [h3]
  rw [show ((3 : Int) == 3) = true from rfl, cond_true] at h1 ⊢
  rw [cond_false]
  rcases Nat.mod_two_eq_zero_or_one (B / 2 ^ (mN n - 1)) with hb | hb
  · rw [hb, show ((0 : Nat) == 0) = true from rfl, cond_true] at h1
    rw [o1 hb]
    omega
  · rw [hb, show ((1 : Nat) == 0) = false from rfl, cond_false] at h1
    rw [o2 hb]
    exact h1
theorem quiet_unpack {n : Int} (h : 1 ≤ n ∧ n ≤ 6) (B : Nat) : quietN n B < 2 ^ (mN n + eN n + 1) ∧ uC (mN n) (eN n) (quietN n B) = uC (mN n) (eN n) B ∧ uS (mN n) (eN n) (quietN n B) = uS (mN n) (eN n) B ∧
    uQ (mN n) (eN n) (quietN n B) = false ∧ uE (mN n) (eN n) (eminI n) (quietN n B) = uE (mN n) (eN n) (eminI n) B ∧ uF (mN n) (eN n) (quietN n B) = uF (mN n) (eN n) B :=
  unpack_pack h _ (quiet_is h B) rfl
theorem quiet_quiet {n : Int} (h : 1 ≤ n ∧ n ≤ 6) (B : Nat) : quietN n (quietN n B) = quietN n B := by
  obtain ⟨_, h1, h2, _, h4, h5⟩ := quiet_unpack h B
  have e : quietN n (quietN n B) = packN (mN n) (eN n) (eminI n) (uC (mN n) (eN n) (quietN n B)) (uS (mN n) (eN n) (quietN n B)) false (uE (mN n) (eN n) (eminI n) (quietN n B)) (uF (mN n) (eN n) (quietN n B)) := rfl
  rw [e, h1, h2, h4, h5]
  rfl
def quietC : FnC := fun ds κ => match ds with
  | [.p (.int .i64 n), .r .u64 4 b] => cond (decide (1 ≤ n ∧ n ≤ 6)) (cond (decide (((bitlen (val b) : Nat) : Int) ≤ widthI n)) (κ [(.mine, .r .u64 4 (wordsN 4 (quietN n (val b)))), (.mine, .p (.int .i64 0))]) (κ [(.mine, .r .u64 4 (wordsN 4 0)), (.mine, .p (.int .i64 1))])) (κ [(.mine, .r .u64 4 (wordsN 4 0)), (.mine, .p (.int .i64 1))])
  | _ => none
abbrev bQuietC := quietC
def bQuietE : Env := mkE ty [(28, bUnpackC), (70, dOfC), (63, bOfC), (62, bLayC)] [] [] [] 0 (fun _ => false)
theorem bQuiet_ev (n : Int) (b : List Int) : evFn bQuietE Try.f38 [.p (.int .i64 n), .r .u64 4 b] =
    cond (decide (1 ≤ n ∧ n ≤ 6)) (cond (decide (((bitlen (val b) : Nat) : Int) ≤ widthI n))
        (cond (uC (mN n) (eN n) (val b) != 3) (some [(.mine, .r .u64 4 b), (.mine, .p (.int .i64 0))])
          (cond (decide (1 ≤ n ∧ n ≤ 12)) (some [(.mine, .r .u64 4 (wordsN 4 (val b ||| val (wordsN 4 (1 : Int).toNat) * 2 ^ (IntKind.i64.wrap (precI n - 2)).toNat))), (.mine, .p (.int .i64 0))])
            (some [(.mine, .r .u64 4 (wordsN 4 (val b ||| val (wordsN 4 (1 : Int).toNat) * 2 ^ (IntKind.i64.wrap (0 - 2)).toNat))), (.mine, .p (.int .i64 0))])))
        (some [(.mine, .r .u64 4 (wordsN 4 0)), (.mine, .p (.int .i64 1))])) (some [(.mine, .r .u64 4 (wordsN 4 0)), (.mine, .p (.int .i64 1))]) := by kernel_rfl
theorem bQuiet_he : ∀ ds κ r, (∀ d ∈ ds, d.wf) → bQuietC ds κ = some r → ∃ res, κ res = some r ∧ evFn bQuietE Try.f38 ds = some res := fun ds κ r hw h => by
  unfold bQuietC quietC at h
  split at h
  case h_2 => cases h
  rename_i n b
  obtain ⟨hl, hx⟩ := wfR hw (xs := b) (n := 4) (by simp)
  rw [bQuiet_ev]
  by_cases h6 : 1 ≤ n ∧ n ≤ 6
  · obtain ⟨f1, f2, f3, f4, f5, f6, f7, f8, f9, f10, f11, f12⟩ := fmt h6
    rw [decide_eq_true h6, cond_true] at h ⊢
    by_cases hk : ((bitlen (val b) : Nat) : Int) ≤ widthI n
    · rw [decide_eq_true hk, cond_true] at h ⊢
      have hB : val b < 2 ^ (mN n + eN n + 1) := (bitlen_le_iff _ _).1 (by omega)
      refine ⟨_, h, ?_⟩
      by_cases h3 : uC (mN n) (eN n) (val b) = 3
      · rw [h3, show ((3 : Int) != 3) = false from rfl, cond_false, decide_eq_true (show 1 ≤ n ∧ n ≤ 12 by omega), cond_true, quiet_three h6 hB h3, i64_wrap (by omega) (by omega), show (1 : Int).toNat = 1 from rfl, lo4 one_lt256, Nat.one_mul,
          show (precI n - 2).toNat = mN n - 1 by omega]
      · rw [bne_iff_ne.2 h3, cond_true, quiet_other h6 hB h3, words_val4 hx hl]
    · rw [decide_eq_false hk, cond_false] at h ⊢
      exact ⟨_, h, rfl⟩
  · rw [decide_eq_false h6, cond_false] at h ⊢
    exact ⟨_, h, rfl⟩
theorem bQuiet_fn : FnOK Try.prog 38 bQuietC := fnOK_mk T mixed Try.func38 (by kernel_rfl) (fns := [(28, bUnpackC), (70, dOfC), (63, bOfC), (62, bLayC)]) (lps := []) (live := []) (out := []) (fuel := 0) (give := (fun _ => false)) ⟨bUnpack_fn, dOf_fn, bOf_fn, bLay_fn, trivial⟩ trivial bQuiet_he
end
end Go.Proofs.Ytdpcokahhleopaa.Vm
