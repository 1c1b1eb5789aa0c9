/-
  The law BinaryPacks, evaluated. No statement is proved here.
-/
import Derived.Test.YtdpcokahhleopaaCalC3
import Derived.Test.YtdpcokahhleopaaCalB5
namespace Go.Proofs.Ytdpcokahhleopaa.Vm
open Go Go.Vm
noncomputable section
set_option linter.unusedVariables false
def topN (n : Int) : Nat := 2 ^ (precI n).toNat - 1
def largeT (n : Int) (s : Bool) (F : Nat) (κ : List (Own × D) → R) : R :=
  cond (isN n 1 false (emaxI n) F) (κ [(.mine, .r .u64 4 (wordsN 4 (packN (mN n) (eN n) (eminI n) 1 s false (emaxI n) F))), (.mine, .p (.int .i64 0))]) (κ [(.mine, .r .u64 4 (wordsN 4 0)), (.mine, .p (.int .i64 3))])
def largeC : FnC := fun ds κ => match ds with
  | [.p (.int .i64 n), .p (.bool s)] => cond (decide (1 ≤ n ∧ n ≤ 6)) (largeT n s (topN n) κ) (κ [(.mine, .r .u64 4 (wordsN 4 0)), (.mine, .p (.int .i64 1))])
  | _ => none
abbrev bLargestC := largeC
abbrev rLargestC := largeC
def bLargestE : Env := mkE ty [(39, dBinaryC), (92, bMaskC), (37, bPackC)] [] [] [] 0 (fun _ => false)
def rLargestE : Env := mkE ty [(19, rBinaryC), (54, rOfC), (58, powC), (21, lessC), (57, rBitsC), (81, rPackC)] [] [] [] 0 (fun _ => false)
theorem bLargest_ev (n : Int) (s : Bool) : evFn bLargestE Try.f75 [.p (.int .i64 n), .p (.bool s)] =
    cond (decide (1 ≤ n ∧ n ≤ 12)) (cond (baseI n == 2) (cond (!decide (((0 : Nat) : Int) ≤ widthI n)) (some [(.mine, .r .u64 4 (wordsN 4 0)), (.mine, .p (.int .i64 1))])
        (cond (decide (precI n ≤ 256)) (cond (decide (1 ≤ n ∧ n ≤ 6)) (largeT n s (val (wordsN 4 (2 ^ (precI n).toNat - 1))) some) (some [(.mine, .r .u64 4 (wordsN 4 0)), (.mine, .p (.int .i64 1))])) none))
      (some [(.mine, .r .u64 4 (wordsN 4 0)), (.mine, .p (.int .i64 1))])) (some [(.mine, .r .u64 4 (wordsN 4 0)), (.mine, .p (.int .i64 1))]) := by kernel_rfl
theorem rLargest_ev (n : Int) (s : Bool) : evFn rLargestE Try.f87 [.p (.int .i64 n), .p (.bool s)] =
    cond (!decide (1 ≤ n ∧ n ≤ 6)) (some [(.mine, .r .u64 4 (wordsN 4 0)), (.mine, .p (.int .i64 1))])
      (cond (decide (1 ≤ n ∧ n ≤ 12)) (cond (decide (0 ≤ precI n ∧ precI n ≤ 100000)) (cond (decide ((words ((2 : Int).toNat ^ (precI n).toNat)).length ≤ 549755813888 ∧ [(1 : Int)].length ≤ 549755813888 ∧ val [(1 : Int)] ≤ val (words ((2 : Int).toNat ^ (precI n).toNat))))
          (cond (decide (1 ≤ n ∧ n ≤ 6)) (largeT n s (val (wordsN 4 (val (words (val (words ((2 : Int).toNat ^ (precI n).toNat)) - val [(1 : Int)]))))) some) (some [(.mine, .r .u64 4 (wordsN 4 0)), (.mine, .p (.int .i64 1))])) none) none)
        (cond (decide (1 ≤ n ∧ n ≤ 6)) (cond (isN n 1 false 0 0) (some [(.mine, .r .u64 4 (wordsN 4 (packN (mN n) (eN n) (eminI n) 1 s false 0 0))), (.mine, .p (.int .i64 0))]) (some [(.mine, .r .u64 4 (wordsN 4 0)), (.mine, .p (.int .i64 3))]))
          (some [(.mine, .r .u64 4 (wordsN 4 0)), (.mine, .p (.int .i64 1))]))) := by kernel_rfl
theorem largeT_some {n : Int} {s : Bool} {F : Nat} {κ : List (Own × D) → R} {r : List (Own × D)} (h : largeT n s F κ = some r) : ∃ res, κ res = some r ∧ largeT n s F some = some res := by
  unfold largeT at h ⊢
  cases hi : isN n 1 false (emaxI n) F <;> rw [hi] at h <;> exact ⟨_, h, rfl⟩
theorem topN_lt {n : Int} (h : 1 ≤ n ∧ n ≤ 6) : topN n < 2 ^ 256 := by
  obtain ⟨f1, f2, f3, f4, f5, f6, f7, f8, f9, f10, f11, f12⟩ := fmt h
  have h1 : 2 ^ (precI n).toNat ≤ 2 ^ 256 := Nat.pow_le_pow_right (by decide) (by omega)
  have h2 : 0 < 2 ^ (precI n).toNat := Nat.two_pow_pos _
  unfold topN
  omega
theorem bLargest_he : ∀ ds κ r, (∀ d ∈ ds, d.wf) → largeC ds κ = some r → ∃ res, κ res = some r ∧ evFn bLargestE Try.f75 ds = some res := fun ds κ r hw h => by
  unfold largeC at h
  split at h
  case h_2 => cases h
  rename_i n s
  rw [bLargest_ev]
  by_cases h6 : 1 ≤ n ∧ n ≤ 6
  · obtain ⟨f1, f2, f3, f4, f5, f6, f7, f8, f9, f10, f11, f12⟩ := fmt h6
    rw [decide_eq_true h6, cond_true] at h
    rw [decide_eq_true (show 1 ≤ n ∧ n ≤ 12 by omega), cond_true, beq_iff_eq.2 f1, cond_true, decide_eq_true (show ((0 : Nat) : Int) ≤ widthI n by omega), Bool.not_true, cond_false, decide_eq_true (show precI n ≤ 256 by omega), cond_true, decide_eq_true h6, cond_true]
    have e : val (wordsN 4 (2 ^ (precI n).toNat - 1)) = topN n := lo4 (topN_lt h6)
    rw [e]
    exact largeT_some h
  · rw [decide_eq_false h6, cond_false] at h
    by_cases h12 : 1 ≤ n ∧ n ≤ 12
    · rw [decide_eq_true h12, cond_true, beq_eq_false_iff_ne.2 (by rw [base10 h12 h6]; decide), cond_false]
      exact ⟨_, h, rfl⟩
    · rw [decide_eq_false h12, cond_false]
      exact ⟨_, h, rfl⟩
theorem rLargest_he : ∀ ds κ r, (∀ d ∈ ds, d.wf) → largeC ds κ = some r → ∃ res, κ res = some r ∧ evFn rLargestE Try.f87 ds = some res := fun ds κ r hw h => by
  unfold largeC at h
  split at h
  case h_2 => cases h
  rename_i n s
  rw [rLargest_ev]
  by_cases h6 : 1 ≤ n ∧ n ≤ 6
  · obtain ⟨f1, f2, f3, f4, f5, f6, f7, f8, f9, f10, f11, f12⟩ := fmt h6
    rw [decide_eq_true h6, cond_true] at h
    have h2 : 0 < 2 ^ (precI n).toNat := Nat.two_pow_pos _
    have h3 : wlen (2 ^ (precI n).toNat) ≤ 5 := by have := wlen_two_pow (precI n).toNat; omega
    rw [decide_eq_true h6, Bool.not_true, cond_false, decide_eq_true (show 1 ≤ n ∧ n ≤ 12 by omega), cond_true, decide_eq_true (show 0 ≤ precI n ∧ precI n ≤ 100000 by omega), cond_true, show (2 : Int).toNat = 2 from rfl, val_words, length_words, val_one, show (1 : Int).toNat = 1 from rfl, val_words,
      decide_eq_true (show wlen (2 ^ (precI n).toNat) ≤ 549755813888 ∧ [(1 : Int)].length ≤ 549755813888 ∧ 1 ≤ 2 ^ (precI n).toNat from ⟨by omega, (show 1 ≤ 549755813888 by decide), h2⟩), cond_true, cond_true]
    have e : val (wordsN 4 (2 ^ (precI n).toNat - 1)) = topN n := lo4 (topN_lt h6)
    rw [e]
    exact largeT_some h
  · rw [decide_eq_false h6, cond_false] at h
    rw [decide_eq_false h6, Bool.not_false, cond_true]
    exact ⟨_, h, rfl⟩
theorem bLargest_fn : FnOK Try.prog 75 bLargestC := fnOK_mk T mixed Try.func75 (by kernel_rfl) (fns := [(39, dBinaryC), (92, bMaskC), (37, bPackC)]) (lps := []) (live := []) (out := []) (fuel := 0) (give := (fun _ => false)) ⟨dBinary_fn, bMask_fn, bPack_fn, trivial⟩ trivial bLargest_he
theorem rLargest_fn : FnOK Try.prog 87 rLargestC := fnOK_mk T mixed Try.func87 (by kernel_rfl) (fns := [(19, rBinaryC), (54, rOfC), (58, powC), (21, lessC), (57, rBitsC), (81, rPackC)]) (lps := []) (live := []) (out := []) (fuel := 0) (give := (fun _ => false)) ⟨rBinary_fn, rOf_fn, pow_fn, less_fn, rBits_fn, rPack_fn, trivial⟩ trivial rLargest_he
end
end Go.Proofs.Ytdpcokahhleopaa.Vm
