/-
  Interchange formats: patterns out of data. No statement is proved here.
-/
import Derived.Test.YtdpcokahhleopaaCalB3
namespace Go.Proofs.Ytdpcokahhleopaa.Vm
open Go Go.Vm
noncomputable section
set_option linter.unusedVariables false

/-! ### Pack -/
def isN (n c : Int) (q : Bool) (x : Int) (F : Nat) : Bool := isT (precI n) (eminI n) (emaxI n) (payI n) c q x F
theorem isN_iff {n : Int} (h : 1 ≤ n ∧ n ≤ 6) {c x : Int} {q : Bool} {F : Nat} : isN n c q x F = true ↔
    (c = 1 ∧ q = false ∧ eminI n ≤ x ∧ x ≤ emaxI n ∧ (bitlen F = mN n + 1 ∨ (bitlen F < mN n + 1 ∧ x = eminI n))) ∨ (c = 2 ∧ q = false ∧ F = 0 ∧ x = 0) ∨ (c = 3 ∧ x = 0 ∧ bitlen F ≤ mN n - 1 ∧ (0 < bitlen F ∨ q = false)) := by
  obtain ⟨f1, f2, f3, f4, f5, f6, f7, f8, f9, f10, f11, f12⟩ := fmt h
  have b0 : bitlen F = 0 ↔ F = 0 := by
    constructor
    · intro hb
      have := (bitlen_le_iff F 0).1 (by omega)
      omega
    · intro hb
      rw [hb]; rfl
  unfold isN isT
  rw [f2, f5]
  by_cases c1 : c = 1
  · subst c1
    rw [beq_self_eq_true, cond_true]
    by_cases hA : bitlen F = mN n + 1
    · rw [show ((((bitlen F : Nat) : Int) == (mN n : Int) + 1) = true) from beq_iff_eq.2 (by omega), cond_true]
      simp only [Bool.cond_false_right, Bool.and_eq_true, decide_eq_true_eq, Bool.not_eq_true']
      constructor
      · rintro ⟨h1, h2, h3, _⟩
        exact .inl ⟨trivial, h1, h2, h3, .inl hA⟩
      · rintro (⟨_, h1, h2, h3, _⟩ | h | h)
        · exact ⟨h1, h2, h3, trivial⟩
        · omega
        · omega
    · rw [show ((((bitlen F : Nat) : Int) == (mN n : Int) + 1) = false) from beq_eq_false_iff_ne.2 (by omega), cond_false]
      simp only [Bool.cond_false_right, Bool.and_eq_true, decide_eq_true_eq, Bool.not_eq_true', beq_iff_eq]
      constructor
      · rintro ⟨h1, h2, h3, h4, h5⟩
        exact .inl ⟨trivial, h1, h2, h3, .inr ⟨by omega, h5⟩⟩
      · rintro (⟨_, h1, h2, h3, h4⟩ | h | h)
        · exact ⟨h1, h2, h3, by omega, by omega⟩
        · omega
        · omega
  · rw [beq_eq_false_iff_ne.2 c1, cond_false]
    by_cases c2 : c = 2
    · subst c2
      rw [beq_self_eq_true, cond_true]
      simp only [Bool.cond_false_right, Bool.and_eq_true, Bool.not_eq_true', beq_iff_eq]
      constructor
      · rintro ⟨h1, h2, h3⟩
        exact .inr (.inl ⟨trivial, h1, b0.1 (by omega), h3⟩)
      · rintro (h | ⟨_, h1, h2, h3⟩ | h)
        · omega
        · exact ⟨h1, by have := b0.2 h2; omega, h3⟩
        · omega
    · rw [beq_eq_false_iff_ne.2 c2, cond_false]
      by_cases c3 : c = 3
      · subst c3
        rw [beq_self_eq_true, cond_true]
        by_cases hb : 0 < bitlen F
        · rw [show decide (((bitlen F : Nat) : Int) > 0) = true from decide_eq_true (by omega), cond_true]
          simp only [Bool.cond_false_right, Bool.and_eq_true, decide_eq_true_eq, beq_iff_eq]
          constructor
          · rintro ⟨h1, h2, _⟩
            exact .inr (.inr ⟨trivial, h1, by omega, .inl hb⟩)
          · rintro (h | h | ⟨_, h1, h2, _⟩)
            · omega
            · omega
            · exact ⟨h1, by omega, trivial⟩
        · rw [show decide (((bitlen F : Nat) : Int) > 0) = false from decide_eq_false (by omega), cond_false]
          simp only [Bool.cond_false_right, Bool.and_eq_true, decide_eq_true_eq, beq_iff_eq, Bool.not_eq_true']
          constructor
          · rintro ⟨h1, h2, h3⟩
            exact .inr (.inr ⟨trivial, h1, by omega, .inr h3⟩)
          · rintro (h | h | ⟨_, h1, h2, h3⟩)
            · omega
            · omega
            · exact ⟨h1, by omega, h3.resolve_left hb⟩
      · rw [beq_eq_false_iff_ne.2 c3, cond_false]
        constructor
        · intro h; cases h
        · rintro (h | h | h) <;> omega
def biasN (m e : Nat) (emin c x : Int) (F : Nat) : Nat := cond (c == 1) (cond (bitlen F == m + 1) (x - emin + 1).toNat 0) (2 ^ e - 1)
def tailN (m : Nat) (c : Int) (q : Bool) (F : Nat) : Nat := cond (c == 3) (cond q (F % 2 ^ m) (F % 2 ^ m + 2 ^ (m - 1))) (F % 2 ^ m)
def signN (m e : Nat) (s : Bool) : Nat := cond s (2 ^ (m + e)) 0
/-- The pattern of a datum. -/
def packN (m e : Nat) (emin c : Int) (s q : Bool) (x : Int) (F : Nat) : Nat := tailN m c q F + biasN m e emin c x F * 2 ^ m + signN m e s
def bPackC : FnC := fun ds κ => match ds with
  | [.p (.int .i64 n), .g [.int .i64 c, .bool s, .bool q, .int .i64 x, .int .u64 w0, .int .u64 w1, .int .u64 w2, .int .u64 w3]] =>
    cond (decide (1 ≤ n ∧ n ≤ 6)) (cond (isN n c q x (val [w0, w1, w2, w3])) (κ [(.mine, .r .u64 4 (wordsN 4 (packN (mN n) (eN n) (eminI n) c s q x (val [w0, w1, w2, w3])))), (.mine, .p (.int .i64 0))]) (κ [(.mine, .r .u64 4 (wordsN 4 0)), (.mine, .p (.int .i64 3))])) (κ [(.mine, .r .u64 4 (wordsN 4 0)), (.mine, .p (.int .i64 1))])
  | _ => none
def bPackE : Env := mkE ty [(39, dBinaryC), (68, bIsC), (60, bFieldC), (69, lLen4C), (63, bOfC), (62, bLayC)] [] [] [] 0 (fun _ => false)
def pLeaf (p w : Int) (s : Bool) (T : List Int) (b : Int) : R :=
  cond s (some [(.mine, .r .u64 4 (wordsN 4 (val (wordsN 4 (val T ||| val (wordsN 4 b.toNat) * 2 ^ p.toNat)) ||| val (wordsN 4 (1 : Int).toNat) * 2 ^ w.toNat))), (.mine, .p (.int .i64 0))])
    (some [(.mine, .r .u64 4 (wordsN 4 (val T ||| val (wordsN 4 b.toNat) * 2 ^ p.toNat))), (.mine, .p (.int .i64 0))])
def pTree (p p1 e w emin prec c : Int) (s q : Bool) (x : Int) (f : List Int) : R :=
  let T := wordsN 4 (val f / 2 ^ (0 : Int).toNat % 2 ^ p.toNat)
  cond (decide (e < 0)) none (cond (decide (p ≤ 256))
    (cond (c == 1) (cond (((bitlen (val f) : Nat) : Int) == prec) (cond (decide (0 ≤ IntKind.i64.wrap (IntKind.i64.wrap (x - emin) + 1))) (pLeaf p w s T (IntKind.i64.wrap (IntKind.i64.wrap (x - emin) + 1))) none) (pLeaf p w s T 0))
      (cond (c == 3) (cond (!q) (cond (decide (0 ≤ IntKind.i64.wrap (shlI .i64 1 e - 1))) (pLeaf p w s (wordsN 4 (val T ||| val (wordsN 4 (1 : Int).toNat) * 2 ^ p1.toNat)) (IntKind.i64.wrap (shlI .i64 1 e - 1))) none)
          (cond (decide (0 ≤ IntKind.i64.wrap (shlI .i64 1 e - 1))) (pLeaf p w s T (IntKind.i64.wrap (shlI .i64 1 e - 1))) none))
        (cond (decide (0 ≤ IntKind.i64.wrap (shlI .i64 1 e - 1))) (pLeaf p w s T (IntKind.i64.wrap (shlI .i64 1 e - 1))) none))) none)
theorem bPack_ev (n c x : Int) (s q : Bool) (w0 w1 w2 w3 : Int) : evFn bPackE Try.f37 [.p (.int .i64 n), .g [.int .i64 c, .bool s, .bool q, .int .i64 x, .int .u64 w0, .int .u64 w1, .int .u64 w2, .int .u64 w3]] =
    cond (decide (1 ≤ n ∧ n ≤ 12)) (cond (baseI n == 2) (cond (!decide (((0 : Nat) : Int) ≤ widthI n)) (some [(.mine, .r .u64 4 (wordsN 4 0)), (.mine, .p (.int .i64 1))])
        (cond (!isT (precI n) (eminI n) (emaxI n) (payI n) c q x (val [w0, w1, w2, w3])) (some [(.mine, .r .u64 4 (wordsN 4 0)), (.mine, .p (.int .i64 3))])
          (pTree (IntKind.i64.wrap (precI n - 1)) (IntKind.i64.wrap (IntKind.i64.wrap (precI n - 1) - 1)) (expoI n) (IntKind.i64.wrap (widthI n - 1)) (eminI n) (precI n) c s q x [w0, w1, w2, w3])))
      (some [(.mine, .r .u64 4 (wordsN 4 0)), (.mine, .p (.int .i64 1))])) (some [(.mine, .r .u64 4 (wordsN 4 0)), (.mine, .p (.int .i64 1))]) := by kernel_rfl
theorem or_add {T m k : Nat} (h : T < 2 ^ m) : T ||| k * 2 ^ m = T + k * 2 ^ m := by
  rw [Nat.or_comm, Nat.mul_comm, ← Nat.two_pow_add_eq_or_of_lt h, Nat.add_comm]
theorem add_lt_pow {T m e k : Nat} (h : T < 2 ^ m) (hk : k < 2 ^ e) : T + k * 2 ^ m < 2 ^ (m + e) := by
  have : (k + 1) * 2 ^ m ≤ 2 ^ e * 2 ^ m := Nat.mul_le_mul_right _ hk
  rw [Nat.add_comm m e, Nat.pow_add]
  rw [Nat.add_mul, Nat.one_mul] at this
  omega
theorem pLeaf_eq {m e t k : Nat} {s : Bool} {b : Int} {T : List Int} (hT : T = wordsN 4 t) (ht : t < 2 ^ m) (hb : b = (k : Int)) (hk : k < 2 ^ e) (hm : m + e ≤ 255) :
    pLeaf (m : Int) ((m + e : Nat) : Int) s T b = some [(.mine, .r .u64 4 (wordsN 4 (t + k * 2 ^ m + signN m e s))), (.mine, .p (.int .i64 0))] := by
  subst hT hb
  have h1 := add_lt_pow ht hk
  unfold pLeaf signN
  have e1 : val (wordsN 4 t) = t := by rw [val4, Nat.mod_eq_of_lt (lt256 ht (by omega))]
  have e2 : val (wordsN 4 k) = k := by rw [val4, Nat.mod_eq_of_lt (lt256 hk (by omega))]
  have e3 : val (wordsN 4 (1 : Int).toNat) = 1 := by rw [val4, show (1 : Int).toNat = 1 from rfl, Nat.mod_eq_of_lt one_lt256]
  have e4 : val (wordsN 4 (t + k * 2 ^ m)) = t + k * 2 ^ m := by rw [val4, Nat.mod_eq_of_lt (lt256 h1 (by omega))]
  rw [Int.toNat_natCast, Int.toNat_natCast, Int.toNat_natCast, e1, e2, e3, or_add ht, e4, or_add h1, Nat.one_mul]
  cases s <;> rfl
theorem emax_le {n : Int} (h : 1 ≤ n ∧ n ≤ 6) : 0 ≤ emaxI n ∧ emaxI n ≤ 100000 := by
  rcases (by omega : n = 1 ∨ n = 2 ∨ n = 3 ∨ n = 4 ∨ n = 5 ∨ n = 6) with rfl | rfl | rfl | rfl | rfl | rfl <;> decide
theorem two_half {k : Nat} (h : 1 ≤ k) : 2 ^ k = 2 * 2 ^ (k - 1) := by
  obtain ⟨j, rfl⟩ : ∃ j, k = j + 1 := ⟨k - 1, by omega⟩
  rw [Nat.add_sub_cancel, Nat.pow_succ, Nat.mul_comm]
theorem bias_lt {n : Int} (h : 1 ≤ n ∧ n ≤ 6) {c x : Int} {q : Bool} {F : Nat} (hi : isN n c q x F = true) : biasN (mN n) (eN n) (eminI n) c x F < 2 ^ eN n := by
  obtain ⟨f1, f2, f3, f4, f5, f6, f7, f8, f9, f10, f11, f12⟩ := fmt h
  have h2 := two_half (k := eN n) (by omega)
  have h3 : 0 < 2 ^ (eN n - 1) := Nat.two_pow_pos _
  unfold biasN
  rcases (isN_iff h).1 hi with ⟨rfl, _, g1, g2, g3⟩ | ⟨rfl, _⟩ | ⟨rfl, _⟩
  · rw [beq_self_eq_true, cond_true]
    generalize 2 ^ (eN n - 1) = P at *
    cases (bitlen F == mN n + 1)
    · rw [cond_false]; omega
    · rw [cond_true]; omega
  · rw [show ((2 : Int) == 1) = false from rfl, cond_false]; omega
  · rw [show ((3 : Int) == 1) = false from rfl, cond_false]; omega
theorem tail_lt {n : Int} (h : 1 ≤ n ∧ n ≤ 6) {c x : Int} {q : Bool} {F : Nat} (hi : isN n c q x F = true) : tailN (mN n) c q F < 2 ^ mN n ∧ (c = 3 → F < 2 ^ (mN n - 1)) := by
  obtain ⟨f1, f2, f3, f4, f5, f6, f7, f8, f9, f10, f11, f12⟩ := fmt h
  have h2 := two_half (k := mN n) (by omega)
  have h3 : 0 < 2 ^ (mN n - 1) := Nat.two_pow_pos _
  have h4 : F % 2 ^ mN n < 2 ^ mN n := Nat.mod_lt _ (Nat.two_pow_pos _)
  unfold tailN
  rcases (isN_iff h).1 hi with ⟨rfl, _⟩ | ⟨rfl, _⟩ | ⟨rfl, _, g1, _⟩
  · exact ⟨h4, fun h => by omega⟩
  · exact ⟨h4, fun h => by omega⟩
  · have g2 := (bitlen_le_iff F (mN n - 1)).1 g1
    refine ⟨?_, fun _ => g2⟩
    rw [beq_self_eq_true, cond_true]
    cases q
    · rw [cond_false, Nat.mod_eq_of_lt (by omega)]; omega
    · exact h4
theorem bPack_he : ∀ ds κ r, (∀ d ∈ ds, d.wf) → bPackC ds κ = some r → ∃ res, κ res = some r ∧ evFn bPackE Try.f37 ds = some res := fun ds κ r hw h => by
  unfold bPackC at h
  split at h
  case h_2 => cases h
  rename_i n c s q x w0 w1 w2 w3
  have hx := wfI hw (x := n) (by simp)
  rw [bPack_ev]
  generalize hf : [w0, w1, w2, w3] = f at *
  by_cases h6 : 1 ≤ n ∧ n ≤ 6
  · obtain ⟨f1, f2, f3, f4, f5, f6, f7, f8, f9, f10, f11, f12⟩ := fmt h6
    have f13 := emin_le h6
    have f14 := emax_le h6
    rw [decide_eq_true h6, cond_true] at h
    rw [decide_eq_true (show 1 ≤ n ∧ n ≤ 12 by omega), cond_true, beq_iff_eq.2 f1, cond_true, decide_eq_true (show ((0 : Nat) : Int) ≤ widthI n by omega), Bool.not_true, cond_false]
    have ei : isT (precI n) (eminI n) (emaxI n) (payI n) c q x (val f) = isN n c q x (val f) := rfl
    rw [ei]
    cases hi : isN n c q x (val f) <;> rw [hi] at h
    · exact ⟨_, h, rfl⟩
    · refine ⟨_, h, ?_⟩
      have hb := bias_lt h6 hi
      obtain ⟨ht, hF⟩ := tail_lt h6 hi
      have e1 : precI n - 1 = (mN n : Int) := by omega
      have e2 : (mN n : Int) - 1 = ((mN n - 1 : Nat) : Int) := by omega
      have e3 : widthI n - 1 = ((mN n + eN n : Nat) : Int) := by omega
      have p3 : (2 : Nat) ^ eN n ≤ 2 ^ 15 := Nat.pow_le_pow_right (by decide) f11
      have p4 : (2 : Nat) ^ 15 = 32768 := by decide
      have p5 : 0 < 2 ^ eN n := Nat.two_pow_pos _
      have hT : val f % 2 ^ mN n < 2 ^ mN n := Nat.mod_lt _ (Nat.two_pow_pos _)
      rw [Bool.not_true, cond_false, e1, e3, i64_wrap (x := (mN n : Int)) (by omega) (by omega), e2, i64_wrap (x := ((mN n - 1 : Nat) : Int)) (by omega) (by omega), i64_wrap (x := ((mN n + eN n : Nat) : Int)) (by omega) (by omega), f3]
      unfold pTree
      dsimp only
      have e4 : IntKind.i64.wrap (shlI .i64 1 (eN n : Int) - 1) = ((2 ^ eN n - 1 : Nat) : Int) := by
        rw [shl_one f11, i64_wrap (by omega) (by omega)]; omega
      rw [decide_eq_false (show ¬ (eN n : Int) < 0 by omega), cond_false, decide_eq_true (show (mN n : Int) ≤ 256 by omega), cond_true, Int.toNat_natCast, show (0 : Int).toNat = 0 from rfl, Nat.pow_zero, Nat.div_one, e4, decide_eq_true (show (0 : Int) ≤ ((2 ^ eN n - 1 : Nat) : Int) by omega), cond_true, cond_true]
      unfold packN
      rcases (isN_iff h6).1 hi with ⟨rfl, g0, g1, g2, g3⟩ | ⟨rfl, g0, g1, g2⟩ | ⟨rfl, g0, g1, g2⟩
      · rw [beq_self_eq_true, cond_true]
        unfold biasN at hb ⊢
        unfold tailN at ht ⊢
        rw [beq_self_eq_true, cond_true] at hb ⊢
        rw [show ((1 : Int) == 3) = false from rfl, cond_false] at ht ⊢
        rw [i64_wrap (x := x - eminI n) (by omega) (by omega), i64_wrap (x := x - eminI n + 1) (by omega) (by omega), f2]
        by_cases hl : bitlen (val f) = mN n + 1
        · rw [beq_iff_eq.2 hl, cond_true] at hb ⊢
          rw [show (((bitlen (val f) : Nat) : Int) == (mN n : Int) + 1) = true from beq_iff_eq.2 (by omega), cond_true, decide_eq_true (by omega), cond_true]
          exact pLeaf_eq rfl ht (by omega) hb f12
        · rw [beq_eq_false_iff_ne.2 hl, cond_false] at hb ⊢
          rw [show (((bitlen (val f) : Nat) : Int) == (mN n : Int) + 1) = false from beq_eq_false_iff_ne.2 (by omega), cond_false]
          exact pLeaf_eq rfl ht rfl hb f12
      · rw [show ((2 : Int) == 1) = false from rfl, cond_false, show ((2 : Int) == 3) = false from rfl, cond_false]
        exact pLeaf_eq rfl ht rfl hb f12
      · rw [show ((3 : Int) == 1) = false from rfl, cond_false, beq_self_eq_true, cond_true]
        have h2 := two_half (k := mN n) (by omega)
        have h3 := hF rfl
        unfold tailN at ht ⊢
        rw [beq_self_eq_true, cond_true] at ht ⊢
        cases q
        · rw [cond_false] at ht ⊢
          rw [Bool.not_false, cond_true]
          refine pLeaf_eq ?_ ht rfl hb f12
          rw [Int.toNat_natCast, val4, val4, show (1 : Int).toNat = 1 from rfl, Nat.mod_eq_of_lt one_lt256, Nat.mod_eq_of_lt (lt256 hT (by omega)), Nat.mod_eq_of_lt (show val f < 2 ^ mN n by omega), or_top h3]
        · rw [cond_true] at ht ⊢
          rw [Bool.not_true, cond_false]
          exact pLeaf_eq rfl ht rfl hb f12
  · rw [decide_eq_false h6, cond_false] at h
    by_cases h12 : 1 ≤ n ∧ n ≤ 12
    · rw [decide_eq_true h12, cond_true, beq_eq_false_iff_ne.2 (by rw [base10 h12 h6]; decide), cond_false]
      exact ⟨_, h, rfl⟩
    · rw [decide_eq_false h12, cond_false]
      exact ⟨_, h, rfl⟩
theorem bPack_fn : FnOK Try.prog 37 bPackC := fnOK_mk T mixed Try.func37 (by kernel_rfl) (fns := [(39, dBinaryC), (68, bIsC), (60, bFieldC), (69, lLen4C), (63, bOfC), (62, bLayC)]) (lps := []) (live := []) (out := []) (fuel := 0) (give := (fun _ => false)) ⟨dBinary_fn, bIs_fn, bField_fn, lLen4_fn, bOf_fn, bLay_fn, trivial⟩ trivial bPack_he
end
end Go.Proofs.Ytdpcokahhleopaa.Vm
