/-
  ref05.Is and ref05.Pack. No statement is proved here.
-/
import Derived.Test.YtdpcokahhleopaaCalC1
import Derived.Test.YtdpcokahhleopaaCalX
namespace Go.Proofs.Ytdpcokahhleopaa.Vm
open Go Go.Vm
noncomputable section
set_option linter.unusedVariables false
def rIsC : FnC := fun ds κ => match ds with
  | [.g [.int .i64 i0, .string i1, .int .i64 i2, .int .i64 i3, .int .i64 p, .int .i64 i5, .int .i64 emin, .int .i64 emax, .int .i64 pay, .bool i9], .g [.int .i64 c, .bool s, .bool q, .int .i64 x, .int .u64 w0, .int .u64 w1, .int .u64 w2, .int .u64 w3]] => κ [(.mine, .p (.bool (isT p emin emax pay c q x (val [w0, w1, w2, w3]))))]
  | _ => none
def rIsE : Env := mkE ty [(85, lenC)] [] [] [] 0 (fun _ => false)
theorem rIs_ev (i1 : ByteArray) (i0 i2 i3 p i5 emin emax pay : Int) (i9 : Bool) (c x : Int) (s q : Bool) (w0 w1 w2 w3 : Int) :
    evFn rIsE Try.f100 [.g [.int .i64 i0, .string i1, .int .i64 i2, .int .i64 i3, .int .i64 p, .int .i64 i5, .int .i64 emin, .int .i64 emax, .int .i64 pay, .bool i9], .g [.int .i64 c, .bool s, .bool q, .int .i64 x, .int .u64 w0, .int .u64 w1, .int .u64 w2, .int .u64 w3]] =
      rb (isT p emin emax pay c q x (val [w0, w1, w2, w3])) := by
  have h : evFn rIsE Try.f100 [.g [.int .i64 i0, .string i1, .int .i64 i2, .int .i64 i3, .int .i64 p, .int .i64 i5, .int .i64 emin, .int .i64 emax, .int .i64 pay, .bool i9], .g [.int .i64 c, .bool s, .bool q, .int .i64 x, .int .u64 w0, .int .u64 w1, .int .u64 w2, .int .u64 w3]] =
      cond (c == 1) (cond (!q) (cond (decide (((bitlen (val [w0, w1, w2, w3]) : Nat) : Int) ≤ p)) (cond (decide (x ≥ emin)) (cond (decide (x ≤ emax)) (cond (((bitlen (val [w0, w1, w2, w3]) : Nat) : Int) == p) (rb true) (rb (x == emin))) (rb false)) (rb false)) (rb false)) (rb false))
        (cond (c == 2) (cond (!q) (cond (((bitlen (val [w0, w1, w2, w3]) : Nat) : Int) == 0) (rb (x == 0)) (rb false)) (rb false))
          (cond (c == 3) (cond (x == 0) (cond (decide (((bitlen (val [w0, w1, w2, w3]) : Nat) : Int) ≤ pay)) (cond (decide (((bitlen (val [w0, w1, w2, w3]) : Nat) : Int) > 0)) (rb true) (rb (!q))) (rb false)) (rb false)) (rb false))) := by kernel_rfl
  rw [h]
  simp only [isT, rb_cond]
  generalize ((bitlen (val [w0, w1, w2, w3]) : Nat) : Int) = L
  cases (c == 1)
  · rfl
  · cases q
    · by_cases h1 : L ≤ p
      · rw [decide_eq_true h1]
        by_cases h2 : L = p
        · rw [h2, beq_self_eq_true]; rfl
        · rw [beq_eq_false_iff_ne.2 h2, decide_eq_true (show L < p by omega)]; rfl
      · rw [decide_eq_false h1, beq_eq_false_iff_ne.2 (show L ≠ p by omega), decide_eq_false (show ¬ L < p by omega)]
        cases decide (x ≥ emin) <;> cases decide (x ≤ emax) <;> rfl
    · rfl
theorem rIs_he : ∀ ds κ r, (∀ d ∈ ds, d.wf) → rIsC ds κ = some r → ∃ res, κ res = some r ∧ evFn rIsE Try.f100 ds = some res := fun ds κ r hw h => by
  unfold rIsC at h
  split at h
  case h_2 => cases h
  exact ⟨_, h, rIs_ev ..⟩
theorem rIs_fn : FnOK Try.prog 100 rIsC := fnOK_mk T mixed Try.func100 (by kernel_rfl) (fns := [(85, lenC)]) (lps := []) (live := []) (out := []) (fuel := 0) (give := (fun _ => false)) ⟨len_fn, trivial⟩ trivial rIs_he

/-! ### Pack -/
abbrev rPackC := bPackC
def rPackE : Env := mkE ty [(19, rBinaryC), (54, rOfC), (100, rIsC), (101, rLayC), (55, rFieldC), (85, lenC)] [] [] [] 0 (fun _ => false)
def layL (X a : List Int) (p : Int) : List Int := wordsN 4 (val X + val a * 2 ^ p.toNat)
def outR (X : List Int) : R := some [(.mine, .r .u64 4 X), (.mine, .p (.int .i64 0))]
def rTree (p p1 e emin prec c : Int) (q : Bool) (x : Int) (f Z : List Int) : R :=
  let top := IntKind.u64.wrap (shlI .u64 1 (IntKind.u64.wrap e) - 1)
  let w := IntKind.u64.wrap (IntKind.i64.wrap (IntKind.i64.wrap (x - emin) + 1))
  let t := words (val f / 2 ^ (0 : Int).toNat % 2 ^ p.toNat)
  cond (decide (IntKind.u64.wrap e < 0)) none
    (cond (c == 2) (cond (decide ([top].length ≤ 1000 ∧ 0 ≤ p ∧ p ≤ 1000)) (outR (layL Z [top] p)) none)
      (cond (c == 3)
        (cond (decide ([top].length ≤ 1000 ∧ 0 ≤ p ∧ p ≤ 1000)) (cond (!q) (cond (decide ([(1 : Int)].length ≤ 1000 ∧ 0 ≤ p1 ∧ p1 ≤ 1000)) (outR (layL (layL (layL Z [top] p) f 0) [1] p1)) none) (outR (layL (layL Z [top] p) f 0))) none)
        (cond (decide (((bitlen (val f) : Nat) : Int) < prec)) (outR (layL Z f 0))
          (cond (decide ((0 : Int) ≤ 0 ∧ 0 ≤ p ∧ p ≤ 256)) (cond (decide (t.length ≤ 1000 ∧ (0 : Int) ≤ 0 ∧ (0 : Int) ≤ 1000)) (cond (decide ([w].length ≤ 1000 ∧ 0 ≤ p ∧ p ≤ 1000)) (outR (layL (layL Z t 0) [w] p)) none) none) none))))
theorem rPack_ev (n c x : Int) (s q : Bool) (w0 w1 w2 w3 : Int) : evFn rPackE Try.f81 [.p (.int .i64 n), .g [.int .i64 c, .bool s, .bool q, .int .i64 x, .int .u64 w0, .int .u64 w1, .int .u64 w2, .int .u64 w3]] =
    cond (!decide (1 ≤ n ∧ n ≤ 6)) (some [(.mine, .r .u64 4 (wordsN 4 0)), (.mine, .p (.int .i64 1))])
      (cond (decide (1 ≤ n ∧ n ≤ 12))
        (cond (!isT (precI n) (eminI n) (emaxI n) (payI n) c q x (val [w0, w1, w2, w3])) (some [(.mine, .r .u64 4 (wordsN 4 0)), (.mine, .p (.int .i64 3))])
          (cond s
            (cond (decide ([(1 : Int)].length ≤ 1000 ∧ 0 ≤ IntKind.i64.wrap (IntKind.i64.wrap (precI n - 1) + expoI n) ∧ IntKind.i64.wrap (IntKind.i64.wrap (precI n - 1) + expoI n) ≤ 1000))
              (rTree (IntKind.i64.wrap (precI n - 1)) (IntKind.i64.wrap (IntKind.i64.wrap (precI n - 1) - 1)) (expoI n) (eminI n) (precI n) c q x [w0, w1, w2, w3] (layL [0, 0, 0, 0] [1] (IntKind.i64.wrap (IntKind.i64.wrap (precI n - 1) + expoI n)))) none)
            (rTree (IntKind.i64.wrap (precI n - 1)) (IntKind.i64.wrap (IntKind.i64.wrap (precI n - 1) - 1)) (expoI n) (eminI n) (precI n) c q x [w0, w1, w2, w3] [0, 0, 0, 0])))
        (cond (!isT 0 0 0 0 c q x (val [w0, w1, w2, w3])) (some [(.mine, .r .u64 4 (wordsN 4 0)), (.mine, .p (.int .i64 3))]) (cond s none (cond (c == 2) none (cond (c == 3) none none))))) := by kernel_rfl
theorem layL_eq (a : Nat) (v : List Int) (p : Int) : layL (wordsN 4 a) v p = wordsN 4 (a + val v * 2 ^ p.toNat) := by
  unfold layL
  rw [val4, ← wordsN4_mod, Nat.mod_add_mod, wordsN4_mod]
theorem shl_oneU {e : Nat} (he : e ≤ 15) : shlI .u64 1 (e : Int) = ((2 ^ e : Nat) : Int) := by
  have h : (2 : Nat) ^ e ≤ 2 ^ 15 := Nat.pow_le_pow_right (by decide) he
  have h2 : (2 : Nat) ^ 15 = 32768 := by decide
  unfold shlI
  have e1 : min (e : Int).toNat IntKind.u64.bits = e := by
    have : IntKind.u64.bits = 64 := rfl
    omega
  rw [e1, Int.one_mul]
  have e2 : (2 : Int) ^ e = ((2 ^ e : Nat) : Int) := by rw [Int.natCast_pow]; rfl
  rw [e2]
  generalize 2 ^ e = q at *
  exact u64_wrap (by omega) (by omega)
theorem val_one (a : Int) : val [a] = a.toNat := rfl
theorem rTree_eq {n : Int} (h6 : 1 ≤ n ∧ n ≤ 6) {c x : Int} {s q : Bool} {f : List Int} (hf : inR .u64 f) (hl : f.length = 4) (hi : isN n c q x (val f) = true) :
    rTree (mN n : Int) ((mN n - 1 : Nat) : Int) (eN n : Int) (eminI n) ((mN n : Int) + 1) c q x f (wordsN 4 (signN (mN n) (eN n) s)) = outR (wordsN 4 (packN (mN n) (eN n) (eminI n) c s q x (val f))) := by
  obtain ⟨f1, f2, f3, f4, f5, f6, f7, f8, f9, f10, f11, f12⟩ := fmt h6
  have f13 := emin_le h6
  have f14 := emax_le h6
  have hF := (tail_lt h6 hi).2
  have p3 : (2 : Nat) ^ eN n ≤ 2 ^ 15 := Nat.pow_le_pow_right (by decide) f11
  have p4 : (2 : Nat) ^ 15 = 32768 := by decide
  have p5 : 0 < 2 ^ eN n := Nat.two_pow_pos _
  have hwf : wlen (val f % 2 ^ mN n) ≤ 4 := Nat.le_trans (wlen_mono (Nat.mod_le _ _)) (by have := wlen_val hf; omega)
  have e4 : IntKind.u64.wrap (shlI .u64 1 (IntKind.u64.wrap (eN n : Int)) - 1) = ((2 ^ eN n - 1 : Nat) : Int) := by
    rw [u64_wrap (x := (eN n : Int)) (by omega) (by omega), shl_oneU f11, u64_wrap (by omega) (by omega)]; omega
  unfold rTree
  dsimp only
  rw [e4, layL_eq, layL_eq, layL_eq, layL_eq, layL_eq, layL_eq, u64_wrap (x := (eN n : Int)) (by omega) (by omega), decide_eq_false (show ¬ (eN n : Int) < 0 by omega), cond_false, Int.toNat_natCast, Int.toNat_natCast, show (0 : Int).toNat = 0 from rfl, Nat.pow_zero, Nat.div_one, Nat.mul_one, Nat.mul_one, val_words, length_words,
    val_one, val_one, val_one, Int.toNat_natCast, show (1 : Int).toNat = 1 from rfl, Nat.one_mul]
  have d1 : decide ([((2 ^ eN n - 1 : Nat) : Int)].length ≤ 1000 ∧ 0 ≤ (mN n : Int) ∧ (mN n : Int) ≤ 1000) = true := decide_eq_true ⟨(show 1 ≤ 1000 by decide), by omega, by omega⟩
  have d2 : decide ([(1 : Int)].length ≤ 1000 ∧ 0 ≤ ((mN n - 1 : Nat) : Int) ∧ ((mN n - 1 : Nat) : Int) ≤ 1000) = true := decide_eq_true ⟨(show 1 ≤ 1000 by decide), by omega, by omega⟩
  rw [d1, d2, cond_true, cond_true, cond_true]
  unfold packN tailN biasN
  rcases (isN_iff h6).1 hi with ⟨rfl, g0, g1, g2, g3⟩ | ⟨rfl, g0, g1, g2⟩ | ⟨rfl, g0, g1, g2⟩
  · rw [show ((1 : Int) == 2) = false from rfl, show ((1 : Int) == 3) = false from rfl, show ((1 : Int) == 1) = true from rfl, cond_false, cond_false, cond_false, cond_true]
    rcases g3 with g3 | ⟨g3, g4⟩
    · rw [decide_eq_false (show ¬ ((bitlen (val f) : Nat) : Int) < (mN n : Int) + 1 by omega), cond_false, beq_iff_eq.2 g3, cond_true, i64_wrap (x := x - eminI n) (by omega) (by omega), i64_wrap (x := x - eminI n + 1) (by omega) (by omega), u64_wrap (x := x - eminI n + 1) (by omega) (by omega),
        decide_eq_true (show (0 : Int) ≤ 0 ∧ 0 ≤ (mN n : Int) ∧ (mN n : Int) ≤ 256 by omega), cond_true, decide_eq_true (show wlen (val f % 2 ^ mN n) ≤ 1000 ∧ (0 : Int) ≤ 0 ∧ (0 : Int) ≤ 1000 by omega), cond_true,
        decide_eq_true (show [x - eminI n + 1].length ≤ 1000 ∧ 0 ≤ (mN n : Int) ∧ (mN n : Int) ≤ 1000 from ⟨(show 1 ≤ 1000 by decide), by omega, by omega⟩), cond_true, Nat.add_assoc, Nat.add_comm (signN _ _ _)]
    · have k1 := (bitlen_le_iff (val f) (mN n)).1 (by omega)
      rw [decide_eq_true (show ((bitlen (val f) : Nat) : Int) < (mN n : Int) + 1 by omega), cond_true, show (bitlen (val f) == mN n + 1) = false from beq_eq_false_iff_ne.2 (by omega), cond_false, Nat.zero_mul, Nat.add_zero, Nat.mod_eq_of_lt k1, Nat.add_comm]
  · rw [show ((2 : Int) == 2) = true from rfl, show ((2 : Int) == 3) = false from rfl, show ((2 : Int) == 1) = false from rfl, cond_true, cond_false, cond_false, g1, Nat.zero_mod, Nat.zero_add, Nat.add_comm]
  · have h2 := two_half (k := mN n) (by omega)
    have h3 := hF rfl
    have k2 : val f % 2 ^ mN n = val f := Nat.mod_eq_of_lt (by omega)
    rw [show ((3 : Int) == 2) = false from rfl, show ((3 : Int) == 3) = true from rfl, show ((3 : Int) == 1) = false from rfl, cond_false, cond_true, cond_true, cond_false, k2]
    cases q
    · rw [Bool.not_false, cond_true, cond_false]
      congr 2
      omega
    · rw [Bool.not_true, cond_false, cond_true]
      congr 2
      omega
theorem rPack_he : ∀ ds κ r, (∀ d ∈ ds, d.wf) → rPackC ds κ = some r → ∃ res, κ res = some r ∧ evFn rPackE Try.f81 ds = some res := fun ds κ r hw h => by
  unfold rPackC bPackC at h
  split at h
  case h_2 => cases h
  rename_i n c s q x w0 w1 w2 w3
  rw [rPack_ev]
  have hff : inR .u64 [w0, w1, w2, w3] := datum_wf (c := c) (x := x) (s := s) (q := q) rfl (hw (.g (datumCells c s q x [w0, w1, w2, w3])) (by simp [datumCells]))
  have hlf : [w0, w1, w2, w3].length = 4 := rfl
  generalize hf : [w0, w1, w2, w3] = f at *
  by_cases h6 : 1 ≤ n ∧ n ≤ 6
  · obtain ⟨f1, f2, f3, f4, f5, f6, f7, f8, f9, f10, f11, f12⟩ := fmt h6
    rw [decide_eq_true h6, cond_true] at h
    rw [decide_eq_true h6, Bool.not_true, cond_false, decide_eq_true (show 1 ≤ n ∧ n ≤ 12 by omega), cond_true]
    have ei : isT (precI n) (eminI n) (emaxI n) (payI n) c q x (val f) = isN n c q x (val f) := rfl
    rw [ei]
    cases hi : isN n c q x (val f) <;> rw [hi] at h
    · exact ⟨_, h, rfl⟩
    · refine ⟨_, h, ?_⟩
      have e1 : precI n - 1 = (mN n : Int) := by omega
      have e2 : (mN n : Int) - 1 = ((mN n - 1 : Nat) : Int) := by omega
      have e3 : (mN n : Int) + (eN n : Int) = ((mN n + eN n : Nat) : Int) := by omega
      have key := fun s => rTree_eq (s := s) h6 hff hlf hi
      rw [Bool.not_true, cond_false, e1, i64_wrap (x := (mN n : Int)) (by omega) (by omega), e2, i64_wrap (x := ((mN n - 1 : Nat) : Int)) (by omega) (by omega), f3, e3, i64_wrap (x := ((mN n + eN n : Nat) : Int)) (by omega) (by omega), f2,
        decide_eq_true (show [(1 : Int)].length ≤ 1000 ∧ 0 ≤ ((mN n + eN n : Nat) : Int) ∧ ((mN n + eN n : Nat) : Int) ≤ 1000 from ⟨(show 1 ≤ 1000 by decide), by omega, by omega⟩), cond_true]
      have z0 : [(0 : Int), 0, 0, 0] = wordsN 4 0 := rfl
      rw [z0, layL_eq, val_one, show (1 : Int).toNat = 1 from rfl, Nat.one_mul, Nat.zero_add, Int.toNat_natCast]
      cases s
      · exact key false
      · exact key true
  · rw [decide_eq_false h6, cond_false] at h
    rw [decide_eq_false h6, Bool.not_false, cond_true]
    exact ⟨_, h, rfl⟩
theorem rPack_fn : FnOK Try.prog 81 rPackC := fnOK_mk T mixed Try.func81 (by kernel_rfl) (fns := [(19, rBinaryC), (54, rOfC), (100, rIsC), (101, rLayC), (55, rFieldC), (85, lenC)]) (lps := []) (live := []) (out := []) (fuel := 0) (give := (fun _ => false)) ⟨rBinary_fn, rOf_fn, rIs_fn, rLay_fn, rField_fn, len_fn, trivial⟩ trivial rPack_he
end
end Go.Proofs.Ytdpcokahhleopaa.Vm
