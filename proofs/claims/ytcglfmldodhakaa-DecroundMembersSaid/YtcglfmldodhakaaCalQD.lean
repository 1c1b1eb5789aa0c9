/-
  Package round: what overflows, and Binary. No statement is proved here.
-/
import Derived.Test.YtcglfmldodhakaaCalQC
namespace Go.Proofs.Ytcglfmldodhakaa.Vm
open Go Go.Vm
noncomputable section
set_option linter.unusedVariables false
/-! ### scaled -/
def scaledC : FnC := fun ds κ => match ds with
  | [.w .u64 xs, .w .u64 ys, .p (.int .i64 e)] => cond (decide (xs = words (val xs) ∧ ys = words (val ys) ∧ xs.length ≤ 800 ∧ ys.length ≤ 800 ∧ -76800 ≤ e ∧ e ≤ 76800)) (κ [(.old, .w .u64 (words (val xs * upP 2 e))), (.old, .w .u64 (words (val ys * dnP 2 e)))]) none
  | _ => none
/-! ### overflow -/
def ovC : FnC := fun ds κ => match ds with
  | [.p (.int .i64 n), .p (.int .i64 d), .p (.bool s)] => cond (decide ((1 ≤ n ∧ n ≤ 6) ∧ 0 ≤ d ∧ d ≤ 4)) (κ [(.mine, .r .u64 4 (wordsN 4 (overP n d s))), (.mine, .p (.int .i64 10)), (.mine, .p (.int .i64 0))]) none
  | _ => none
theorem top_is {n : Int} (h6 : 1 ≤ n ∧ n ≤ 6) : isN n 1 false (emaxI n) (topN n) = true := by
  obtain ⟨f1, f2, f3, f4, f5, f6, f7, f8, f9, f10, f11, f12⟩ := fmt h6
  have f13 := emin_le h6
  have f14 := emax_le h6
  rw [isN_iff h6]
  refine .inl ⟨rfl, rfl, by omega, by omega, .inl ?_⟩
  unfold topN
  have hp := Nat.two_pow_pos (mN n)
  rw [f2, show ((mN n : Int) + 1).toNat = mN n + 1 by omega]
  refine bitlen_eq ?_ ?_ <;> rw [Nat.pow_succ] <;> omega
theorem inf_is {n : Int} (h6 : 1 ≤ n ∧ n ≤ 6) : isN n 2 false 0 0 = true := by
  rw [isN_iff h6]
  exact .inr (.inl ⟨rfl, rfl, rfl, rfl⟩)

/-! ### Binary -/
def pkT (n : Int) (s : Bool) (q : Int) (F : Nat) (fl : Int) : R :=
  cond (decide (1 ≤ n ∧ n ≤ 6)) (cond (isN n 1 false q F) (some [(.mine, .r .u64 4 (wordsN 4 (packN (mN n) (eN n) (eminI n) 1 s false q F))), (.mine, .p (.int .i64 fl)), (.mine, .p (.int .i64 0))])
    (some [(.mine, .r .u64 4 (wordsN 4 0)), (.mine, .p (.int .i64 fl)), (.mine, .p (.int .i64 3))])) (some [(.mine, .r .u64 4 (wordsN 4 0)), (.mine, .p (.int .i64 fl)), (.mine, .p (.int .i64 1))])
def ovT (n d : Int) (s : Bool) : R := cond (decide ((1 ≤ n ∧ n ≤ 6) ∧ 0 ≤ d ∧ d ≤ 4)) (some [(.mine, .r .u64 4 (wordsN 4 (overP n d s))), (.mine, .p (.int .i64 10)), (.mine, .p (.int .i64 0))]) none
def binD (n d : Int) (s : Bool) (low q : Int) (c : List Int) (ex : Bool) : R :=
  cond (decide (q > emaxI n)) (ovT n d s)
    (cond (!ex) (cond (decide (low < IntKind.i64.wrap (IntKind.i64.wrap (eminI n + precI n) - 1))) (pkT n s q (val (wordsN 4 (val c))) (Go.bits .or .i64 8 4)) (pkT n s q (val (wordsN 4 (val c))) 8)) (pkT n s q (val (wordsN 4 (val c))) 0))
def binC (n d : Int) (s : Bool) (num den : List Int) (e low : Int) : R :=
  let y := IntKind.i64.wrap (IntKind.i64.wrap (low - precI n) + 1)
  let q := if y > eminI n then y else eminI n
  let z := IntKind.i64.wrap (e - q)
  let a := words (val num * upP 2 z)
  let b := words (val den * dnP 2 z)
  let c := words (rndF d s (val a) (val b))
  cond (decide (num = words (val num) ∧ den = words (val den) ∧ num.length ≤ 800 ∧ den.length ≤ 800 ∧ -76800 ≤ z ∧ z ≤ 76800))
    (cond (decide (0 ≤ d ∧ d ≤ 4 ∧ a.length ≤ 2000 ∧ b.length ≤ 2000 ∧ 0 < val b))
      (cond (decide (((bitlen (val c) : Nat) : Int) > precI n)) (cond (decide (c.length ≤ 549755813888)) (binD n d s low (IntKind.i64.wrap (q + 1)) (words (val c / 2 ^ (1 : Int).toNat)) (exF (val a) (val b))) none)
        (binD n d s low q c (exF (val a) (val b)))) none) none
def binB (n d : Int) (s : Bool) (num den : List Int) (e : Int) : R :=
  let m := if -130000 > e then -130000 else e
  let e' := if 130000 < m then 130000 else m
  let L := IntKind.i64.wrap (((bitlen (val num) : Nat) : Int) - ((bitlen (val den) : Nat) : Int))
  let z := IntKind.i64.wrap (0 - L)
  let go := fun low0 : Int => 
    let low := IntKind.i64.wrap (low0 + e')
    cond (decide (low ≥ IntKind.i64.wrap (emaxI n + precI n))) (ovT n d s)
      (cond (decide (low < IntKind.i64.wrap (eminI n - 1))) (binC n d s (words (1 : Int).toNat) (words (1 : Int).toNat) (IntKind.i64.wrap (eminI n - 2)) (IntKind.i64.wrap (eminI n - 2))) (binC n d s num den e' low))
  cond (decide (num = words (val num) ∧ den = words (val den) ∧ num.length ≤ 800 ∧ den.length ≤ 800 ∧ -76800 ≤ z ∧ z ≤ 76800))
    (cond (decide (cmpI (val (words (val num * upP 2 z))) (val (words (val den * dnP 2 z))) < 0)) (go (IntKind.i64.wrap (L - 1))) (go L)) none
def errT (k : Int) : R := some [(.mine, .r .u64 4 (wordsN 4 0)), (.mine, .p (.int .i64 0)), (.mine, .p (.int .i64 k))]
/-- What a rounding tells. -/
def tellR (p : Nat × Int) : R := some [(.mine, .r .u64 4 (wordsN 4 p.1)), (.mine, .p (.int .i64 p.2)), (.mine, .p (.int .i64 0))]
theorem ovT_eq {n d : Int} (h6 : 1 ≤ n ∧ n ≤ 6) (hd : 0 ≤ d ∧ d ≤ 4) (s : Bool) : ovT n d s = tellR (overP n d s, 10) := by
  unfold ovT
  rw [decide_eq_true ⟨h6, hd⟩, cond_true]
  rfl
theorem pkT_eq {n : Int} (h6 : 1 ≤ n ∧ n ≤ 6) (s : Bool) {q : Int} {F : Nat} (fl : Int) (hi : isN n 1 false q F = true) : pkT n s q F fl = tellR (pkN n s q F, fl) := by
  unfold pkT
  rw [decide_eq_true h6, cond_true, hi, cond_true]
  rfl
theorem binD_eq {n d : Int} (h6 : 1 ≤ n ∧ n ≤ 6) (hd : 0 ≤ d ∧ d ≤ 4) (s : Bool) {low q : Int} {c : Nat} (ex : Bool) (hc : c < 2 ^ 256) (hi : q ≤ emaxI n → isN n 1 false q c = true) :
    binD n d s low q (words c) ex = tellR (cond (decide (q > emaxI n)) (overP n d s, 10) (pkN n s q c, cond ex 0 (cond (decide (low < eminI n + precI n - 1)) 12 8))) := by
  obtain ⟨f1, f2, f3, f4, f5, f6, f7, f8, f9, f10, f11, f12⟩ := fmt h6
  have f13 := emin_le h6
  unfold binD
  rw [val_words, lo4 hc, i64_wrap (x := eminI n + precI n) (by omega) (by omega), i64_wrap (x := eminI n + precI n - 1) (by omega) (by omega), ovT_eq h6 hd]
  by_cases hq : q > emaxI n
  · rw [decide_eq_true hq, cond_true, cond_true]
  · have hi := hi (by omega)
    rw [decide_eq_false hq, cond_false, cond_false, pkT_eq h6 s _ hi, pkT_eq h6 s _ hi, pkT_eq h6 s _ hi]
    have e12 : Go.bits .or .i64 8 4 = 12 := by decide
    rw [e12]
    cases ex <;> cases decide (low < eminI n + precI n - 1) <;> rfl
theorem binC_eq {n d : Int} (h6 : 1 ≤ n ∧ n ≤ 6) (hd : 0 ≤ d ∧ d ≤ 4) (s : Bool) {A B : Nat} (hA : 0 < A) (hB : 0 < B) (wA : wlen A ≤ 800) (wB : wlen B ≤ 800) (bA : bitlen A ≤ 51200) (bB : bitlen B ≤ 51200) {e low : Int} (hlow : low = flog 2 A B + e)
    (he : -140000 ≤ e ∧ e ≤ 140000) (h1 : eminI n - 2 ≤ low) : binC n d s (words A) (words B) e low = tellR (rnd n d s A B e) := by
  obtain ⟨f1, f2, f3, f4, f5, f6, f7, f8, f9, f10, f11, f12⟩ := fmt h6
  have f13 := emin_le h6
  have f14 := emax_le h6
  have hfl := flog2_bounds hA hB
  have p3 : (2 : Nat) ^ (eN n - 1) ≤ 2 ^ 14 := Nat.pow_le_pow_right (by decide) (by omega)
  have p4 : (2 : Nat) ^ 14 = 16384 := by decide
  obtain ⟨q, hq⟩ : ∃ q, q = qOf n low := ⟨_, rfl⟩
  have eq : (if IntKind.i64.wrap (IntKind.i64.wrap (low - precI n) + 1) > eminI n then IntKind.i64.wrap (IntKind.i64.wrap (low - precI n) + 1) else eminI n) = q := by
    rw [i64_wrap (x := low - precI n) (by omega) (by omega), i64_wrap (x := low - precI n + 1) (by omega) (by omega), hq]
    unfold qOf
    split <;> omega
  have hqb : eminI n ≤ q ∧ low - precI n + 1 ≤ q ∧ (q = eminI n ∨ q = low - precI n + 1) := by rw [hq]; unfold qOf; omega
  obtain ⟨c1, c2⟩ := rnd_c h6 hA hB d s hlow hq
  unfold binC
  dsimp only
  rw [eq, i64_wrap (x := e - q) (by omega) (by omega), val_words, val_words, val_words, val_words, length_words, length_words, length_words, length_words, val_words, length_words]
  have pz : 0 < dnP 2 (e - q) := dnP_pos (by decide) _
  have wu : wlen (A * upP 2 (e - q)) ≤ 800 + 810 := wlen_mul wA (by
    unfold upP
    have := wlen_two_pow (e - q).toNat
    omega)
  have wd : wlen (B * dnP 2 (e - q)) ≤ 800 + 810 := wlen_mul wB (by
    unfold dnP
    have := wlen_two_pow (-(e - q)).toNat
    omega)
  have hB2 : 0 < B * dnP 2 (e - q) := Nat.mul_pos hB pz
  have er : rnd n d s A B e = finish n d s low q (rndF d s (A * upP 2 (e - q)) (B * dnP 2 (e - q))) (exF (A * upP 2 (e - q)) (B * dnP 2 (e - q))) := by
    unfold rnd
    rw [if_neg (by omega), ← hlow, ← hq]
  rw [er]
  generalize rndF d s (A * upP 2 (e - q)) (B * dnP 2 (e - q)) = c at *
  generalize exF (A * upP 2 (e - q)) (B * dnP 2 (e - q)) = ex at *
  have hc256 : c < 2 ^ 256 := by
    have : (2 : Nat) ^ (mN n + 1) < 2 ^ 256 := Nat.pow_lt_pow_right (by decide) (by omega)
    omega
  have wc : wlen c ≤ 4 := by rw [wlen_le, pow4]; exact hc256
  obtain ⟨i1, i2⟩ := finish_is h6 hq c1 c2
  rw [decide_eq_true (show words A = words A ∧ words B = words B ∧ wlen A ≤ 800 ∧ wlen B ≤ 800 ∧ -76800 ≤ e - q ∧ e - q ≤ 76800 from ⟨rfl, rfl, wA, wB, by omega, by omega⟩), cond_true, decide_eq_true (show 0 ≤ d ∧ d ≤ 4 ∧ wlen (A * upP 2 (e - q)) ≤ 2000 ∧ wlen (B * dnP 2 (e - q)) ≤ 2000 ∧ 0 < B * dnP 2 (e - q) by omega), cond_true,
    decide_eq_true (show wlen c ≤ 549755813888 by omega), cond_true, show (1 : Int).toNat = 1 from rfl, Nat.pow_one, i64_wrap (x := q + 1) (by omega) (by omega)]
  unfold finish
  by_cases hb : ((bitlen c : Nat) : Int) > precI n
  · rw [decide_eq_true hb, cond_true, cond_true, binD_eq h6 hd s ex (by omega) (i1 (by omega))]
  · rw [decide_eq_false hb, cond_false, cond_false, binD_eq h6 hd s ex hc256 (i2 (by omega))]
theorem flog_one : flog 2 1 1 = 0 := by
  rw [flog2 (by decide) (by decide) (q := 0) (by decide)]
  decide
theorem binB_eq {n d : Int} (h6 : 1 ≤ n ∧ n ≤ 6) (hd : 0 ≤ d ∧ d ≤ 4) (s : Bool) {A B : Nat} (hA : 0 < A) (hB : 0 < B) (wA : wlen A ≤ 800) (wB : wlen B ≤ 800) (e : Int) : binB n d s (words A) (words B) e = tellR (rnd n d s A B e) := by
  obtain ⟨f1, f2, f3, f4, f5, f6, f7, f8, f9, f10, f11, f12⟩ := fmt h6
  have f13 := emin_le h6
  have f14 := emax_le h6
  have bA : bitlen A ≤ 51200 := by unfold wlen at wA; omega
  have bB : bitlen B ≤ 51200 := by unfold wlen at wB; omega
  have p3 : (2 : Nat) ^ (eN n - 1) ≤ 2 ^ 14 := Nat.pow_le_pow_right (by decide) (by omega)
  have p4 : (2 : Nat) ^ 14 = 16384 := by decide
  have hcl := rnd_clamp (d := d) (e := e) (M := 130000) (s := s) h6 (A := A) (B := B) (by omega) hB (by omega) (by omega) (by decide)
  obtain ⟨e', he'⟩ : ∃ e', e' = min (max e (-130000)) 130000 := ⟨_, rfl⟩
  have em : (if 130000 < (if -130000 > e then -130000 else e) then 130000 else (if -130000 > e then -130000 else e)) = e' := by rw [he']; split <;> split <;> omega
  rw [← he'] at hcl
  have hfl := flog2_bounds hA hB
  have hf := flog2 hA hB (q := ((bitlen A : Nat) : Int) - ((bitlen B : Nat) : Int)) rfl
  unfold binB
  dsimp only
  rw [em, val_words, val_words, val_words, val_words, length_words, length_words, i64_wrap (x := ((bitlen A : Nat) : Int) - ((bitlen B : Nat) : Int)) (by omega) (by omega), i64_wrap (x := 0 - (((bitlen A : Nat) : Int) - ((bitlen B : Nat) : Int))) (by omega) (by omega), Int.zero_sub, upP_neg, dnP_neg, cmpI_neg]
  -- what comes of the logarithm
  have go : ∀ L : Int, L = flog 2 A B → cond (decide (IntKind.i64.wrap (L + e') ≥ IntKind.i64.wrap (emaxI n + precI n))) (ovT n d s)
      (cond (decide (IntKind.i64.wrap (L + e') < IntKind.i64.wrap (eminI n - 1))) (binC n d s (words (1 : Int).toNat) (words (1 : Int).toNat) (IntKind.i64.wrap (eminI n - 2)) (IntKind.i64.wrap (eminI n - 2))) (binC n d s (words A) (words B) e' (IntKind.i64.wrap (L + e')))) = tellR (rnd n d s A B e) := by
    intro L hL
    rw [i64_wrap (x := L + e') (by omega) (by omega), i64_wrap (x := emaxI n + precI n) (by omega) (by omega), i64_wrap (x := eminI n - 1) (by omega) (by omega), i64_wrap (x := eminI n - 2) (by omega) (by omega), ← hcl]
    by_cases h1 : L + e' ≥ emaxI n + precI n
    · rw [decide_eq_true h1, cond_true, ovT_eq h6 hd, rnd_over (by omega) (by omega)]
    · rw [decide_eq_false h1, cond_false]
      by_cases h2 : L + e' < eminI n - 1
      · rw [decide_eq_true h2, cond_true, show (1 : Int).toNat = 1 from rfl, binC_eq h6 hd s (A := 1) (B := 1) (by decide) (by decide) (by decide) (by decide) (by decide) (by decide) (e := eminI n - 2) (low := eminI n - 2) (by rw [flog_one]; omega) (by omega) (by omega),
          rnd_small h6 hA hB (by omega), rnd_small h6 (by decide) (by decide) (by rw [flog_one]; omega)]
      · rw [decide_eq_false h2, cond_false, binC_eq h6 hd s hA hB wA wB bA bB (by omega) (by omega) (by omega)]
  rw [decide_eq_true (show words A = words A ∧ words B = words B ∧ wlen A ≤ 800 ∧ wlen B ≤ 800 ∧ -76800 ≤ -(((bitlen A : Nat) : Int) - ((bitlen B : Nat) : Int)) ∧ -(((bitlen A : Nat) : Int) - ((bitlen B : Nat) : Int)) ≤ 76800 from ⟨rfl, rfl, wA, wB, by omega, by omega⟩), cond_true]
  by_cases hlt : A * dnP 2 (((bitlen A : Nat) : Int) - ((bitlen B : Nat) : Int)) < B * upP 2 (((bitlen A : Nat) : Int) - ((bitlen B : Nat) : Int))
  · rw [if_pos hlt] at hf
    rw [decide_eq_true hlt, cond_true]
    exact go _ (by rw [i64_wrap (by omega) (by omega)]; omega)
  · rw [if_neg hlt] at hf
    rw [decide_eq_false hlt, cond_false]
    exact go _ hf.symm
/-- What Binary of both packages comes to. -/
def rndC : FnC := fun ds κ => match ds with
  | [.p (.int .i64 n), .p (.int .i64 d), .p (.bool s), .w .u64 xs, .w .u64 ys, .p (.int .i64 e)] => cond (decide (xs.length ≤ 1000000 ∧ ys.length ≤ 1000000))
      (cond (decide ((1 ≤ n ∧ n ≤ 6) ∧ (0 ≤ d ∧ d ≤ 4) ∧ 0 < val ys)) (cond (decide (wlen (val xs) > 800 ∨ wlen (val ys) > 800)) (κ [(.mine, .r .u64 4 (wordsN 4 0)), (.mine, .p (.int .i64 0)), (.mine, .p (.int .i64 4))])
          (κ [(.mine, .r .u64 4 (wordsN 4 (rnd n d s (val xs) (val ys) e).1)), (.mine, .p (.int .i64 (rnd n d s (val xs) (val ys) e).2)), (.mine, .p (.int .i64 0))]))
        (κ [(.mine, .r .u64 4 (wordsN 4 0)), (.mine, .p (.int .i64 0)), (.mine, .p (.int .i64 1))])) none
  | _ => none
theorem zero_is {n : Int} (h6 : 1 ≤ n ∧ n ≤ 6) : isN n 1 false (eminI n) 0 = true := by
  have f13 := emin_le h6
  have f14 := emax_le h6
  rw [isN_iff h6]
  have : bitlen 0 = 0 := rfl
  exact .inl ⟨rfl, rfl, by omega, by omega, .inr ⟨by omega, rfl⟩⟩
end
end Go.Proofs.Ytcglfmldodhakaa.Vm
