/-
  Interchange formats: what a pattern holds. No statement is proved here.
-/
import Derived.Test.YtcglfmldodhakaaCalB2
namespace Go.Proofs.Ytcglfmldodhakaa.Vm
open Go Go.Vm
noncomputable section
set_option linter.unusedVariables false
/-- A datum, as a struct's cells. -/
def datumCells (c : Int) (s q : Bool) (x : Int) (f : List Int) : List Value := [.int .i64 c, .bool s, .bool q, .int .i64 x, .int .u64 (f.getD 0 0), .int .u64 (f.getD 1 0), .int .u64 (f.getD 2 0), .int .u64 (f.getD 3 0)]
def zeroDatum : List Value := [.int .i64 0, .bool false, .bool false, .int .i64 0, .int .u64 0, .int .u64 0, .int .u64 0, .int .u64 0]
def mN (n : Int) : Nat := (precI n - 1).toNat
def eN (n : Int) : Nat := (expoI n).toNat
theorem fmt {n : Int} (h : 1 ≤ n ∧ n ≤ 6) : baseI n = 2 ∧ precI n = (mN n : Int) + 1 ∧ expoI n = (eN n : Int) ∧ widthI n = ((mN n + eN n : Nat) : Int) + 1 ∧ payI n = (mN n : Int) - 1 ∧
    eminI n = 2 - ((2 ^ (eN n - 1) : Nat) : Int) - (mN n : Int) ∧ emaxI n = ((2 ^ (eN n - 1) : Nat) : Int) - (mN n : Int) - 1 ∧ 7 ≤ mN n ∧ mN n ≤ 240 ∧ 5 ≤ eN n ∧ eN n ≤ 15 ∧ mN n + eN n ≤ 255 := by
  rcases (by omega : n = 1 ∨ n = 2 ∨ n = 3 ∨ n = 4 ∨ n = 5 ∨ n = 6) with rfl | rfl | rfl | rfl | rfl | rfl <;> decide
theorem base10 {n : Int} (h : 1 ≤ n ∧ n ≤ 12) (h6 : ¬ (1 ≤ n ∧ n ≤ 6)) : baseI n = 10 := by
  rcases (by omega : n = 7 ∨ n = 8 ∨ n = 9 ∨ n = 10 ∨ n = 11 ∨ n = 12) with rfl | rfl | rfl | rfl | rfl | rfl <;> decide

/-! ### Unpack -/
def uT (m B : Nat) : Nat := B % 2 ^ m
def uX (m e B : Nat) : Nat := B / 2 ^ m % 2 ^ e
def uN (m e B : Nat) : Bool := decide (uX m e B < 2 ^ e - 1)
def uC (m e B : Nat) : Int := cond (uN m e B) 1 (cond (uT m B == 0) 2 3)
def uS (m e B : Nat) : Bool := B / 2 ^ (m + e) % 2 == 1
def uQ (m e B : Nat) : Bool := cond (uN m e B) false (cond (uT m B == 0) false (B / 2 ^ (m - 1) % 2 == 0))
def uE (m e : Nat) (emin : Int) (B : Nat) : Int := cond (uN m e B) (emin + ((uX m e B - 1 : Nat) : Int)) 0
def uF (m e B : Nat) : Nat := cond (uN m e B) (cond (decide (0 < uX m e B)) (uT m B + 2 ^ m) (uT m B)) (uT m B % 2 ^ (m - 1))
/-- What a pattern of a format holds. -/
def uDat (n : Int) (B : Nat) : List Value := datumCells (uC (mN n) (eN n) B) (uS (mN n) (eN n) B) (uQ (mN n) (eN n) B) (uE (mN n) (eN n) (eminI n) B) (wordsN 4 (uF (mN n) (eN n) B))
def bUnpackC : FnC := fun ds κ => match ds with
  | [.p (.int .i64 n), .r .u64 4 b] => cond (decide (1 ≤ n ∧ n ≤ 6)) (cond (decide (((bitlen (val b) : Nat) : Int) ≤ widthI n)) (κ [(.mine, .g (uDat n (val b))), (.mine, .p (.int .i64 0))]) (κ [(.mine, .g zeroDatum), (.mine, .p (.int .i64 1))])) (κ [(.mine, .g zeroDatum), (.mine, .p (.int .i64 1))])
  | _ => none
def bitI (b : List Int) (n : Int) : Int := if n < 0 then 0 else ((val b / 2 ^ n.toNat % 2 : Nat) : Int)
def uTree (p p1 e w emin : Int) (b : List Int) : R :=
  let F := wordsN 4 (val b / 2 ^ (0 : Int).toNat % 2 ^ p.toNat)
  let X := IntKind.i64.wrap ((wordsN 4 (val b / 2 ^ p.toNat % 2 ^ e.toNat)).getD 0 0)
  let S := bitI b (IntKind.i64.wrap (w - 1)) == 1
  cond (decide (p ≤ 256)) (cond (decide (e ≤ 256)) (cond (decide (e < 0)) none
    (cond (decide (X < IntKind.i64.wrap (shlI .i64 1 e - 1)))
      (cond (decide (X > 0))
        (some [(.mine, .g (datumCells 1 S false (IntKind.i64.wrap (emin + if IntKind.i64.wrap (X - 1) < 0 then 0 else IntKind.i64.wrap (X - 1))) (wordsN 4 (val F ||| val (wordsN 4 (1 : Int).toNat) * 2 ^ p.toNat)))), (.mine, .p (.int .i64 0))])
        (some [(.mine, .g (datumCells 1 S false (IntKind.i64.wrap (emin + if IntKind.i64.wrap (X - 1) < 0 then 0 else IntKind.i64.wrap (X - 1))) F)), (.mine, .p (.int .i64 0))]))
      (cond (decide (F = List.replicate 4 0))
        (some [(.mine, .g (datumCells 2 S false 0 [0, 0, 0, 0])), (.mine, .p (.int .i64 0))])
        (cond (decide (p1 ≤ 256))
          (some [(.mine, .g (datumCells 3 S (bitI b p1 == 0) 0 (wordsN 4 (val F / 2 ^ (0 : Int).toNat % 2 ^ p1.toNat)))), (.mine, .p (.int .i64 0))])
          none)))) none) none
theorem lt256 {a k : Nat} (h : a < 2 ^ k) (hk : k ≤ 256) : a < 2 ^ 256 := Nat.lt_of_lt_of_le h (Nat.pow_le_pow_right (by decide) hk)
theorem word0 {a : Nat} : (wordsN 4 a).getD 0 0 = ((a % 18446744073709551616 : Nat) : Int) := rfl
theorem shl_one {e : Nat} (he : e ≤ 15) : shlI .i64 1 (e : Int) = ((2 ^ e : Nat) : Int) := by
  have h : (2 : Nat) ^ e ≤ 2 ^ 15 := Nat.pow_le_pow_right (by decide) he
  have h2 : (2 : Nat) ^ 15 = 32768 := by decide
  unfold shlI
  have e1 : min (e : Int).toNat IntKind.i64.bits = e := by
    have : IntKind.i64.bits = 64 := rfl
    omega
  rw [e1, Int.one_mul]
  have e2 : (2 : Int) ^ e = ((2 ^ e : Nat) : Int) := by rw [Int.natCast_pow]; rfl
  rw [e2]
  generalize 2 ^ e = q at *
  exact i64_wrap (by omega) (by omega)
theorem wordsN4_zero {a : Nat} (ha : a < 2 ^ 256) : wordsN 4 a = List.replicate 4 0 ↔ a = 0 := by
  have e : List.replicate 4 (0 : Int) = wordsN 4 0 := rfl
  rw [e, wordsN_inj (by rw [pow4]; exact ha) (by rw [pow4]; exact Nat.two_pow_pos _)]
theorem or_top {T m : Nat} (h : T < 2 ^ m) : T ||| 1 * 2 ^ m = T + 2 ^ m := by
  rw [Nat.or_comm, Nat.mul_comm, ← Nat.two_pow_add_eq_or_of_lt h, Nat.mul_one, Nat.add_comm]
theorem uTree_eq {m e : Nat} {emin : Int} {b : List Int} (hb : inR .u64 b) (hl : b.length = 4) (hm : 7 ≤ m ∧ m ≤ 240) (he : 5 ≤ e ∧ e ≤ 15) (hx : -100000 ≤ emin ∧ emin ≤ 0) :
    uTree (m : Int) ((m - 1 : Nat) : Int) (e : Int) (((m + e : Nat) : Int) + 1) emin b =
      some [(.mine, .g (datumCells (uC m e (val b)) (uS m e (val b)) (uQ m e (val b)) (uE m e emin (val b)) (wordsN 4 (uF m e (val b))))), (.mine, .p (.int .i64 0))] := by
  have h256 := val_lt4 hb hl
  generalize hB : val b = B at *
  have p1 : B % 2 ^ m < 2 ^ m := Nat.mod_lt _ (Nat.two_pow_pos _)
  have p2 : B / 2 ^ m % 2 ^ e < 2 ^ e := Nat.mod_lt _ (Nat.two_pow_pos _)
  have p3 : (2 : Nat) ^ e ≤ 2 ^ 15 := Nat.pow_le_pow_right (by decide) he.2
  have p4 : (2 : Nat) ^ 15 = 32768 := by decide
  have p5 : 0 < 2 ^ e := Nat.two_pow_pos _
  have w1 : IntKind.i64.wrap (((m + e : Nat) : Int) + 1 - 1) = ((m + e : Nat) : Int) := by rw [i64_wrap (by omega) (by omega)]; omega
  have t0 : (0 : Int).toNat = 0 := rfl
  have t1 : (1 : Int).toNat = 1 := rfl
  have X1 : IntKind.i64.wrap ((wordsN 4 (B / 2 ^ m % 2 ^ e)).getD 0 0) = ((uX m e B : Nat) : Int) := by
    rw [word0, i64_wrap (by omega) (by omega)]
    unfold uX
    omega
  have S1 : (bitI b ((m + e : Nat) : Int) == 1) = uS m e B := by
    unfold bitI uS
    rw [if_neg (by omega), hB, Int.toNat_natCast]
    generalize B / 2 ^ (m + e) % 2 = q
    by_cases h : q = 1
    · rw [h]; rfl
    · rw [beq_eq_false_iff_ne.2 h, beq_eq_false_iff_ne.2 (by omega)]
  have S2 : (bitI b ((m - 1 : Nat) : Int) == 0) = (B / 2 ^ (m - 1) % 2 == 0) := by
    unfold bitI
    rw [if_neg (by omega), hB, Int.toNat_natCast]
    generalize B / 2 ^ (m - 1) % 2 = q
    by_cases h : q = 0
    · rw [h]; rfl
    · rw [beq_eq_false_iff_ne.2 h, beq_eq_false_iff_ne.2 (by omega)]
  unfold uTree
  dsimp only
  rw [w1, S1, S2, hB, Int.toNat_natCast, Int.toNat_natCast, Int.toNat_natCast, t0, t1, X1, Nat.pow_zero, Nat.div_one, shl_one he.2, i64_wrap (x := ((2 ^ e : Nat) : Int) - 1) (by omega) (by omega)]
  rw [decide_eq_true (show (m : Int) ≤ 256 by omega), cond_true, decide_eq_true (show (e : Int) ≤ 256 by omega), cond_true, decide_eq_false (show ¬ (e : Int) < 0 by omega), cond_false]
  have eT : B % 2 ^ m = uT m B := rfl
  rw [eT] at p1 ⊢
  have eX : uX m e B < 2 ^ e := p2
  by_cases hN : uX m e B < 2 ^ e - 1
  · have hN' : uN m e B = true := decide_eq_true hN
    rw [decide_eq_true (show ((uX m e B : Nat) : Int) < ((2 ^ e : Nat) : Int) - 1 by omega), cond_true]
    unfold uC uQ uE uF
    rw [hN', cond_true, cond_true, cond_true, cond_true, i64_wrap (x := ((uX m e B : Nat) : Int) - 1) (by omega) (by omega)]
    by_cases h0 : 0 < uX m e B
    · rw [decide_eq_true (show ((uX m e B : Nat) : Int) > 0 by omega), cond_true, decide_eq_true h0, cond_true, if_neg (by omega), i64_wrap (by omega) (by omega), val4, val4, Nat.mod_eq_of_lt (lt256 p1 (by omega)), Nat.mod_eq_of_lt one_lt256, or_top p1]
      have e1 : ((uX m e B : Nat) : Int) - 1 = ((uX m e B - 1 : Nat) : Int) := by omega
      rw [e1]
    · rw [decide_eq_false (show ¬ ((uX m e B : Nat) : Int) > 0 by omega), cond_false, decide_eq_false h0, cond_false, if_pos (by omega), i64_wrap (by omega) (by omega)]
      have e1 : (0 : Int) = ((uX m e B - 1 : Nat) : Int) := by omega
      rw [← e1]
  · have hN' : uN m e B = false := decide_eq_false hN
    rw [decide_eq_false (show ¬ ((uX m e B : Nat) : Int) < ((2 ^ e : Nat) : Int) - 1 by omega), cond_false]
    unfold uC uQ uE uF
    rw [hN', cond_false, cond_false, cond_false, cond_false]
    by_cases h0 : uT m B = 0
    · rw [decide_eq_true ((wordsN4_zero (lt256 p1 (by omega))).2 h0), cond_true, beq_iff_eq.2 h0, cond_true, cond_true, h0, Nat.zero_mod]
      rfl
    · rw [decide_eq_false (fun h => h0 ((wordsN4_zero (lt256 p1 (by omega))).1 h)), cond_false, beq_eq_false_iff_ne.2 h0, cond_false, cond_false, decide_eq_true (show ((m - 1 : Nat) : Int) ≤ 256 by omega), cond_true, val4, Nat.mod_eq_of_lt (lt256 p1 (by omega)), Nat.div_one]
theorem emin_le {n : Int} (h : 1 ≤ n ∧ n ≤ 6) : -100000 ≤ eminI n ∧ eminI n ≤ 0 := by
  rcases (by omega : n = 1 ∨ n = 2 ∨ n = 3 ∨ n = 4 ∨ n = 5 ∨ n = 6) with rfl | rfl | rfl | rfl | rfl | rfl <;> decide

/-! ### is -/
/-- Whether a datum is one of a format with this precision, these bounds and this many payload bits. -/
def isT (p emin emax pay : Int) (c : Int) (q : Bool) (x : Int) (F : Nat) : Bool :=
  cond (c == 1) (cond (!q) (cond (decide (x ≥ emin)) (cond (decide (x ≤ emax)) (cond (((bitlen F : Nat) : Int) == p) true (cond (decide (((bitlen F : Nat) : Int) < p)) (x == emin) false)) false) false) false)
    (cond (c == 2) (cond (!q) (cond (((bitlen F : Nat) : Int) == 0) (x == 0) false) false)
      (cond (c == 3) (cond (x == 0) (cond (decide (((bitlen F : Nat) : Int) ≤ pay)) (cond (decide (((bitlen F : Nat) : Int) > 0)) true (!q)) false) false) false))
def rb (z : Bool) : R := some [(.mine, .p (.bool z))]
theorem rb_cond (a x y : Bool) : rb (cond a x y) = cond a (rb x) (rb y) := by cases a <;> rfl
def bIsC : FnC := fun ds κ => match ds with
  | [.g [.int .i64 i0, .string i1, .int .i64 i2, .int .i64 i3, .int .i64 p, .int .i64 i5, .int .i64 emin, .int .i64 emax, .int .i64 pay, .bool i9], .g [.int .i64 c, .bool s, .bool q, .int .i64 x, .int .u64 w0, .int .u64 w1, .int .u64 w2, .int .u64 w3]] => κ [(.mine, .p (.bool (isT p emin emax pay c q x (val [w0, w1, w2, w3]))))]
  | _ => none
end
end Go.Proofs.Ytcglfmldodhakaa.Vm
