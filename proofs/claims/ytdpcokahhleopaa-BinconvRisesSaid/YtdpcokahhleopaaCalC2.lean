/-
  ref05.Unpack. No statement is proved here.
-/
import Derived.Test.YtdpcokahhleopaaCalC1
namespace Go.Proofs.Ytdpcokahhleopaa.Vm
open Go Go.Vm
noncomputable section
set_option linter.unusedVariables false
abbrev rUnpackC := bUnpackC
def rUnpackE : Env := mkE ty [(34, rGoodC), (54, rOfC), (55, rFieldC), (56, rNumberC), (57, rBitsC), (58, powC), (25, addC)] [] [] [] 0 (fun _ => false)
def numI (b : List Int) (p n : Int) : Int := IntKind.i64.wrap ((val (words (val b / 2 ^ p.toNat % 2 ^ n.toNat)) % 18446744073709551616 : Nat) : Int)
def vRest (p p1 e pe emin : Int) (b : List Int) : R :=
  cond (decide (IntKind.u64.wrap e < 0)) none
    (cond (numI b p e == IntKind.i64.wrap (shlI .i64 1 (IntKind.u64.wrap e) - 1))
      (cond (decide (0 ≤ p1 ∧ (0 : Int) ≤ 1 ∧ (1 : Int) ≤ 256)) (cond (decide ((0 : Int) ≤ 0 ∧ 0 ≤ p1 ∧ p1 ≤ 256))
        (some [(.mine, .g (datumCells 3 (numI b pe 1 == 1) (numI b p1 1 == 0) 0 (wordsN 4 (val (words (val b / 2 ^ (0 : Int).toNat % 2 ^ p1.toNat)))))), (.mine, .p (.int .i64 0))]) none) none)
      (cond (numI b p e == 0)
        (some [(.mine, .g (datumCells 1 (numI b pe 1 == 1) false emin (wordsN 4 (val (words (val b / 2 ^ (0 : Int).toNat % 2 ^ p.toNat)))))), (.mine, .p (.int .i64 0))])
        (cond (decide (0 ≤ p ∧ p ≤ 100000))
          (cond (decide ((words (val b / 2 ^ (0 : Int).toNat % 2 ^ p.toNat)).length ≤ 549755813888 ∧ (words ((2 : Int).toNat ^ p.toNat)).length ≤ 549755813888))
            (some [(.mine, .g (datumCells 1 (numI b pe 1 == 1) false (IntKind.i64.wrap (IntKind.i64.wrap (emin - 1) + numI b p e)) (wordsN 4 (val (words (val (words (val b / 2 ^ (0 : Int).toNat % 2 ^ p.toNat)) + val (words ((2 : Int).toNat ^ p.toNat)))))))), (.mine, .p (.int .i64 0))]) none) none)))
def vTree (p p1 e pe emin : Int) (b : List Int) : R :=
  cond (decide ((0 : Int) ≤ 0 ∧ 0 ≤ p ∧ p ≤ 256)) (cond (decide (0 ≤ p ∧ 0 ≤ e ∧ e ≤ 256)) (cond (decide (0 ≤ pe ∧ (0 : Int) ≤ 1 ∧ (1 : Int) ≤ 256))
    (cond (decide (IntKind.u64.wrap e < 0)) none
      (cond (numI b p e == IntKind.i64.wrap (shlI .i64 1 (IntKind.u64.wrap e) - 1))
        (cond (((words (val b / 2 ^ (0 : Int).toNat % 2 ^ p.toNat)).length : Int) == 0)
          (some [(.mine, .g (datumCells 2 (numI b pe 1 == 1) false 0 [0, 0, 0, 0])), (.mine, .p (.int .i64 0))])
          (vRest p p1 e pe emin b)) (vRest p p1 e pe emin b))) none) none) none
theorem rUnpack_ev (n : Int) (b : List Int) : evFn rUnpackE Try.f24 [.p (.int .i64 n), .r .u64 4 b] =
    cond (decide (1 ≤ n ∧ n ≤ 6)) (cond (decide (((bitlen (val b) : Nat) : Int) ≤ widthI n))
      (cond (decide (1 ≤ n ∧ n ≤ 12)) (vTree (IntKind.i64.wrap (precI n - 1)) (IntKind.i64.wrap (IntKind.i64.wrap (precI n - 1) - 1)) (expoI n) (IntKind.i64.wrap (IntKind.i64.wrap (precI n - 1) + expoI n)) (eminI n) b) none)
      (some [(.mine, .g zeroDatum), (.mine, .p (.int .i64 1))])) (some [(.mine, .g zeroDatum), (.mine, .p (.int .i64 1))]) := by kernel_rfl
theorem numI_eq {b : List Int} {p n : Int} {P N : Nat} (hp : p = (P : Int)) (hn : n = (N : Int)) (h : N ≤ 60) : numI b p n = ((val b / 2 ^ P % 2 ^ N : Nat) : Int) := by
  subst hp hn
  have h1 : val b / 2 ^ P % 2 ^ N < 2 ^ N := Nat.mod_lt _ (Nat.two_pow_pos _)
  have h2 : (2 : Nat) ^ N ≤ 2 ^ 60 := Nat.pow_le_pow_right (by decide) h
  have h3 : (2 : Nat) ^ 60 = 1152921504606846976 := by decide
  unfold numI
  rw [Int.toNat_natCast, Int.toNat_natCast, val_words, Nat.mod_eq_of_lt (show _ < 18446744073709551616 by omega), i64_wrap (by omega) (by omega)]
theorem vTree_eq {m e : Nat} {emin : Int} {b : List Int} (hb : inR .u64 b) (hl : b.length = 4) (hm : 7 ≤ m ∧ m ≤ 240) (he : 5 ≤ e ∧ e ≤ 15) (hx : -100000 ≤ emin ∧ emin ≤ 0) :
    vTree (m : Int) ((m - 1 : Nat) : Int) (e : Int) ((m + e : Nat) : Int) emin b =
      some [(.mine, .g (datumCells (uC m e (val b)) (uS m e (val b)) (uQ m e (val b)) (uE m e emin (val b)) (wordsN 4 (uF m e (val b))))), (.mine, .p (.int .i64 0))] := by
  have h256 := val_lt4 hb hl
  have X1 : numI b (m : Int) (e : Int) = ((uX m e (val b) : Nat) : Int) := numI_eq rfl rfl (by omega)
  have S1 : (numI b ((m + e : Nat) : Int) 1 == 1) = uS m e (val b) := by
    rw [numI_eq (p := ((m + e : Nat) : Int)) (n := 1) (P := m + e) (N := 1) rfl rfl (by omega)]
    unfold uS
    rw [Nat.pow_one]
    generalize val b / 2 ^ (m + e) % 2 = q
    by_cases h : q = 1
    · rw [h]; rfl
    · rw [beq_eq_false_iff_ne.2 h, beq_eq_false_iff_ne.2 (by omega)]
  have S2 : (numI b ((m - 1 : Nat) : Int) 1 == 0) = (val b / 2 ^ (m - 1) % 2 == 0) := by
    rw [numI_eq (p := ((m - 1 : Nat) : Int)) (n := 1) (P := m - 1) (N := 1) rfl rfl (by omega), Nat.pow_one]
    generalize val b / 2 ^ (m - 1) % 2 = q
    by_cases h : q = 0
    · rw [h]; rfl
    · rw [beq_eq_false_iff_ne.2 h, beq_eq_false_iff_ne.2 (by omega)]
  unfold vTree vRest
  rw [X1, S1, S2, Int.toNat_natCast, Int.toNat_natCast, show (0 : Int).toNat = 0 from rfl, show (2 : Int).toNat = 2 from rfl, Nat.pow_zero, Nat.div_one, u64_wrap (x := (e : Int)) (by omega) (by omega), shl_one he.2]
  generalize hB : val b = B at *
  have p1 : B % 2 ^ m < 2 ^ m := Nat.mod_lt _ (Nat.two_pow_pos _)
  have p2 : uX m e B < 2 ^ e := Nat.mod_lt _ (Nat.two_pow_pos _)
  have p3 : (2 : Nat) ^ e ≤ 2 ^ 15 := Nat.pow_le_pow_right (by decide) he.2
  have p4 : (2 : Nat) ^ 15 = 32768 := by decide
  have p5 : 0 < 2 ^ e := Nat.two_pow_pos _
  have eT : B % 2 ^ m = uT m B := rfl
  have eL : B % 2 ^ (m - 1) = uT m B % 2 ^ (m - 1) := by
    unfold uT
    exact (Nat.mod_mod_of_dvd _ (Nat.pow_dvd_pow _ (by omega))).symm
  have p6 : 32 ≤ 2 ^ e := by
    have h5 : (2 : Nat) ^ 5 ≤ 2 ^ e := Nat.pow_le_pow_right (by decide) he.1
    have : (2 : Nat) ^ 5 = 32 := by decide
    omega
  rw [eT] at p1
  rw [eT, eL, val_words, val_words, val_words, val_words, length_words, length_words, i64_wrap (x := ((2 ^ e : Nat) : Int) - 1) (by omega) (by omega)]
  have wT : wlen (uT m B) ≤ 4 := (wlen_le _ _).2 (by rw [pow4]; exact lt256 p1 (by omega))
  have wP : wlen (2 ^ m) ≤ 4 := (wlen_le _ _).2 (by rw [pow4]; exact Nat.pow_lt_pow_right (by decide) (by omega))
  rw [decide_eq_true (show (0 : Int) ≤ 0 ∧ 0 ≤ (m : Int) ∧ (m : Int) ≤ 256 by omega), cond_true, decide_eq_true (show 0 ≤ (m : Int) ∧ 0 ≤ (e : Int) ∧ (e : Int) ≤ 256 by omega), cond_true, decide_eq_true (show 0 ≤ ((m + e : Nat) : Int) ∧ (0 : Int) ≤ 1 ∧ (1 : Int) ≤ 256 by omega), cond_true,
    decide_eq_false (show ¬ (e : Int) < 0 by omega), cond_false, cond_false, decide_eq_true (show 0 ≤ ((m - 1 : Nat) : Int) ∧ (0 : Int) ≤ 1 ∧ (1 : Int) ≤ 256 by omega), cond_true, decide_eq_true (show (0 : Int) ≤ 0 ∧ 0 ≤ ((m - 1 : Nat) : Int) ∧ ((m - 1 : Nat) : Int) ≤ 256 by omega), cond_true,
    decide_eq_true (show 0 ≤ (m : Int) ∧ (m : Int) ≤ 100000 by omega), cond_true, decide_eq_true (show wlen (uT m B) ≤ 549755813888 ∧ wlen (2 ^ m) ≤ 549755813888 by omega), cond_true]
  unfold uC uQ uE uF
  by_cases hN : uX m e B < 2 ^ e - 1
  · have hN' : uN m e B = true := decide_eq_true hN
    rw [hN', cond_true, cond_true, cond_true, cond_true, beq_eq_false_iff_ne.2 (show ((uX m e B : Nat) : Int) ≠ ((2 ^ e : Nat) : Int) - 1 by omega), cond_false, cond_false]
    by_cases h0 : 0 < uX m e B
    · rw [beq_eq_false_iff_ne.2 (show ((uX m e B : Nat) : Int) ≠ 0 by omega), cond_false, decide_eq_true h0, cond_true, i64_wrap (x := emin - 1) (by omega) (by omega), i64_wrap (by omega) (by omega)]
      have e1 : emin - 1 + ((uX m e B : Nat) : Int) = emin + ((uX m e B - 1 : Nat) : Int) := by omega
      rw [e1]
    · rw [beq_iff_eq.2 (show ((uX m e B : Nat) : Int) = 0 by omega), cond_true, decide_eq_false h0, cond_false]
      have e1 : emin + ((uX m e B - 1 : Nat) : Int) = emin := by omega
      rw [e1]
  · have hN' : uN m e B = false := decide_eq_false hN
    rw [hN', cond_false, cond_false, cond_false, cond_false, beq_iff_eq.2 (show ((uX m e B : Nat) : Int) = ((2 ^ e : Nat) : Int) - 1 by omega), cond_true, cond_true]
    by_cases h0 : uT m B = 0
    · rw [h0, show (((wlen 0 : Nat) : Int) == 0) = true from rfl, cond_true, beq_self_eq_true, cond_true, cond_true, Nat.zero_mod]
      rfl
    · have h1 : wlen (uT m B) ≠ 0 := fun hz => h0 (by
        have := (wlen_le (uT m B) 0).1 (by omega)
        rw [Nat.pow_zero] at this
        omega)
      rw [beq_eq_false_iff_ne.2 (show ((wlen (uT m B) : Nat) : Int) ≠ 0 by omega), cond_false, beq_eq_false_iff_ne.2 h0, cond_false, cond_false]
theorem rUnpack_he : ∀ ds κ r, (∀ d ∈ ds, d.wf) → rUnpackC ds κ = some r → ∃ res, κ res = some r ∧ evFn rUnpackE Try.f24 ds = some res := fun ds κ r hw h => by
  unfold rUnpackC bUnpackC at h
  split at h
  case h_2 => cases h
  rename_i n b
  obtain ⟨hl, hx⟩ := wfR hw (xs := b) (n := 4) (by simp)
  rw [rUnpack_ev]
  by_cases h6 : 1 ≤ n ∧ n ≤ 6
  · obtain ⟨f1, f2, f3, f4, f5, f6, f7, f8, f9, f10, f11, f12⟩ := fmt h6
    rw [decide_eq_true h6, cond_true] at h
    rw [decide_eq_true h6, cond_true]
    by_cases hk : ((bitlen (val b) : Nat) : Int) ≤ widthI n
    · rw [decide_eq_true hk, cond_true] at h
      rw [decide_eq_true hk, cond_true, decide_eq_true (show 1 ≤ n ∧ n ≤ 12 by omega), cond_true]
      refine ⟨_, h, ?_⟩
      rw [i64_wrap (x := precI n - 1) (by omega) (by omega), i64_wrap (x := precI n - 1 - 1) (by omega) (by omega), f3, i64_wrap (x := precI n - 1 + (eN n : Int)) (by omega) (by omega)]
      have e1 : precI n - 1 = (mN n : Int) := by omega
      have e2 : (mN n : Int) - 1 = ((mN n - 1 : Nat) : Int) := by omega
      rw [e1, e2]
      exact vTree_eq hx hl ⟨f8, f9⟩ ⟨f10, f11⟩ (emin_le h6)
    · rw [decide_eq_false hk, cond_false] at h
      rw [decide_eq_false hk, cond_false]
      exact ⟨_, h, rfl⟩
  · rw [decide_eq_false h6, cond_false] at h
    rw [decide_eq_false h6, cond_false]
    exact ⟨_, h, rfl⟩
theorem rUnpack_fn : FnOK Try.prog 24 rUnpackC := fnOK_mk T mixed Try.func24 (by kernel_rfl) (fns := [(34, rGoodC), (54, rOfC), (55, rFieldC), (56, rNumberC), (57, rBitsC), (58, powC), (25, addC)]) (lps := []) (live := []) (out := []) (fuel := 0) (give := (fun _ => false)) ⟨rGood_fn, rOf_fn, rField_fn, rNumber_fn, rBits_fn, pow_fn, add_fn, trivial⟩ trivial rUnpack_he
end
end Go.Proofs.Ytdpcokahhleopaa.Vm
