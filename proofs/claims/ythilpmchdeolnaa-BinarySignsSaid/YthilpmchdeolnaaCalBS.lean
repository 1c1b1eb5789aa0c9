/-
  The law BinarySigns, evaluated. No statement is proved here.
-/
import Derived.Test.YthilpmchdeolnaaCalBA
import Derived.Test.YthilpmchdeolnaaCalB5
namespace Go.Proofs.Ythilpmchdeolnaa.Vm
open Go Go.Vm
noncomputable section
set_option linter.unusedVariables false

/-! ### bits that differ -/
/-- How many of the lowest bits are set. -/
def pcs : Nat → Nat → Nat
  | 0, _ => 0
  | j + 1, x => pcs j x + x / 2 ^ j % 2
theorem pcs_le : ∀ (j x : Nat), pcs j x ≤ j
  | 0, _ => Nat.le_refl _
  | j + 1, x => by
    unfold pcs
    have := pcs_le j x
    have := Nat.mod_lt (x / 2 ^ j) (show 2 > 0 by decide)
    omega
def pcsN (b c : List Int) (i : Nat) : Nat := pcs 64 ((b.getD i 0).toNat ^^^ (c.getD i 0).toNat)
def signI : LpC := lpC 73 [3, 5, 7, 8, 9, 11, 12, 40, 43] fun vs m κ => match vs, m with
  | [.o (.a 0 0), .o (.a 1 0), .o (.a 2 0), .o (.p (.int .i64 er)), .o (.a 3 0), .o (.p (.int .i64 cnt)), .o (.p (.int .i64 i)), .o (.p (.int .i64 i0)), .o (.p (.int .i64 0))], [(.mine, .w .u64 4 b), (.mine, .c D), (.mine, .w .u64 4 c), (.mine, .c E)] =>
    cond (decide (0 ≤ i ∧ i < 4 ∧ 0 ≤ cnt ∧ cnt ≤ 1000)) (κ (.exit 2) (lay 73 [3, 5, 7, 8, 9, 11, 40] [.o (.a 0 0), .o (.a 1 0), .o (.a 2 0), .o (.p (.int .i64 er)), .o (.a 3 0), .o (.p (.int .i64 (cnt + (pcsN b c i.toNat : Int)))), .o (.p (.int .i64 i0))])
      [(.mine, .w .u64 4 b), (.mine, .c D), (.mine, .w .u64 4 c), (.mine, .c E)]) none
  | _, _ => none
def signO : LpC := lpC 73 [3, 5, 7, 8, 9, 11, 40] fun vs m κ => match vs, m with
  | [.o (.a 0 0), .o (.a 1 0), .o (.a 2 0), .o (.p (.int .i64 er)), .o (.a 3 0), .o (.p (.int .i64 0)), .o (.p (.int .i64 0))], [(.mine, .w .u64 4 b), (.mine, .c D), (.mine, .w .u64 4 c), (.mine, .c E)] =>
    κ (.exit 0) (lay 73 [5, 8, 9, 11] [.o (.a 0 0), .o (.p (.int .i64 er)), .o (.a 1 0), .o (.p (.int .i64 ((pcsN b c 0 + pcsN b c 1 + pcsN b c 2 + pcsN b c 3 : Nat) : Int)))]) [(.mine, .c D), (.mine, .c E)]
  | _, _ => none
def signsE : Env := mkE ty [(8, awake05C), (9, bUnpackC), (10, bPackC)] [(0, signO), (2, signI)] [(0, [3, 5, 7, 8, 9, 11, 40]), (2, [3, 5, 7, 8, 9, 11, 12, 40, 43])] [(0, [5, 8, 9, 11]), (2, [3, 5, 7, 8, 9, 11, 40])] 0 (fun _ => false)
def signSt (er cnt i i0 j : Int) : List V := lay 73 [3, 5, 7, 8, 9, 11, 12, 40, 43] [.o (.a 0 0), .o (.a 1 0), .o (.a 2 0), .o (.p (.int .i64 er)), .o (.a 3 0), .o (.p (.int .i64 cnt)), .o (.p (.int .i64 i)), .o (.p (.int .i64 i0)), .o (.p (.int .i64 j))]
theorem sign_round (er cnt i i0 j : Int) (b c : List Int) (D E : List Value) (k : Nat) (κ : X → List V → Mem → R) :
    lx signsE Try.f4 2 (k + 1) (signSt er cnt i i0 j) [(.mine, .w .u64 4 b), (.mine, .c D), (.mine, .w .u64 4 c), (.mine, .c E)] κ =
    cond (decide (j < 64)) (cond (decide (0 ≤ i ∧ i < ((4 : Nat) : Int))) (cond (decide (0 + i.toNat < 4)) (cond (decide (0 ≤ i ∧ i < ((4 : Nat) : Int))) (cond (decide (0 + i.toNat < 4)) (cond (decide (IntKind.u64.wrap j < 0)) none
      (cond (Go.bits .and .u64 (shrI .u64 (Go.bits .xor .u64 (b.getD (0 + i.toNat) 0) (c.getD (0 + i.toNat) 0)) (IntKind.u64.wrap j)) 1 == 1)
        (lx signsE Try.f4 2 k (signSt er (IntKind.i64.wrap (cnt + 1)) i i0 (IntKind.i64.wrap (j + 1))) [(.mine, .w .u64 4 b), (.mine, .c D), (.mine, .w .u64 4 c), (.mine, .c E)] κ)
        (lx signsE Try.f4 2 k (signSt er cnt i i0 (IntKind.i64.wrap (j + 1))) [(.mine, .w .u64 4 b), (.mine, .c D), (.mine, .w .u64 4 c), (.mine, .c E)] κ))) none) none) none) none)
      (κ (.exit 2) (lay 73 [3, 5, 7, 8, 9, 11, 40] [.o (.a 0 0), .o (.a 1 0), .o (.a 2 0), .o (.p (.int .i64 er)), .o (.a 3 0), .o (.p (.int .i64 cnt)), .o (.p (.int .i64 i0))]) [(.mine, .w .u64 4 b), (.mine, .c D), (.mine, .w .u64 4 c), (.mine, .c E)]) := by kernel_rfl
theorem sign_bit {x y : Int} (hx : 0 ≤ x ∧ x < 18446744073709551616) (hy : 0 ≤ y ∧ y < 18446744073709551616) (j : Nat) (hj : j < 64) :
    (Go.bits .and .u64 (shrI .u64 (Go.bits .xor .u64 x y) (j : Int)) 1 == 1) = decide ((x.toNat ^^^ y.toNat) / 2 ^ j % 2 = 1) := by
  obtain ⟨a, rfl⟩ := Int.eq_ofNat_of_zero_le hx.1
  obtain ⟨b, rfl⟩ := Int.eq_ofNat_of_zero_le hy.1
  have ha : a < 2 ^ 64 := by have e : (2 : Nat) ^ 64 = 18446744073709551616 := by decide
                             omega
  have hb : b < 2 ^ 64 := by have e : (2 : Nat) ^ 64 = 18446744073709551616 := by decide
                             omega
  have hc := Nat.xor_lt_two_pow ha hb
  have e : (2 : Nat) ^ 64 = 18446744073709551616 := by decide
  rw [u64_xor_nat a b (by omega) (by omega), Int.toNat_natCast, Int.toNat_natCast]
  generalize a ^^^ b = q at *
  have e1 : shrI .u64 (q : Int) (j : Int) = ((q / 2 ^ j : Nat) : Int) := by
    unfold shrI
    have e2 : min (j : Int).toNat IntKind.u64.bits = j := by
      have : IntKind.u64.bits = 64 := rfl
      omega
    rw [e2]
    have e3 : (2 : Int) ^ j = ((2 ^ j : Nat) : Int) := by rw [Int.natCast_pow]; rfl
    rw [e3, Int.fdiv_eq_ediv_of_nonneg _ (Int.natCast_nonneg _)]
    rfl
  have l1 : q / 2 ^ j < 18446744073709551616 := Nat.lt_of_le_of_lt (Nat.div_le_self _ _) (by omega)
  rw [e1]
  have e4 := u64_and_nat (q / 2 ^ j) 1 l1 (by decide)
  rw [Nat.and_one_is_mod] at e4
  have e5 : ((1 : Nat) : Int) = 1 := rfl
  rw [e5] at e4
  rw [e4]
  generalize q / 2 ^ j % 2 = z
  by_cases h : z = 1
  · rw [h, decide_eq_true rfl]; rfl
  · rw [decide_eq_false h, beq_eq_false_iff_ne.2 (by omega)]
theorem sign_run {b c : List Int} (hb : inR .u64 b) (hc : inR .u64 c) (er cnt i0 : Int) (i : Nat) (hi : i < 4) (h0 : 0 ≤ cnt) (h1 : cnt ≤ 1000) (D E : List Value) (κ : X → List V → Mem → R) : ∀ (k j : Nat), j + k = 64 →
    lx signsE Try.f4 2 (k + 1) (signSt er (cnt + (pcs j ((b.getD i 0).toNat ^^^ (c.getD i 0).toNat) : Int)) i i0 j) [(.mine, .w .u64 4 b), (.mine, .c D), (.mine, .w .u64 4 c), (.mine, .c E)] κ =
      κ (.exit 2) (lay 73 [3, 5, 7, 8, 9, 11, 40] [.o (.a 0 0), .o (.a 1 0), .o (.a 2 0), .o (.p (.int .i64 er)), .o (.a 3 0), .o (.p (.int .i64 (cnt + (pcsN b c i : Int)))), .o (.p (.int .i64 i0))]) [(.mine, .w .u64 4 b), (.mine, .c D), (.mine, .w .u64 4 c), (.mine, .c E)] := by
  intro k
  induction k with
  | zero =>
    intro j hj
    obtain rfl : j = 64 := by omega
    rw [sign_round, decide_eq_false (by omega), cond_false]
    rfl
  | succ k ih =>
    intro j hj
    have next := ih (j + 1) (by omega)
    have e1 : 0 + (i : Int).toNat = i := by omega
    have e2 : IntKind.i64.wrap ((j : Int) + 1) = ((j + 1 : Nat) : Int) := by rw [i64_wrap (by omega) (by omega)]; rfl
    have e3 : IntKind.u64.wrap (j : Int) = (j : Int) := u64_wrap (by omega) (by omega)
    rw [sign_round, e1, e2, e3, sign_bit (inR_at hb i) (inR_at hc i) j (by omega), decide_eq_true (show (j : Int) < 64 by omega), decide_eq_true (show (0 : Int) ≤ i ∧ (i : Int) < ((4 : Nat) : Int) by omega), decide_eq_true hi, decide_eq_false (show ¬ (j : Int) < 0 by omega),
      cond_true, cond_true, cond_true, cond_true, cond_true, cond_false]
    unfold pcs at next
    have hp := pcs_le j ((b.getD i 0).toNat ^^^ (c.getD i 0).toNat)
    generalize (b.getD i 0).toNat ^^^ (c.getD i 0).toNat = q at *
    rcases Nat.mod_two_eq_zero_or_one (q / 2 ^ j) with hq | hq
    · rw [hq, Nat.add_zero] at next
      rw [hq, decide_eq_false (by decide), cond_false]
      exact next
    · rw [hq] at next
      rw [hq, decide_eq_true rfl, cond_true, i64_wrap (by omega) (by omega)]
      have e4 : cnt + ((pcs j q + 1 : Nat) : Int) = cnt + (pcs j q : Int) + 1 := by omega
      rw [e4] at next
      exact next
theorem signI_ok : LoopOK signsE 2 (lbody Try.f4 2) signI := loopOK_lx fun vs m κ r hv hm h => by
  split at h
  case h_2 => cases h
  rename_i er cnt i i0 b D c E
  replace h := cond_none h
  obtain ⟨hg, h⟩ := h
  obtain ⟨h1, h2, h3, h4⟩ := of_decide_eq_true hg
  obtain ⟨lb, _, hb⟩ := hm 0 _ _ rfl
  obtain ⟨lc, _, hc⟩ := hm 2 _ _ rfl
  obtain ⟨i, rfl⟩ := Int.eq_ofNat_of_zero_le h1
  have key := sign_run hb hc er cnt i0 i (by omega) h3 h4 D E κ 64 0 rfl
  have e0 : cnt + (pcs 0 ((b.getD i 0).toNat ^^^ (c.getD i 0).toNat) : Int) = cnt := by show cnt + ((0 : Nat) : Int) = cnt; omega
  rw [e0] at key
  exact ⟨_, key.trans h⟩
theorem signO_ev (er : Int) (b c : List Int) (D E : List Value) (κ : X → List V → Mem → R) :
    lx signsE Try.f4 0 5 (lay 73 [3, 5, 7, 8, 9, 11, 40] [.o (.a 0 0), .o (.a 1 0), .o (.a 2 0), .o (.p (.int .i64 er)), .o (.a 3 0), .o (.p (.int .i64 0)), .o (.p (.int .i64 0))]) [(.mine, .w .u64 4 b), (.mine, .c D), (.mine, .w .u64 4 c), (.mine, .c E)] κ =
      let a0 : Int := 0 + (pcsN b c 0 : Int)
      let a1 : Int := a0 + (pcsN b c 1 : Int)
      let a2 : Int := a1 + (pcsN b c 2 : Int)
      cond (decide ((0 : Int) ≤ 1 ∧ (1 : Int) < 4 ∧ 0 ≤ a0 ∧ a0 ≤ 1000)) (cond (decide ((0 : Int) ≤ 2 ∧ (2 : Int) < 4 ∧ 0 ≤ a1 ∧ a1 ≤ 1000)) (cond (decide ((0 : Int) ≤ 3 ∧ (3 : Int) < 4 ∧ 0 ≤ a2 ∧ a2 ≤ 1000))
        (κ (.exit 0) (lay 73 [5, 8, 9, 11] [.o (.a 0 0), .o (.p (.int .i64 er)), .o (.a 1 0), .o (.p (.int .i64 (a2 + (pcsN b c 3 : Int))))]) [(.mine, .c D), (.mine, .c E)]) none) none) none := by kernel_rfl
theorem signO_ok : LoopOK signsE 0 (lbody Try.f4 0) signO := loopOK_lx fun vs m κ r hv hm h => by
  split at h
  case h_2 => cases h
  rename_i er b D c E
  refine ⟨5, ?_⟩
  rw [signO_ev]
  have h0 : pcsN b c 0 ≤ 64 := pcs_le _ _
  have h1 : pcsN b c 1 ≤ 64 := pcs_le _ _
  have h2 : pcsN b c 2 ≤ 64 := pcs_le _ _
  dsimp only
  rw [decide_eq_true (by omega), cond_true, decide_eq_true (by omega), cond_true, decide_eq_true (by omega), cond_true]
  have e : (0 : Int) + (pcsN b c 0 : Int) + (pcsN b c 1 : Int) + (pcsN b c 2 : Int) + (pcsN b c 3 : Int) = ((pcsN b c 0 + pcsN b c 1 + pcsN b c 2 + pcsN b c 3 : Nat) : Int) := by omega
  rw [e]
  exact h

/-! ### the law -/
theorem pcsN_eq {b c : List Int} (hb : inR .u64 b) (hc : inR .u64 c) (i : Nat) : pcsN b c i = pcs 64 ((val b ^^^ val c) / 2 ^ (64 * i) % 2 ^ 64) := by
  unfold pcsN
  have e : (18446744073709551616 : Nat) ^ i = 2 ^ (64 * i) := by
    have e2 : (18446744073709551616 : Nat) = 2 ^ 64 := by decide
    rw [e2, ← Nat.pow_mul]
  rw [getD_val hb i, getD_val hc i, Int.toNat_natCast, Int.toNat_natCast, e, show (18446744073709551616 : Nat) = 2 ^ 64 by decide, ← Nat.xor_mod_two_pow, ← Nat.xor_div_two_pow]
theorem one_bit : ((List.range 256).all fun k => pcs 64 (2 ^ k / 2 ^ (64 * 0) % 2 ^ 64) + pcs 64 (2 ^ k / 2 ^ (64 * 1) % 2 ^ 64) + pcs 64 (2 ^ k / 2 ^ (64 * 2) % 2 ^ 64) + pcs 64 (2 ^ k / 2 ^ (64 * 3) % 2 ^ 64) == 1) = true := by kernel_rfl
theorem xor_top {L k : Nat} (h : L < 2 ^ k) : L ^^^ (L + 2 ^ k) = 2 ^ k := by
  have h1 : (L ^^^ (L + 2 ^ k)) % 2 ^ k = 0 := by rw [Nat.xor_mod_two_pow, Nat.add_mod_right, Nat.xor_self]
  have h2 : (L ^^^ (L + 2 ^ k)) / 2 ^ k = 1 := by rw [Nat.xor_div_two_pow, Nat.add_div_right _ (Nat.two_pow_pos _), Nat.div_eq_of_lt h]; rfl
  have h3 := Nat.div_add_mod (L ^^^ (L + 2 ^ k)) (2 ^ k)
  rw [h1, h2] at h3
  omega
/-- The pattern of the datum with its sign turned. -/
theorem sign_turn {n : Int} (h : 1 ≤ n ∧ n ≤ 6) {B : Nat} (hB : B < 2 ^ (mN n + eN n + 1)) :
    B ^^^ packN (mN n) (eN n) (eminI n) (uC (mN n) (eN n) B) (!uS (mN n) (eN n) B) (uQ (mN n) (eN n) B) (uE (mN n) (eN n) (eminI n) B) (uF (mN n) (eN n) B) = 2 ^ (mN n + eN n) := by
  have h1 := pack_unpack h hB
  have ht := (tail_lt h (is_unpack h B)).1
  have hb := bias_lt h (is_unpack h B)
  have hl := add_lt_pow ht hb
  unfold packN at *
  generalize tailN (mN n) (uC (mN n) (eN n) B) (uQ (mN n) (eN n) B) (uF (mN n) (eN n) B) + biasN (mN n) (eN n) (eminI n) (uC (mN n) (eN n) B) (uE (mN n) (eN n) (eminI n) B) (uF (mN n) (eN n) B) * 2 ^ mN n = L at *
  unfold signN at *
  cases hs : uS (mN n) (eN n) B <;> rw [hs] at h1
  · rw [cond_false, Nat.add_zero] at h1
    rw [Bool.not_false, cond_true, ← h1, xor_top hl]
  · rw [cond_true] at h1
    rw [Bool.not_true, cond_false, Nat.add_zero, ← h1, Nat.xor_comm, xor_top hl]
def turnN (n : Int) (B : Nat) : Nat := packN (mN n) (eN n) (eminI n) (uC (mN n) (eN n) B) (!uS (mN n) (eN n) B) (uQ (mN n) (eN n) B) (uE (mN n) (eN n) (eminI n) B) (val (wordsN 4 (uF (mN n) (eN n) B)))
def turnD (n : Int) (B : Nat) : List Value := datumCells (uC (mN n) (eN n) B) (!uS (mN n) (eN n) B) (uQ (mN n) (eN n) B) (uE (mN n) (eN n) (eminI n) B) (wordsN 4 (uF (mN n) (eN n) B))
def turnC (b c : List Int) : Bool := ((pcsN b c 0 + pcsN b c 1 + pcsN b c 2 + pcsN b c 3 : Nat) : Int) == 1
theorem signs_ev (n : Int) (b : List Int) : evFn signsE Try.f4 [.p (.int .i64 n), .r .u64 4 b] =
    cond (decide (1 ≤ n ∧ n ≤ 6)) (cond (decide (((bitlen (val b) : Nat) : Int) ≤ widthI n))
      (cond (decide (1 ≤ n ∧ n ≤ 6))
        (cond (isN n (uC (mN n) (eN n) (val b)) (uQ (mN n) (eN n) (val b)) (uE (mN n) (eN n) (eminI n) (val b)) (val (wordsN 4 (uF (mN n) (eN n) (val b)))))
          (cond (decide (1 ≤ n ∧ n ≤ 6))
            (cond (decide (((bitlen (val (wordsN 4 (turnN n (val b)))) : Nat) : Int) ≤ widthI n))
              (cond (eqD (uDat n (val (wordsN 4 (turnN n (val b))))) (turnD n (val b))) (rb (turnC b (wordsN 4 (turnN n (val b))))) (rb false))
              (cond (eqD zeroDatum (turnD n (val b))) (rb (turnC b (wordsN 4 (turnN n (val b))))) (rb false)))
            (cond (eqD zeroDatum (turnD n (val b))) (rb (turnC b (wordsN 4 (turnN n (val b))))) (rb false)))
          (cond (decide (1 ≤ n ∧ n ≤ 6)) (cond (decide (((0 : Nat) : Int) ≤ widthI n)) (rb false) (rb false)) (rb false)))
        (cond (decide (1 ≤ n ∧ n ≤ 6)) (cond (decide (((0 : Nat) : Int) ≤ widthI n)) (rb false) (rb false)) (rb false)))
      (rb true)) (rb true) := by kernel_rfl
theorem signs_true {w : World} {vs : List Value} (n : Int) (b : List Int) (hds : all2 (DR w) [.p (.int .i64 n), .r .u64 4 b] vs) : evFn signsE Try.f4 [.p (.int .i64 n), .r .u64 4 b] = some [(.mine, .p (.bool true))] := by
  have hw := all_wf _ _ hds
  obtain ⟨bl, hb⟩ := wfR hw (xs := b) (n := 4) (by simp)
  rw [signs_ev]
  by_cases h6 : 1 ≤ n ∧ n ≤ 6
  · rw [decide_eq_true h6, cond_true, cond_true, cond_true]
    obtain ⟨f1, f2, f3, f4, f5, f6, f7, f8, f9, f10, f11, f12⟩ := fmt h6
    by_cases hk : ((bitlen (val b) : Nat) : Int) ≤ widthI n
    · rw [decide_eq_true hk, cond_true]
      have h1 : val b < 2 ^ (mN n + eN n + 1) := (bitlen_le_iff _ _).1 (by omega)
      have hu : turnN n (val b) = packN (mN n) (eN n) (eminI n) (uC (mN n) (eN n) (val b)) (!uS (mN n) (eN n) (val b)) (uQ (mN n) (eN n) (val b)) (uE (mN n) (eN n) (eminI n) (val b)) (uF (mN n) (eN n) (val b)) := by
        unfold turnN
        rw [lo4 (uF_lt (by omega))]
      obtain ⟨g1, g2, g3, g4, g5, g6⟩ := unpack_pack h6 (!uS (mN n) (eN n) (val b)) (is_unpack h6 (val b)) hu
      have hx := sign_turn h6 h1
      rw [← hu] at hx
      rw [lo4 (uF_lt (by omega)), is_unpack h6, cond_true]
      generalize hP : turnN n (val b) = P at *
      have hv : val (wordsN 4 P) = P := lo4 (lt256 g1 (by omega))
      have hl := (bitlen_le_iff P _).2 g1
      have ed : eqD (uDat n (val (wordsN 4 P))) (turnD n (val b)) = true := by
        rw [hv]
        unfold uDat turnD
        rw [g2, g3, g4, g5, g6, eqD_refl]
      have ec : turnC b (wordsN 4 P) = true := by
        unfold turnC
        rw [pcsN_eq hb (inR_wordsN _ _), pcsN_eq hb (inR_wordsN _ _), pcsN_eq hb (inR_wordsN _ _), pcsN_eq hb (inR_wordsN _ _), hv, hx]
        have := List.all_eq_true.mp one_bit (mN n + eN n) (List.mem_range.mpr (by omega))
        rw [beq_iff_eq] at this
        rw [this]
        rfl
      have dl : decide (((bitlen (val (wordsN 4 P)) : Nat) : Int) ≤ widthI n) = true := by
        rw [hv]
        exact decide_eq_true (by omega)
      rw [dl, cond_true, ed, ec]
      rfl
    · rw [decide_eq_false hk]; rfl
  · rw [decide_eq_false h6]; rfl
theorem signs_call {w : World} {ds : List D} {vs : List Value} {res : List (Own × D)} (hds : all2 (DR w) ds vs) (he : evFn signsE Try.f4 ds = some res) : CallTo Try.prog 4 w vs res := call_mk T mixed Try.func4 (by kernel_rfl) (fns := [(8, awake05C), (9, bUnpackC), (10, bPackC)]) (lps := [(0, signO), (2, signI)]) (live := [(0, [3, 5, 7, 8, 9, 11, 40]), (2, [3, 5, 7, 8, 9, 11, 12, 40, 43])]) (out := [(0, [5, 8, 9, 11]), (2, [3, 5, 7, 8, 9, 11, 40])]) (fuel := 0) (give := (fun _ => false)) ⟨awake05_fn, bUnpack_fn, bPack_fn, trivial⟩ ⟨signO_ok, signI_ok, trivial⟩ hds he
end
end Go.Proofs.Ythilpmchdeolnaa.Vm
