/-
  Package nat: Div, and powers of two. No statement is proved here.
-/
import Derived.Test.YtcglfmldodhakaaCalN4
namespace Go.Proofs.Ytcglfmldodhakaa.Vm
open Go Go.Vm
noncomputable section
set_option linter.unusedVariables false
def quotC : FnC := fun ds κ => match ds with
  | [.w .u64 xs, .w .u64 ys] => cond (decide (xs.length ≤ 2000 ∧ ys.length ≤ 2000 ∧ 0 < val ys ∧ wlen (val ys) = ys.length)) (κ [(.new, .w .u64 (words (val xs / val ys))), (.new, .w .u64 (words (val xs % val ys)))]) none
  | _ => none
def quotE : Env := mkE ty [(36, nCmpC), (29, nTrimC), (87, nWordC), (32, nOfC), (88, lz64C), (89, shiftC), (90, longC), (91, nShrC)] [] [] [] 0 (fun _ => false)
theorem quot_ev (xs ys : List Int) : evFn quotE Try.f68 [.w .u64 xs, .w .u64 ys] =
    (cond (decide (cmpI (val xs) (val ys) < (0 : Int)))
     (cond (decide (xs.length ≤ 1099511627776))
      (some [(.new, .w .u64 []), (.new, .w .u64 (words (val xs)))])
      none)
     (cond ((↑ys.length : Int) == (1 : Int))
      (cond (decide ((0 : Int) ≤ (0 : Int) ∧ (0 : Int) < (↑ys.length : Int)))
       (cond (decide (0 < ys.length))
        (cond (decide (xs.length ≤ 549755813888 ∧ (0 : Int) < ys.getD 0 (0 : Int)))
         (some [(.new, .w .u64 (words (val xs / (ys.getD 0 (0 : Int)).toNat))), (.new, .w .u64 (words (↑(val xs % (ys.getD 0 (0 : Int)).toNat) : Int).toNat))])
         none)
        none)
       none)
      (cond (decide
      ((0 : Int) ≤ IntKind.i64.wrap ((↑ys.length : Int) - (1 : Int)) ∧
        IntKind.i64.wrap ((↑ys.length : Int) - (1 : Int)) < (↑ys.length : Int)))
       (cond (decide ((IntKind.i64.wrap ((↑ys.length : Int) - (1 : Int))).toNat < ys.length))
        (cond (decide
      (xs.length ≤ 549755813888 ∧
        (0 : Int) ≤
            (64 : Int) -
              (↑(bitlen (ys.getD (IntKind.i64.wrap ((↑ys.length : Int) - (1 : Int))).toNat (0 : Int)).toNat) : Int) ∧
          (64 : Int) -
              (↑(bitlen (ys.getD (IntKind.i64.wrap ((↑ys.length : Int) - (1 : Int))).toNat (0 : Int)).toNat) : Int) <
            (64 : Int)))
         (cond (decide
      (ys.length ≤ 549755813888 ∧
        (0 : Int) ≤
            (64 : Int) -
              (↑(bitlen (ys.getD (IntKind.i64.wrap ((↑ys.length : Int) - (1 : Int))).toNat (0 : Int)).toNat) : Int) ∧
          (64 : Int) -
              (↑(bitlen (ys.getD (IntKind.i64.wrap ((↑ys.length : Int) - (1 : Int))).toNat (0 : Int)).toNat) : Int) <
            (64 : Int)))
          (cond (decide
      ((words
              (val xs *
                2 ^
                  ((64 : Int) -
                      (↑(bitlen (ys.getD (IntKind.i64.wrap ((↑ys.length : Int) - (1 : Int))).toNat (0 : Int)).toNat) :
                        Int)).toNat)).length ≤
          1000000 ∧
        (words
                (val ys *
                  2 ^
                    ((64 : Int) -
                        (↑(bitlen (ys.getD (IntKind.i64.wrap ((↑ys.length : Int) - (1 : Int))).toNat (0 : Int)).toNat) :
                          Int)).toNat)).length ≤
            1000000 ∧
          2 ≤
              (words
                  (val ys *
                    2 ^
                      ((64 : Int) -
                          (↑(bitlen (ys.getD (IntKind.i64.wrap ((↑ys.length : Int) - (1 : Int))).toNat (0 : Int)).toNat) :
                            Int)).toNat)).length ∧
            wlen
                (val
                  (words
                    (val ys *
                      2 ^
                        ((64 : Int) -
                            (↑(bitlen (ys.getD (IntKind.i64.wrap ((↑ys.length : Int) - (1 : Int))).toNat (0 : Int)).toNat) :
                              Int)).toNat))) =
              (words
                  (val ys *
                    2 ^
                      ((64 : Int) -
                          (↑(bitlen (ys.getD (IntKind.i64.wrap ((↑ys.length : Int) - (1 : Int))).toNat (0 : Int)).toNat) :
                            Int)).toNat)).length))
           (cond (decide
      ((words
            (val
                (words
                  (val xs *
                    2 ^
                      ((64 : Int) -
                          (↑(bitlen (ys.getD (IntKind.i64.wrap ((↑ys.length : Int) - (1 : Int))).toNat (0 : Int)).toNat) :
                            Int)).toNat)) %
              val
                (words
                  (val ys *
                    2 ^
                      ((64 : Int) -
                          (↑(bitlen (ys.getD (IntKind.i64.wrap ((↑ys.length : Int) - (1 : Int))).toNat (0 : Int)).toNat) :
                            Int)).toNat)))).length ≤
        549755813888))
            (some [(.new, .w .u64 (words
      (val
          (words
            (val xs *
              2 ^
                ((64 : Int) -
                    (↑(bitlen (ys.getD (IntKind.i64.wrap ((↑ys.length : Int) - (1 : Int))).toNat (0 : Int)).toNat) :
                      Int)).toNat)) /
        val
          (words
            (val ys *
              2 ^
                ((64 : Int) -
                    (↑(bitlen (ys.getD (IntKind.i64.wrap ((↑ys.length : Int) - (1 : Int))).toNat (0 : Int)).toNat) :
                      Int)).toNat))))), (.new, .w .u64 (words
      (val
          (words
            (val
                (words
                  (val xs *
                    2 ^
                      ((64 : Int) -
                          (↑(bitlen (ys.getD (IntKind.i64.wrap ((↑ys.length : Int) - (1 : Int))).toNat (0 : Int)).toNat) :
                            Int)).toNat)) %
              val
                (words
                  (val ys *
                    2 ^
                      ((64 : Int) -
                          (↑(bitlen (ys.getD (IntKind.i64.wrap ((↑ys.length : Int) - (1 : Int))).toNat (0 : Int)).toNat) :
                            Int)).toNat)))) /
        2 ^
          ((64 : Int) -
              (↑(bitlen (ys.getD (IntKind.i64.wrap ((↑ys.length : Int) - (1 : Int))).toNat (0 : Int)).toNat) : Int)).toNat)))])
            none)
           none)
          none)
         none)
        none)
       none))) := by kernel_rfl
theorem quot_he : ∀ ds κ r, (∀ d ∈ ds, d.wf) → quotC ds κ = some r → ∃ res, κ res = some r ∧ evFn quotE Try.f68 ds = some res := fun ds κ r hw h => by
  unfold quotC at h
  split at h
  case h_2 => cases h
  rename_i xs ys
  replace h := cond_none h
  obtain ⟨hc, h⟩ := h
  obtain ⟨h1, h2, h3, h4⟩ := of_decide_eq_true hc
  obtain ⟨_, hx⟩ := wfW hw (xs := xs) (by simp)
  obtain ⟨_, hy⟩ := wfW hw (xs := ys) (by simp)
  refine ⟨_, h, ?_⟩
  rw [quot_ev, cmpI_neg]
  have hl0 : 0 < ys.length := by
    rcases Nat.eq_zero_or_pos ys.length with h0 | h0
    · rw [h0, wlen_eq_zero] at h4; omega
    · exact h0
  have hylt := val_lt hy
  have hxw := wlen_val hx
  by_cases hlt : val xs < val ys
  · rw [decide_eq_true hlt, cond_true, decide_eq_true (by omega), cond_true, Nat.div_eq_of_lt hlt, Nat.mod_eq_of_lt hlt]
    rfl
  · rw [decide_eq_false hlt, cond_false]
    by_cases hone : ys.length = 1
    · have e : ys.getD 0 0 = ((val ys : Nat) : Int) := by
        rw [hone, Nat.pow_one] at hylt
        rw [getD_val hy, Nat.pow_zero, Nat.div_one, Nat.mod_eq_of_lt hylt]
      rw [beq_iff_eq.2 (show (ys.length : Int) = 1 by omega), cond_true, decide_eq_true (show (0 : Int) ≤ 0 ∧ (0 : Int) < (ys.length : Int) by omega), cond_true, decide_eq_true hl0, cond_true, e, Int.toNat_natCast, Int.toNat_natCast, decide_eq_true (show xs.length ≤ 549755813888 ∧ (0 : Int) < ((val ys : Nat) : Int) by omega), cond_true]
    · rw [beq_eq_false_iff_ne.2 (show (ys.length : Int) ≠ 1 by omega), cond_false, i64_wrap (x := (ys.length : Int) - 1) (by omega) (by omega), show (ys.length : Int) - 1 = ((ys.length - 1 : Nat) : Int) by omega, Int.toNat_natCast, decide_eq_true (show (0 : Int) ≤ ((ys.length - 1 : Nat) : Int) ∧ ((ys.length - 1 : Nat) : Int) < (ys.length : Int) by omega), cond_true, decide_eq_true (show ys.length - 1 < ys.length by omega), cond_true]
      have htop : (ys.getD (ys.length - 1) 0).toNat ≠ 0 := by
        intro h0
        have hge : 18446744073709551616 ^ (ys.length - 1) ≤ val ys := by
          rcases Nat.lt_or_ge (val ys) (18446744073709551616 ^ (ys.length - 1)) with h | h
          · have := (wlen_le _ _).2 h; omega
          · exact h
        rw [getD_val hy, Int.toNat_natCast, Nat.mod_eq_of_lt] at h0
        · have := Nat.div_pos hge (pow_pos64 _); omega
        · rw [Nat.div_lt_iff_lt_mul (pow_pos64 _), ← Nat.pow_succ', show (ys.length - 1).succ = ys.length by omega]
          exact hylt
      have hb1 : bitlen (ys.getD (ys.length - 1) 0).toNat ≤ 64 := bitlen_le64 (by have := inR_at hy (ys.length - 1); omega)
      have hb0 : bitlen (ys.getD (ys.length - 1) 0).toNat ≠ 0 := fun e => htop (bitlen_zero.1 e)
      obtain ⟨S, hS⟩ : ∃ S : Nat, (64 : Int) - ((bitlen (ys.getD (ys.length - 1) 0).toNat : Nat) : Int) = (S : Int) := ⟨64 - bitlen (ys.getD (ys.length - 1) 0).toNat, by omega⟩
      have hS64 : S < 64 := by omega
      have hp := Nat.two_pow_pos S
      have w1 : wlen (val xs * 2 ^ S) ≤ 2000 + 1 := wlen_mul (by omega) (by have := wlen_two_pow S; omega)
      have w2 : wlen (val ys * 2 ^ S) ≤ 2000 + 1 := wlen_mul (by omega) (by have := wlen_two_pow S; omega)
      have w3 : wlen (val ys) ≤ wlen (val ys * 2 ^ S) := wlen_mono (Nat.le_mul_of_pos_right _ hp)
      have w4 : wlen (val xs % val ys * 2 ^ S) ≤ 2000 + 1 := Nat.le_trans (wlen_mono (Nat.mul_le_mul_right _ (Nat.mod_le _ _))) w1
      rw [hS, Int.toNat_natCast, val_words, val_words, val_words, length_words, length_words, Nat.mul_div_mul_right _ _ hp, Nat.mul_mod_mul_right, length_words, Nat.mul_div_cancel _ hp]
      rw [decide_eq_true (show xs.length ≤ 549755813888 ∧ (0 : Int) ≤ (S : Int) ∧ (S : Int) < 64 by omega), cond_true, decide_eq_true (show ys.length ≤ 549755813888 ∧ (0 : Int) ≤ (S : Int) ∧ (S : Int) < 64 by omega), cond_true, decide_eq_true (show wlen (val xs * 2 ^ S) ≤ 1000000 ∧ wlen (val ys * 2 ^ S) ≤ 1000000 ∧ 2 ≤ wlen (val ys * 2 ^ S) ∧ wlen (val ys * 2 ^ S) = wlen (val ys * 2 ^ S) by omega), cond_true,
        decide_eq_true (show wlen (val xs % val ys * 2 ^ S) ≤ 549755813888 by omega), cond_true]
theorem quot_fn : FnOK Try.prog 68 quotC := fnOK_mk T mixed Try.func68 (by kernel_rfl) (fns := [(36, nCmpC), (29, nTrimC), (87, nWordC), (32, nOfC), (88, lz64C), (89, shiftC), (90, longC), (91, nShrC)]) (lps := []) (live := []) (out := []) (fuel := 0) (give := (fun _ => false)) ⟨nCmp_fn, nTrim_fn, nWord_fn, nOf_fn, lz64_fn, shift_fn, long_fn, nShr_fn, trivial⟩ trivial quot_he
def nDivC : FnC := fun ds κ => match ds with
  | [.w .u64 xs, .w .u64 ys] => cond (decide (xs.length ≤ 549755813888 ∧ ys.length ≤ 549755813888)) (cond (decide (val ys = 0)) (κ [(.new, .w .u64 []), (.new, .w .u64 []), (.mine, .p (.int .i64 1))])
      (cond (decide (wlen (val xs) > 2000 ∨ wlen (val ys) > 2000)) (κ [(.new, .w .u64 []), (.new, .w .u64 []), (.mine, .p (.int .i64 4))])
        (κ [(.new, .w .u64 (words (val xs / val ys))), (.new, .w .u64 (words (val xs % val ys))), (.mine, .p (.int .i64 0))]))) none
  | _ => none
def nDivE : Env := mkE ty [(59, nSizeC), (68, quotC)] [] [] [] 0 (fun _ => false)
theorem nDiv_ev (xs ys : List Int) : evFn nDivE Try.f40 [.w .u64 xs, .w .u64 ys] =
    (cond (decide ((0 : Int) ≤ (↑(wlen (val xs)) : Int) ∧ (↑(wlen (val xs)) : Int) ≤ (↑xs.length : Int)))
     (cond (decide ((0 : Int) ≤ (↑(wlen (val ys)) : Int) ∧ (↑(wlen (val ys)) : Int) ≤ (↑ys.length : Int)))
      (cond ((↑((↑(wlen (val ys)) : Int).toNat - 0) : Int) == (0 : Int))
       (some [(.new, .w .u64 []), (.new, .w .u64 []), (.mine, .p (.int .i64 (1)))])
       (cond (decide ((↑((↑(wlen (val xs)) : Int).toNat - 0) : Int) > (2000 : Int)))
        (some [(.new, .w .u64 []), (.new, .w .u64 []), (.mine, .p (.int .i64 (4)))])
        (cond (decide ((↑((↑(wlen (val ys)) : Int).toNat - 0) : Int) > (2000 : Int)))
         (some [(.new, .w .u64 []), (.new, .w .u64 []), (.mine, .p (.int .i64 (4)))])
         (cond (decide (0 + ((↑(wlen (val xs)) : Int).toNat - 0) ≤ xs.length))
          (cond (decide (0 + ((↑(wlen (val ys)) : Int).toNat - 0) ≤ ys.length))
           (cond (decide
      ((List.take ((↑(wlen (val xs)) : Int).toNat - 0) (List.drop 0 xs)).length ≤ 2000 ∧
        (List.take ((↑(wlen (val ys)) : Int).toNat - 0) (List.drop 0 ys)).length ≤ 2000 ∧
          0 < val (List.take ((↑(wlen (val ys)) : Int).toNat - 0) (List.drop 0 ys)) ∧
            wlen (val (List.take ((↑(wlen (val ys)) : Int).toNat - 0) (List.drop 0 ys))) =
              (List.take ((↑(wlen (val ys)) : Int).toNat - 0) (List.drop 0 ys)).length))
            (some [(.new, .w .u64 (words
      (val (List.take ((↑(wlen (val xs)) : Int).toNat - 0) (List.drop 0 xs)) /
        val (List.take ((↑(wlen (val ys)) : Int).toNat - 0) (List.drop 0 ys))))), (.new, .w .u64 (words
      (val (List.take ((↑(wlen (val xs)) : Int).toNat - 0) (List.drop 0 xs)) %
        val (List.take ((↑(wlen (val ys)) : Int).toNat - 0) (List.drop 0 ys))))), (.mine, .p (.int .i64 (0)))])
            none)
           none)
          none))))
      none)
     none) := by kernel_rfl
theorem nDiv_he : ∀ ds κ r, (∀ d ∈ ds, d.wf) → nDivC ds κ = some r → ∃ res, κ res = some r ∧ evFn nDivE Try.f40 ds = some res := fun ds κ r hw h => by
  unfold nDivC at h
  split at h
  case h_2 => cases h
  rename_i xs ys
  replace h := cond_none h
  obtain ⟨hc, h⟩ := h
  have hc := of_decide_eq_true hc
  obtain ⟨_, hx⟩ := wfW hw (xs := xs) (by simp)
  obtain ⟨_, hy⟩ := wfW hw (xs := ys) (by simp)
  have w1 := wlen_val hx
  have w2 := wlen_val hy
  rw [nDiv_ev, cut_bds hx, cond_true, cut_bds hy, cond_true, Int.toNat_natCast, Int.toNat_natCast, Nat.sub_zero, Nat.sub_zero, List.drop_zero, List.drop_zero, take_words hx, take_words hy, val_words, val_words, length_words, length_words]
  by_cases h0 : val ys = 0
  · rw [decide_eq_true h0, cond_true] at h
    rw [h0, wlen_zero, beq_iff_eq.2 (show ((0 : Nat) : Int) = 0 from rfl), cond_true]
    exact ⟨_, h, rfl⟩
  · have hw0 : wlen (val ys) ≠ 0 := fun e => h0 (wlen_eq_zero.1 e)
    rw [decide_eq_false h0, cond_false] at h
    rw [beq_eq_false_iff_ne.2 (show ((wlen (val ys) : Nat) : Int) ≠ 0 by omega), cond_false]
    by_cases h1 : wlen (val xs) > 2000
    · rw [decide_eq_true (Or.inl h1), cond_true] at h
      rw [decide_eq_true (show ((wlen (val xs) : Nat) : Int) > 2000 by omega), cond_true]
      exact ⟨_, h, rfl⟩
    · rw [decide_eq_false (show ¬ ((wlen (val xs) : Nat) : Int) > 2000 by omega), cond_false]
      by_cases h2 : wlen (val ys) > 2000
      · rw [decide_eq_true (Or.inr h2), cond_true] at h
        rw [decide_eq_true (show ((wlen (val ys) : Nat) : Int) > 2000 by omega), cond_true]
        exact ⟨_, h, rfl⟩
      · rw [decide_eq_false (fun e => e.elim h1 h2), cond_false] at h
        rw [decide_eq_false (show ¬ ((wlen (val ys) : Nat) : Int) > 2000 by omega), cond_false, decide_eq_true (show 0 + wlen (val xs) ≤ xs.length by omega), cond_true, decide_eq_true (show 0 + wlen (val ys) ≤ ys.length by omega), cond_true, decide_eq_true (show wlen (val xs) ≤ 2000 ∧ wlen (val ys) ≤ 2000 ∧ 0 < val ys ∧ wlen (val ys) = wlen (val ys) by omega), cond_true]
        exact ⟨_, h, rfl⟩
theorem nDiv_fn : FnOK Try.prog 40 nDivC := fnOK_mk T mixed Try.func40 (by kernel_rfl) (fns := [(59, nSizeC), (68, quotC)]) (lps := []) (live := []) (out := []) (fuel := 0) (give := (fun _ => false)) ⟨nSize_fn, quot_fn, trivial⟩ trivial nDiv_he
def nPowerC : FnC := fun ds κ => match ds with
  | [.p (.int .i64 b), .p (.int .i64 n)] => cond (decide (b = 2 ∧ 0 ≤ n ∧ n ≤ 12000)) (κ [(.new, .w .u64 (words (2 ^ n.toNat))), (.mine, .p (.int .i64 0))]) none
  | _ => none
def nPowerE : Env := mkE ty [(32, nOfC), (65, nShlC)] [] [] [] 0 (fun _ => false)
theorem nPower_ev (n : Int) : evFn nPowerE Try.f35 [.p (.int .i64 2), .p (.int .i64 n)] =
    (cond (decide (n < (0 : Int)))
     (some [(.new, .w .u64 []), (.mine, .p (.int .i64 (1)))])
     (cond (decide (n > (12000 : Int)))
      (some [(.new, .w .u64 []), (.mine, .p (.int .i64 (4)))])
      (cond (decide (n < (0 : Int)))
       (some [(.new, .w .u64 []), (.mine, .p (.int .i64 (1)))])
       (cond (decide
      (n.toNat / 64 > 2000 ∨
        wlen (val (words (Int.toNat (1 : Int)))) + (n.toNat + 63) / 64 > 2000))
        (some [(.new, .w .u64 []), (.mine, .p (.int .i64 (4)))])
        (some [(.new, .w .u64 (words (1 * 2 ^ n.toNat))), (.mine, .p (.int .i64 (0)))]))))) := by kernel_rfl
theorem nPower_he : ∀ ds κ r, (∀ d ∈ ds, d.wf) → nPowerC ds κ = some r → ∃ res, κ res = some r ∧ evFn nPowerE Try.f35 ds = some res := fun ds κ r hw h => by
  unfold nPowerC at h
  split at h
  case h_2 => cases h
  rename_i b n
  replace h := cond_none h
  obtain ⟨hc, h⟩ := h
  obtain ⟨rfl, h2, h3⟩ := of_decide_eq_true hc
  refine ⟨_, h, (nPower_ev n).trans ?_⟩
  have e : wlen (val (words (1 : Int).toNat)) = 1 := by rw [val_words]; decide
  rw [e, decide_eq_false (show ¬ n < 0 by omega), cond_false, cond_false, decide_eq_false (show ¬ n > 12000 by omega), cond_false, decide_eq_false (show ¬ (n.toNat / 64 > 2000 ∨ 1 + (n.toNat + 63) / 64 > 2000) by omega), cond_false, Nat.one_mul]
theorem nPower_fn : FnOK Try.prog 35 nPowerC := fnOK_mk T mixed Try.func35 (by kernel_rfl) (fns := [(32, nOfC), (65, nShlC)]) (lps := []) (live := []) (out := []) (fuel := 0) (give := (fun _ => false)) ⟨nOf_fn, nShl_fn, trivial⟩ trivial nPower_he
end
end Go.Proofs.Ytcglfmldodhakaa.Vm
