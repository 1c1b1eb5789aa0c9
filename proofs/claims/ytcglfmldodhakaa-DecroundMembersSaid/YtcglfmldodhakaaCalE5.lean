/-
  decround.Decimal: its contract. No statement is proved here.
-/
import Derived.Test.YtcglfmldodhakaaCalE4
namespace Go.Proofs.Ytcglfmldodhakaa.Vm
open Go Go.Vm
noncomputable section
set_option linter.unusedVariables false
def drnR (s : Bool) (t : Int × Int × Nat × Int) : R := outD t.1 t.2.1 s (wordsN 4 t.2.2.1) t.2.2.2 0
def decC : FnC := fun ds κ => match ds with
  | [.p (.int .i64 n), .p (.int .i64 d), .p (.bool s), .w .u64 xs, .w .u64 ys, .p (.int .i64 e), .p (.int .i64 w)] => cond (decide (xs.length ≤ 1000000 ∧ ys.length ≤ 1000000))
      (cond (decide ((7 ≤ n ∧ n ≤ 12) ∧ (0 ≤ d ∧ d ≤ 4) ∧ 0 < val ys)) (cond (decide (wlen (val xs) > 400 ∨ wlen (val ys) > 400)) (κ [(.mine, .g zeroDatum), (.mine, .p (.int .i64 0)), (.mine, .p (.int .i64 4))])
          (κ [(.mine, .g (datumCells (drn n d s (val xs) (val ys) e w).1 s false (drn n d s (val xs) (val ys) e w).2.1 (wordsN 4 (drn n d s (val xs) (val ys) e w).2.2.1))), (.mine, .p (.int .i64 (drn n d s (val xs) (val ys) e w).2.2.2)), (.mine, .p (.int .i64 0))]))
        (κ [(.mine, .g zeroDatum), (.mine, .p (.int .i64 0)), (.mine, .p (.int .i64 1))])) none
  | _ => none
theorem cmpI_geD (a b : Nat) : decide (cmpI a b ≥ 0) = decide (a ≥ b) := by
  have := cmpI_neg a b
  by_cases h : cmpI a b < 0
  · rw [decide_eq_true h] at this
    have := of_decide_eq_true this.symm
    rw [decide_eq_false (by omega), decide_eq_false (by omega)]
  · rw [decide_eq_false h] at this
    have := of_decide_eq_false this.symm
    rw [decide_eq_true (by omega), decide_eq_true (by omega)]
theorem decY_eq {n low q w : Int} {s ex : Bool} {C : Nat} (h7 : 7 ≤ n ∧ n ≤ 12) (hC : wlen C ≤ 2000) (hq : -100000 ≤ q ∧ q ≤ 100000) (hlow : -100000 ≤ low ∧ low ≤ 100000) :
    decY n s w low q (words C) ex = drnR s (cond ex (1, (mem10 C q (min w (emaxI n))).2, (mem10 C q (min w (emaxI n))).1, 0) (1, q, C, cond (decide (low < eminI n + precI n - 1)) 12 8)) := by
  obtain ⟨f1, f2, f3, f4, f5, f6, f7, f8, f9⟩ := fmt10 h7
  unfold decY
  rw [val_words, length_words, decide_eq_true ⟨rfl, hC, hq, by omega, by omega⟩, cond_true, val_words, i64_wrap (x := eminI n + precI n) (by omega) (by omega), i64_wrap (by omega) (by omega), show Go.bits .or .i64 8 4 = 12 by decide]
  cases ex
  · rw [cond_false, cond_false]
    cases decide (low < eminI n + precI n - 1) <;> rfl
  · rfl
theorem zeroW4 : wordsN 4 0 = [0, 0, 0, 0] := by decide
theorem outD_zero (C X : Int) (s : Bool) (fl : Int) : outD C X s [0, 0, 0, 0] fl 0 = drnR s (C, X, 0, fl) := by
  unfold drnR
  dsimp only
  rw [zeroW4]
theorem decR_eq {n d low q w : Int} {s ex : Bool} {C : Nat} (h7 : 7 ≤ n ∧ n ≤ 12) (hC : wlen C ≤ 2000) (hq : -100000 ≤ q ∧ q ≤ 100000) (hlow : -100000 ≤ low ∧ low ≤ 100000) :
    decX n d s w low q (words C) (words (10 ^ pN n)) ex = cond (decide (q > emaxI n)) (cond (decide (0 ≤ d ∧ d ≤ 4)) (drnR s (dfin n d s low q C ex w)) none) (drnR s (dfin n d s low q C ex w)) := by
  obtain ⟨f1, f2, f3, f4, f5, f6, f7, f8, f9⟩ := fmt10 h7
  have hp := pow10_wl (pN n)
  have ht := ten_le (n := pN n) (by omega)
  have h2 : wlen 1 ≤ 2000 := by decide
  unfold decX decR dfin
  rw [decY_eq h7 hC hq hlow, show (1 : Int).toNat = 1 from rfl, val_words, val_words, val_words, length_words, length_words]
  by_cases hm : q > emaxI n
  · rw [decide_eq_true hm, cond_true, cond_true, cond_true]
    congr 1
    rw [decide_eq_true (show wlen (10 ^ pN n) ≤ 2000 ∧ wlen 1 ≤ 2000 ∧ 1 ≤ 10 ^ pN n by omega), cond_true, outD_zero]
    cases farB d s <;> rfl
  · rw [decide_eq_false hm, cond_false, cond_false, cond_false]
    cases ex <;> rfl
theorem decV_eq {n d low q w : Int} {s ex : Bool} {C : Nat} (h7 : 7 ≤ n ∧ n ≤ 12) (hd : 0 ≤ d ∧ d ≤ 4) (hC : wlen C ≤ 2000) (hq : -90000 ≤ q ∧ q ≤ 90000) (hlow : -100000 ≤ low ∧ low ≤ 100000) :
    decV n d s w low q (words C) ex = drnR s (dCar n d s low q C ex w) := by
  obtain ⟨f1, f2, f3, f4, f5, f6, f7, f8, f9⟩ := fmt10 h7
  have hp := pow10_wl (pN n - 1)
  have e1 : (precI n).toNat = pN n := rfl
  have e2 : IntKind.i64.wrap (precI n - 1) = ((pN n - 1 : Nat) : Int) := by rw [i64_wrap (by omega) (by omega)]; omega
  unfold decV dCar
  rw [decide_eq_true (show (10 : Int) = 10 ∧ 0 ≤ precI n ∧ precI n ≤ 12000 by omega), cond_true, e1, e2, val_words, val_words, cmpI_geD]
  cases decide (C ≥ 10 ^ pN n)
  · rw [cond_false, cond_false, decR_eq h7 hC (by omega) hlow, decide_eq_true hd, cond_true]
    cases decide (q > emaxI n) <;> rfl
  · rw [cond_true, cond_true, decide_eq_true (show (10 : Int) = 10 ∧ 0 ≤ ((pN n - 1 : Nat) : Int) ∧ ((pN n - 1 : Nat) : Int) ≤ 12000 by omega), cond_true, Int.toNat_natCast, i64_wrap (x := q + 1) (by omega) (by omega), decR_eq h7 (by omega) (by omega) hlow, decide_eq_true hd, cond_true]
    cases decide (q + 1 > emaxI n) <;> rfl
theorem wlen_succ (a : Nat) : wlen (a + 1) ≤ wlen a + 1 := by
  rw [wlen_le]
  have := lt_wlen a
  exact Nat.lt_of_le_of_lt (Nat.succ_le_of_lt this) (Nat.pow_lt_pow_right (by decide) (by omega))
theorem qMax_eq {n low : Int} (h : -1000000 ≤ low ∧ low ≤ 1000000) (hp : 0 ≤ precI n ∧ precI n ≤ 1000) : qMax n low = qOf n low := by
  unfold qMax qOf
  rw [i64_wrap (x := low - precI n) (by omega) (by omega), i64_wrap (by omega) (by omega)]
  split <;> omega
theorem decT_eq {n d e w : Int} {s : Bool} {A B : Nat} (h7 : 7 ≤ n ∧ n ≤ 12) (hd : 0 ≤ d ∧ d ≤ 4) (hA : 0 < A) (hB : 0 < B) (wA : wlen A ≤ 400) (wB : wlen B ≤ 400) (hl : -8668 ≤ flog 10 A B ∧ flog 10 A B ≤ 8667) (h1 : eminI n - 2 ≤ flog 10 A B + e) (h2 : flog 10 A B + e ≤ emaxI n + precI n) :
    decT n d s e w (flog 10 A B) (words A) (words B) = drnR s (drn n d s A B e w) := by
  obtain ⟨f1, f2, f3, f4, f5, f6, f7, f8, f9⟩ := fmt10 h7
  obtain ⟨q, hq⟩ : ∃ q, q = qOf n (flog 10 A B + e) := ⟨_, rfl⟩
  have hq' := hq
  unfold qOf at hq'
  obtain ⟨z, hz⟩ : ∃ z, z = e - q := ⟨_, rfl⟩
  have b1 : wlen (upP 10 z) ≤ 4 * z.toNat / 64 + 1 := pow10_wl _
  have b2 : wlen (dnP 10 z) ≤ 4 * (-z).toNat / 64 + 1 := pow10_wl _
  have c1 := wlen_mul wA b1
  have c2 := wlen_mul wB b2
  have hx : 0 < A * upP 10 z := Nat.mul_pos hA (upP_pos (by decide) _)
  have hy : 0 < B * dnP 10 z := Nat.mul_pos hB (dnP_pos (by decide) _)
  have hc : wlen (rndF d s (A * upP 10 z) (B * dnP 10 z)) ≤ 2000 := by
    have g1 := (rnd_bounds d s (A * upP 10 z) (B * dnP 10 z)).2.1
    have g2 := wlen_mono g1
    have g3 := wlen_succ (A * upP 10 z / (B * dnP 10 z))
    have g4 := wlen_mono (Nat.div_le_self (A * upP 10 z) (B * dnP 10 z))
    omega
  unfold decT drn
  rw [if_neg (by omega), i64_wrap (x := flog 10 A B + e) (by omega) (by omega), qMax_eq (by omega) (by omega), ← hq, i64_wrap (x := e - q) (by omega) (by omega), ← hz]
  unfold decU
  rw [val_words, val_words, decide_eq_true ⟨by omega, rfl, rfl, by omega, by omega⟩, cond_true, val_words, val_words, length_words, length_words, decide_eq_true ⟨hd.1, hd.2, by omega, by omega, hy⟩, cond_true,
    decV_eq h7 hd hc (by omega) (by omega)]
theorem flog10_one : flog 10 1 1 = 0 := flog_eq (by decide) ⟨by decide, by decide⟩
theorem bit_wlen {a k : Nat} (h : wlen a ≤ k) : bitlen a ≤ 64 * k := by
  rw [bitlen_le_iff, ← pow64]
  exact (wlen_le a k).1 h
theorem decS_eq {n d e w : Int} {s : Bool} {A B : Nat} (h7 : 7 ≤ n ∧ n ≤ 12) (hd : 0 ≤ d ∧ d ≤ 4) (he : -9223372036854775808 ≤ e ∧ e < 9223372036854775808) (hA : 0 < A) (hB : 0 < B) (wA : wlen A ≤ 400) (wB : wlen B ≤ 400) :
    decS n d s e w (words A) (words B) = drnR s (drn n d s A B e w) := by
  obtain ⟨f1, f2, f3, f4, f5, f6, f7, f8, f9⟩ := fmt10 h7
  have bl : ∀ a : Nat, wlen a ≤ 400 → bitlen a ≤ 26000 := fun a h => by
    have := bit_wlen h
    omega
  have ht : tOK (words A) (words B) = true := decide_eq_true ⟨by rw [val_words], by rw [val_words], by rw [val_words]; exact hA, by rw [val_words]; exact hB, by rw [val_words]; exact bl _ wA, by rw [val_words]; exact bl _ wB⟩
  have hl := tOK_log ht
  rw [val_words, val_words] at hl
  have ho : (words (1 : Int).toNat) = words 1 := rfl
  have one : wlen 1 ≤ 400 := by decide
  have hcl : cl40 e = min (max e (-1099511627776)) 1099511627776 := by unfold cl40; split <;> split <;> omega
  unfold decS
  rw [ht, cond_true, val_words, val_words, hcl, ho]
  rw [i64_wrap (x := _ + flog 10 A B) (by omega) (by omega), i64_wrap (x := emaxI n + precI n) (by omega) (by omega), i64_wrap (x := eminI n - 2) (by omega) (by omega)]
  by_cases t1 : min (max e (-1099511627776)) 1099511627776 + flog 10 A B > emaxI n + precI n
  · have := decT_eq (e := emaxI n + precI n) (w := w) (s := s) h7 hd (A := 1) (B := 1) (by decide) (by decide) one one (by rw [flog10_one]; decide) (by rw [flog10_one]; omega) (by rw [flog10_one]; omega)
    rw [flog10_one] at this
    rw [decide_eq_true t1, cond_true, this, drn_one_big, drn_over (by omega) (by omega)]
  · rw [decide_eq_false t1, cond_false]
    by_cases t2 : min (max e (-1099511627776)) 1099511627776 + flog 10 A B < eminI n - 2
    · have := decT_eq (e := eminI n - 2) (w := w) (s := s) h7 hd (A := 1) (B := 1) (by decide) (by decide) one one (by rw [flog10_one]; decide) (by rw [flog10_one]; omega) (by rw [flog10_one]; omega)
      rw [flog10_one] at this
      rw [decide_eq_true t2, cond_true, this, drn_one_small h7, drn_small h7 hA hB (by omega)]
    · rw [decide_eq_false t2, cond_false, decT_eq h7 hd hA hB wA wB hl (by omega) (by omega)]
theorem width10 {n : Int} (h7 : 7 ≤ n ∧ n ≤ 12) : 0 ≤ widthI n := by
  rcases (by omega : n = 7 ∨ n = 8 ∨ n = 9 ∨ n = 10 ∨ n = 11 ∨ n = 12) with rfl | rfl | rfl | rfl | rfl | rfl <;> decide
theorem base2 {n : Int} (h : 1 ≤ n ∧ n ≤ 12) (h7 : ¬ (7 ≤ n ∧ n ≤ 12)) : baseI n = 2 := (fmt (by omega)).1
theorem dec_he : ∀ ds κ r, (∀ d ∈ ds, d.wf) → decC ds κ = some r → ∃ res, κ res = some r ∧ evFn decE Try.f10 ds = some res := fun ds κ r hw h => by
  unfold decC at h
  split at h
  case h_2 => cases h
  rename_i n d s xs ys e w
  replace h := cond_none h
  obtain ⟨hc, h⟩ := h
  obtain ⟨lx, ly⟩ := of_decide_eq_true hc
  have he := wfI hw (x := e) (by simp)
  rw [dec_ev]
  have hbt : badT xs ys = badD 1 := by
    unfold badT
    rw [decide_eq_true (by omega), cond_true, decide_eq_true (by omega), cond_true]
  by_cases h7 : 7 ≤ n ∧ n ≤ 12
  case neg =>
    rw [decide_eq_false (fun q => h7 q.1), cond_false] at h
    refine ⟨_, h, ?_⟩
    rw [hbt]
    by_cases h12 : 1 ≤ n ∧ n ≤ 12
    · rw [decide_eq_true h12, cond_true, base2 h12 h7]
      rfl
    · rw [decide_eq_false h12, cond_false]
      rfl
  obtain ⟨f1, f2, f3, f4, f5, f6, f7, f8, f9⟩ := fmt10 h7
  have hwd := width10 h7
  rw [decide_eq_true (show 1 ≤ n ∧ n ≤ 12 by omega), cond_true, f1, show ((10 : Int) == 10) = true from rfl, cond_true, decide_eq_true (by omega), cond_true, decide_eq_true (by omega), cond_true, decide_eq_true (by omega), Bool.not_true, cond_false]
  by_cases hd : 0 ≤ d ∧ d ≤ 4
  case neg =>
    rw [decide_eq_false (fun q => hd q.2.1), cond_false] at h
    rw [decide_eq_false hd, Bool.not_false, cond_true]
    exact ⟨_, h, rfl⟩
  rw [decide_eq_true hd, Bool.not_true, cond_false, length_words, length_words]
  by_cases hB : 0 < val ys
  case neg =>
    rw [decide_eq_false (fun q => hB q.2.2), cond_false] at h
    rw [show val ys = 0 by omega]
    exact ⟨_, h, rfl⟩
  have wB0 : wlen (val ys) ≠ 0 := fun e => by have := wlen_eq_zero.1 e; omega
  rw [decide_eq_true ⟨h7, hd, hB⟩, cond_true] at h
  rw [beq_eq_false_iff_ne.2 (show ((wlen (val ys) : Nat) : Int) ≠ 0 by omega), cond_false]
  by_cases hA4 : wlen (val xs) > 400
  · rw [decide_eq_true (.inl hA4), cond_true] at h
    rw [decide_eq_true (by omega), cond_true]
    exact ⟨_, h, rfl⟩
  rw [decide_eq_false (show ¬ ((wlen (val xs) : Nat) : Int) > 400 by omega), cond_false]
  by_cases hB4 : wlen (val ys) > 400
  · rw [decide_eq_true (.inr hB4), cond_true] at h
    rw [decide_eq_true (by omega), cond_true]
    exact ⟨_, h, rfl⟩
  rw [decide_eq_false (show ¬ ((wlen (val ys) : Nat) : Int) > 400 by omega), cond_false]
  rw [decide_eq_false (fun q => q.elim hA4 hB4), cond_false] at h
  refine ⟨_, h, ?_⟩
  by_cases hA : val xs = 0
  · rw [hA]
    rw [show (((wlen 0 : Nat) : Int) == 0) = true from rfl, cond_true, outD_zero]
    unfold drn
    rw [if_pos rfl]
    have : (if emaxI n < (if eminI n > w then eminI n else w) then emaxI n else (if eminI n > w then eminI n else w)) = min (max w (eminI n)) (emaxI n) := by split <;> split <;> omega
    rw [this]
    rfl
  · have wA0 : wlen (val xs) ≠ 0 := fun e => hA (wlen_eq_zero.1 e)
    rw [beq_eq_false_iff_ne.2 (show ((wlen (val xs) : Nat) : Int) ≠ 0 by omega), cond_false, decS_eq h7 hd he (by omega) hB (by omega) (by omega)]
    rfl
theorem dec_fn : FnOK Try.prog 10 decC := fnOK_mk T mixed Try.func10 (by kernel_rfl) (fns := [(28, dDecmC), (29, nTrimC), (30, fRightC), (31, sTensC), (32, nOfC), (33, sScaleC), (34, divideC), (35, nTenC), (36, nCmpC), (37, rInfC), (38, nSubGC), (39, bBitsC), (40, nDivGC)]) (lps := [(3, decL)]) (live := [(3, [6, 14, 17, 19, 21, 24, 25, 26, 29])]) (out := [(3, [14, 17, 19, 21, 24, 25, 26, 29])]) (fuel := 0) (give := (fun k => k == 33)) ⟨dDecm_fn, nTrim_fn, fRight_fn, sTens_fn, nOf_fn, sScale_fn, divide_fn, nTen_fn, nCmp_fn, rInf_fn, nSubG_fn, bBits_fn, nDivG_fn, trivial⟩ ⟨decL_ok, trivial⟩ dec_he
end
end Go.Proofs.Ytcglfmldodhakaa.Vm
