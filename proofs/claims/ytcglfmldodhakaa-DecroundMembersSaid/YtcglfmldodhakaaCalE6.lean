/-
  ref15.member, Round, Decimal, evaluated. No statement is proved here.
-/
import Derived.Test.YtcglfmldodhakaaCalE5
namespace Go.Proofs.Ytcglfmldodhakaa.Vm
open Go Go.Vm
noncomputable section
set_option linter.unusedVariables false
/-! ### member -/
def mbSt (q w : Int) : List V := lay 35 [0, 1, 2, 7] [.o (.f 0), .o (.p (.int .i64 q)), .o (.p (.int .i64 w)), .o (.a 1 0)]
def mbOut (q : Int) : List V := lay 35 [0, 1] [.o (.f 0), .o (.p (.int .i64 q))]
def mbM (o : Own) (nc : Nat) (c : List Int) (i0 : Int) (i1 : ByteArray) (i2 i3 p i5 emin emax pay : Int) (i9 : Bool) : Mem :=
  [(o, .w .u64 nc c), (.mine, .c [.int .i64 i0, .string i1, .int .i64 i2, .int .i64 i3, .int .i64 p, .int .i64 i5, .int .i64 emin, .int .i64 emax, .int .i64 pay, .bool i9])]
def mbL : LpC := lpC 35 [0, 1, 2, 7] fun vs m κ => match vs, m with
  | [.o (.f 0), .o (.p (.int .i64 q)), .o (.p (.int .i64 w)), .o (.a 1 0)], [(o, .w .u64 nc c), (.mine, .c [.int .i64 i0, .string i1, .int .i64 i2, .int .i64 i3, .int .i64 p, .int .i64 i5, .int .i64 emin, .int .i64 emax, .int .i64 pay, .bool i9])] =>
    cond (decide (c = words (val c) ∧ c.length ≤ 1000000 ∧ (-100000 ≤ q ∧ q ≤ 100000) ∧ -100000 ≤ emax ∧ emax ≤ 100000))
      (cond (decide (q < min w emax ∧ val c % 10 = 0))
        (κ (.exit 0) (mbOut (mem10 (val c) q (min w emax)).2) [(.new, .w .u64 (words (mem10 (val c) q (min w emax)).1).length (words (mem10 (val c) q (min w emax)).1))])
        (κ (.exit 0) (mbOut q) [(o, .w .u64 nc c)])) none
  | _, _ => none
def membE : Env := mkE ty [(19, overC)] [(0, mbL)] [(0, [0, 1, 2, 7])] [(0, [0, 1])] 0 (fun _ => false)
theorem mb_round (o : Own) (q w i0 i2 i3 p i5 emin emax pay : Int) (i1 : ByteArray) (i9 : Bool) (nc : Nat) (c : List Int) (f : Nat) (κ : X → List V → Mem → R) :
    lx membE Try.f73 0 (f + 1) (mbSt q w) (mbM o nc c i0 i1 i2 i3 p i5 emin emax pay i9) κ =
      cond (decide (q < w)) (cond (decide (q < emax)) (cond (decide (c.length ≤ 1000000 ∧ [(10 : Int)].length ≤ 1000000 ∧ 0 < 10))
          (cond (decide (((words (val c % 10)).length : Int) > 0)) (κ (.exit 0) (mbOut q) [(o, .w .u64 nc c)])
            (lx membE Try.f73 0 f (mbSt (IntKind.i64.wrap (q + 1)) w) (mbM .new (words (val c / 10)).length (words (val c / 10)) i0 i1 i2 i3 p i5 emin emax pay i9) κ)) none)
          (κ (.exit 0) (mbOut q) [(o, .w .u64 nc c)])) (κ (.exit 0) (mbOut q) [(o, .w .u64 nc c)]) := by kernel_rfl
theorem mb_loop (w i0 i2 i3 p i5 emin emax pay : Int) (i1 : ByteArray) (i9 : Bool) (κ : X → List V → Mem → R) (hm : -100000 ≤ emax ∧ emax ≤ 100000) : ∀ (f : Nat) (q : Int) (C : Nat), f = (min w emax - q).toNat → wlen C ≤ 1000000 → (-100000 ≤ q ∧ q ≤ 100001) →
    lx membE Try.f73 0 (f + 1) (mbSt q w) (mbM .new (words C).length (words C) i0 i1 i2 i3 p i5 emin emax pay i9) κ =
      κ (.exit 0) (mbOut (memF f C q (min w emax)).2) [(.new, .w .u64 (words (memF f C q (min w emax)).1).length (words (memF f C q (min w emax)).1))] := by
  intro f
  induction f with
  | zero =>
    intro q C hf hC hq
    rw [mb_round]
    by_cases h : q < w
    · rw [decide_eq_true h, cond_true, decide_eq_false (by omega), cond_false]
      rfl
    · rw [decide_eq_false h, cond_false]
      rfl
  | succ f ih =>
    intro q C hf hC hq
    rw [mb_round, decide_eq_true (show q < w by omega), cond_true, decide_eq_true (show q < emax by omega), cond_true, val_words, length_words, length_words, decide_eq_true ⟨hC, (by decide : 1 ≤ 1000000), (by decide : 0 < 10)⟩, cond_true]
    unfold memF
    rw [decide_eq_true (show q < min w emax by omega), cond_true]
    by_cases h : C % 10 = 0
    · rw [h, decide_eq_false (by decide), cond_false, decide_eq_true rfl, cond_true, i64_wrap (by omega) (by omega)]
      have hw : wlen (C / 10) ≤ 1000000 := Nat.le_trans (wlen_mono (Nat.div_le_self C 10)) hC
      have := ih (q + 1) (C / 10) (by omega) hw (by omega)
      rw [length_words, length_words] at this
      rw [length_words, length_words]
      exact this
    · have hw : wlen (C % 10) ≠ 0 := fun e => h (wlen_eq_zero.1 e)
      rw [decide_eq_true (by omega), cond_true, decide_eq_false h, cond_false, length_words]
theorem mbL_ok : LoopOK membE 0 (lbody Try.f73 0) mbL := loopOK_lx fun vs m κ r hv hm h => by
  split at h
  case h_2 => cases h
  rename_i q w o nc c i0 i1 i2 i3 p i5 emin emax pay i9
  replace h := cond_none h
  obtain ⟨hc, h⟩ := h
  obtain ⟨h1, h2, h3, h4, h5⟩ := of_decide_eq_true hc
  obtain ⟨hn, _, _⟩ := hm 0 _ _ rfl
  have hwl : wlen (val c) ≤ 1000000 := by rw [← length_words, ← h1]; exact h2
  by_cases hg : q < min w emax ∧ val c % 10 = 0
  · rw [decide_eq_true hg, cond_true] at h
    have hw : wlen (val c / 10) ≤ 1000000 := Nat.le_trans (wlen_mono (Nat.div_le_self (val c) 10)) hwl
    have key := mb_loop w i0 i2 i3 p i5 emin emax pay i1 i9 κ ⟨h4, h5⟩ (min w emax - (q + 1)).toNat (q + 1) (val c / 10) rfl hw (by omega)
    have e : memF (min w emax - (q + 1)).toNat (val c / 10) (q + 1) (min w emax) = mem10 (val c) q (min w emax) := by
      unfold mem10
      rw [show (min w emax - q).toNat = (min w emax - (q + 1)).toNat + 1 by omega]
      conv => rhs; unfold memF
      rw [decide_eq_true hg.1, cond_true, decide_eq_true hg.2, cond_true]
    rw [e] at key
    refine ⟨(min w emax - (q + 1)).toNat + 1 + 1, (mb_round o q w i0 i2 i3 p i5 emin emax pay i1 i9 nc c _ κ).trans ?_⟩
    rw [decide_eq_true (show q < w by omega), cond_true, decide_eq_true (show q < emax by omega), cond_true, decide_eq_true ⟨h2, (by decide : 1 ≤ 1000000), (by decide : 0 < 10)⟩, cond_true, hg.2, decide_eq_false (by decide), cond_false, i64_wrap (by omega) (by omega)]
    exact key.trans h
  · rw [decide_eq_false hg, cond_false] at h
    refine ⟨1, (mb_round o q w i0 i2 i3 p i5 emin emax pay i1 i9 nc c 0 κ).trans ?_⟩
    by_cases g1 : q < w
    · rw [decide_eq_true g1, cond_true]
      by_cases g2 : q < emax
      · have hw : wlen (val c % 10) ≠ 0 := fun e => hg ⟨by omega, wlen_eq_zero.1 e⟩
        rw [decide_eq_true g2, cond_true, decide_eq_true ⟨h2, (by decide : 1 ≤ 1000000), (by decide : 0 < 10)⟩, cond_true, length_words, decide_eq_true (by omega), cond_true]
        exact h
      · rw [decide_eq_false g2, cond_false]
        exact h
    · rw [decide_eq_false g1, cond_false]
      exact h
def membC : FnC := evC membE Try.f73
theorem memb_fn : FnOK Try.prog 73 membC := fnOK_mk T mixed Try.func73 (by kernel_rfl) (fns := [(19, overC)]) (lps := [(0, mbL)]) (live := [(0, [0, 1, 2, 7])]) (out := [(0, [0, 1])]) (fuel := 0) (give := (fun _ => false)) ⟨over_fn, trivial⟩ ⟨mbL_ok, trivial⟩ evC_he
theorem memb_ev (q w i0 i2 i3 p i5 emin emax pay : Int) (i1 : ByteArray) (i9 : Bool) (c : List Int) : evFn membE Try.f73 [.w .u64 c, .p (.int .i64 q), .p (.int .i64 w), .g [.int .i64 i0, .string i1, .int .i64 i2, .int .i64 i3, .int .i64 p, .int .i64 i5, .int .i64 emin, .int .i64 emax, .int .i64 pay, .bool i9]] =
    cond (decide (c = words (val c) ∧ c.length ≤ 1000000 ∧ (-100000 ≤ q ∧ q ≤ 100000) ∧ -100000 ≤ emax ∧ emax ≤ 100000))
      (cond (decide (q < min w emax ∧ val c % 10 = 0)) (some [(.new, .w .u64 (words (mem10 (val c) q (min w emax)).1)), (.mine, .p (.int .i64 (mem10 (val c) q (min w emax)).2))]) (some [(.old, .w .u64 c), (.mine, .p (.int .i64 q))])) none := by kernel_rfl
def memberC : FnC := fun ds κ => match ds with
  | [.w .u64 c, .p (.int .i64 q), .p (.int .i64 w), .g [.int .i64 i0, .string i1, .int .i64 i2, .int .i64 i3, .int .i64 p, .int .i64 i5, .int .i64 emin, .int .i64 emax, .int .i64 pay, .bool i9]] =>
    cond (decide (c = words (val c) ∧ c.length ≤ 1000000 ∧ (-100000 ≤ q ∧ q ≤ 100000) ∧ -100000 ≤ emax ∧ emax ≤ 100000)) (κ [(.old, .w .u64 (words (mem10 (val c) q (min w emax)).1)), (.mine, .p (.int .i64 (mem10 (val c) q (min w emax)).2))]) none
  | _ => none
theorem mem10_not {C : Nat} {q l : Int} (h : ¬ (q < l ∧ C % 10 = 0)) : mem10 C q l = (C, q) := by
  unfold mem10
  cases hf : (l - q).toNat with
  | zero => rfl
  | succ f =>
    unfold memF
    by_cases h1 : q < l
    · rw [decide_eq_true h1, cond_true, decide_eq_false (fun h2 => h ⟨h1, h2⟩), cond_false]
    · rw [decide_eq_false h1, cond_false]
theorem member_fn : FnOK Try.prog 73 memberC := fnOK_weak memb_fn fun ds κ r hw h => by
  unfold memberC at h
  split at h
  case h_2 => cases h
  rename_i c q w i0 i1 i2 i3 p i5 emin emax pay i9
  replace h := cond_none h
  obtain ⟨hc, h⟩ := h
  have ev := memb_ev q w i0 i2 i3 p i5 emin emax pay i1 i9 c
  rw [hc, cond_true] at ev
  have h1 := (of_decide_eq_true hc).1
  by_cases hg : q < min w emax ∧ val c % 10 = 0
  · rw [decide_eq_true hg, cond_true] at ev
    refine ⟨_, _, h, ?_, by unfold membC evC; rw [ev]⟩
    exact ⟨rfl, .inr ⟨rfl, rfl⟩, rfl, .inl rfl, trivial⟩
  · rw [decide_eq_false hg, cond_false] at ev
    rw [mem10_not hg, ← h1] at h
    refine ⟨_, _, h, ?_, by unfold membC evC; rw [ev]⟩
    exact ⟨rfl, .inl rfl, rfl, .inl rfl, trivial⟩
/-! ### Round -/
abbrev rInC := infoInC
def out2 (C X : Int) (s : Bool) (F : List Int) (fl : Int) : R := some [(.mine, .g [.int .i64 C, .bool s, .bool false, .int .i64 X, .int .u64 (F.getD 0 0), .int .u64 (F.getD 1 0), .int .u64 (F.getD 2 0), .int .u64 (F.getD 3 0)]), (.mine, .p (.int .i64 fl))]
def rd15E : Env := mkE ty [(14, rInC), (15, rScl10C), (69, rTensC), (70, wholeC), (71, powC), (25, cmpC), (72, rFarC), (52, lessC), (21, rBitsC), (73, memberC)] [] [] [] 0 (fun k => k == 73)
def rdTail (n d : Int) (s : Bool) (w low q : Int) (c top : List Int) (ex : Bool) : R :=
  cond (decide (q > emaxI n)) (cond (farB d s) (out2 2 0 s [0, 0, 0, 0] 10)
      (cond (decide (top.length ≤ 549755813888 ∧ [(1 : Int)].length ≤ 549755813888 ∧ val [(1 : Int)] ≤ val top)) (out2 1 (emaxI n) s (wordsN 4 (val (words (val top - val [(1 : Int)])))) 10) none))
    (cond ex (cond (decide (c = words (val c) ∧ c.length ≤ 1000000 ∧ (-100000 ≤ q ∧ q ≤ 100000) ∧ -100000 ≤ emaxI n ∧ emaxI n ≤ 100000)) (out2 1 (mem10 (val c) q (min w (emaxI n))).2 s (wordsN 4 (val (words (mem10 (val c) q (min w (emaxI n))).1))) 0) none)
      (cond (decide (low < IntKind.i64.wrap (IntKind.i64.wrap (eminI n + precI n) - 1))) (out2 1 q s (wordsN 4 (val c)) 12) (out2 1 q s (wordsN 4 (val c)) 8)))
def rdV (n d : Int) (s : Bool) (w low q : Int) (c : List Int) (ex : Bool) : R :=
  cond (decide (0 ≤ precI n ∧ precI n ≤ 100000)) (cond (decide (cmpI (val c) (val (words ((10 : Int).toNat ^ (precI n).toNat))) ≥ 0))
      (cond (decide (0 ≤ IntKind.i64.wrap (precI n - 1) ∧ IntKind.i64.wrap (precI n - 1) ≤ 100000)) (rdTail n d s w low (IntKind.i64.wrap (q + 1)) (words ((10 : Int).toNat ^ (IntKind.i64.wrap (precI n - 1)).toNat)) (words ((10 : Int).toNat ^ (precI n).toNat)) ex) none)
      (rdTail n d s w low q c (words ((10 : Int).toNat ^ (precI n).toNat)) ex)) none
def rdU (n d : Int) (s : Bool) (w low q z : Int) (xs ys : List Int) : R :=
  cond (rOK10 z xs ys) (cond (decide ((words (val xs * upP 10 z)).length ≤ 1000000 ∧ (words (val ys * dnP 10 z)).length ≤ 1000000 ∧ 0 < val (words (val ys * dnP 10 z))))
      (rdV n d s w low q (words (rndF d s (val (words (val xs * upP 10 z))) (val (words (val ys * dnP 10 z))))) (exF (val (words (val xs * upP 10 z))) (val (words (val ys * dnP 10 z))))) none) none
def rdT15 (n d : Int) (s : Bool) (w : Int) (xs ys : List Int) : R :=
  cond (uOK xs ys) (rdU n d s w (flog 10 (val xs) (val ys)) (qMax n (flog 10 (val xs) (val ys))) (IntKind.i64.wrap (0 - qMax n (flog 10 (val xs) (val ys)))) xs ys) none
def cl20 (e : Int) : Int := if 20000 < (if (-20000) > e then (-20000) else e) then 20000 else (if (-20000) > e then (-20000) else e)
theorem rd15_ev (n d e w : Int) (s : Bool) (xs ys : List Int) : evFn rd15E Try.f41 [.p (.int .i64 n), .p (.int .i64 d), .p (.bool s), .w .u64 xs, .w .u64 ys, .p (.int .i64 e), .p (.int .i64 w)] =
    cond (decide (1 ≤ n ∧ n ≤ 12)) (cond ((xs.length : Int) == 0) (out2 1 (if emaxI n < (if eminI n > w then eminI n else w) then emaxI n else (if eminI n > w then eminI n else w)) s [0, 0, 0, 0] 0)
      (cond (rOK10 (cl20 e) xs ys) (rdT15 n d s w (words (val xs * upP 10 (cl20 e))) (words (val ys * dnP 10 (cl20 e)))) none)) none := by kernel_rfl
def drn2 (s : Bool) (t : Int × Int × Nat × Int) : R := out2 t.1 t.2.1 s (wordsN 4 t.2.2.1) t.2.2.2
theorem out2_zero (C X : Int) (s : Bool) (fl : Int) : out2 C X s [0, 0, 0, 0] fl = drn2 s (C, X, 0, fl) := by
  unfold drn2
  dsimp only
  rw [zeroW4]
theorem rdTail_eq {n d low q w : Int} {s ex : Bool} {C : Nat} (h7 : 7 ≤ n ∧ n ≤ 12) (hC : wlen C ≤ 1000000) (hq : -100000 ≤ q ∧ q ≤ 100000) :
    rdTail n d s w low q (words C) (words (10 ^ pN n)) ex = drn2 s (dfin n d s low q C ex w) := by
  obtain ⟨f1, f2, f3, f4, f5, f6, f7, f8, f9⟩ := fmt10 h7
  have hp := pow10_wl (pN n)
  have ht := ten_le (n := pN n) (by omega)
  unfold rdTail dfin
  rw [show val [(1 : Int)] = 1 from rfl, val_words, val_words, val_words, val_words, length_words, length_words, i64_wrap (x := eminI n + precI n) (by omega) (by omega), i64_wrap (by omega) (by omega)]
  by_cases hm : q > emaxI n
  · rw [decide_eq_true hm, cond_true, cond_true, decide_eq_true ⟨by omega, (by decide : 1 ≤ 549755813888), by omega⟩, cond_true, out2_zero]
    cases farB d s <;> rfl
  · rw [decide_eq_false hm, cond_false, cond_false]
    cases ex
    · rw [cond_false, cond_false]
      cases decide (low < eminI n + precI n - 1) <;> rfl
    · rw [cond_true, cond_true, decide_eq_true ⟨rfl, hC, hq, by omega, by omega⟩, cond_true]
      rfl
theorem rdV_eq {n d low q w : Int} {s ex : Bool} {C : Nat} (h7 : 7 ≤ n ∧ n ≤ 12) (hC : wlen C ≤ 1000000) (hq : -90000 ≤ q ∧ q ≤ 90000) :
    rdV n d s w low q (words C) ex = drn2 s (dCar n d s low q C ex w) := by
  obtain ⟨f1, f2, f3, f4, f5, f6, f7, f8, f9⟩ := fmt10 h7
  have hp := pow10_wl (pN n - 1)
  have e1 : (precI n).toNat = pN n := rfl
  have e2 : IntKind.i64.wrap (precI n - 1) = ((pN n - 1 : Nat) : Int) := by rw [i64_wrap (by omega) (by omega)]; omega
  unfold rdV dCar
  rw [decide_eq_true (show 0 ≤ precI n ∧ precI n ≤ 100000 by omega), cond_true, e1, e2, show (10 : Int).toNat = 10 from rfl, val_words, val_words, cmpI_geD]
  cases decide (C ≥ 10 ^ pN n)
  · rw [cond_false, cond_false, rdTail_eq h7 hC (by omega)]
  · rw [cond_true, cond_true, decide_eq_true (show 0 ≤ ((pN n - 1 : Nat) : Int) ∧ ((pN n - 1 : Nat) : Int) ≤ 100000 by omega), cond_true, Int.toNat_natCast, i64_wrap (x := q + 1) (by omega) (by omega), rdTail_eq h7 (by omega) (by omega)]
theorem bitlen_mul (a b : Nat) : bitlen (a * b) ≤ bitlen a + bitlen b := by
  rw [bitlen_le_iff, Nat.pow_add]
  exact Nat.mul_lt_mul'' (bitlen_lt a) (bitlen_lt b)
theorem pow10_bit (k : Nat) : bitlen (10 ^ k) ≤ 4 * k + 1 := by
  rw [bitlen_le_iff]
  have h1 : 10 ^ k ≤ 2 ^ (4 * k) := by rw [Nat.pow_mul]; exact Nat.pow_le_pow_left (by decide) k
  exact Nat.lt_of_le_of_lt h1 (Nat.pow_lt_pow_right (by decide) (by omega))
theorem rdT15_eq {n d e w : Int} {s : Bool} {A B : Nat} (h7 : 7 ≤ n ∧ n ≤ 12) (he : -20000 ≤ e ∧ e ≤ 20000) (hA : 0 < A) (hB : 0 < B) (bA : bitlen A ≤ 25600) (bB : bitlen B ≤ 25600) :
    rdT15 n d s w (words (A * upP 10 e)) (words (B * dnP 10 e)) = drn2 s (drn n d s A B e w) := by
  obtain ⟨f1, f2, f3, f4, f5, f6, f7, f8, f9⟩ := fmt10 h7
  have p1 : bitlen (upP 10 e) ≤ 4 * e.toNat + 1 := pow10_bit _
  have p2 : bitlen (dnP 10 e) ≤ 4 * (-e).toNat + 1 := pow10_bit _
  have m1 := bitlen_mul A (upP 10 e)
  have m2 := bitlen_mul B (dnP 10 e)
  have hN : 0 < A * upP 10 e := Nat.mul_pos hA (upP_pos (by decide) _)
  have hM : 0 < B * dnP 10 e := Nat.mul_pos hB (dnP_pos (by decide) _)
  have hu : uOK (words (A * upP 10 e)) (words (B * dnP 10 e)) = true := decide_eq_true (by
    rw [val_words, val_words]
    exact ⟨rfl, rfl, hN, hM, by omega, by omega⟩)
  have hl := uOK_log hu
  rw [val_words, val_words] at hl
  obtain ⟨low, hlow⟩ : ∃ low, low = flog 10 (A * upP 10 e) (B * dnP 10 e) := ⟨_, rfl⟩
  obtain ⟨q, hq⟩ : ∃ q, q = qOf n low := ⟨_, rfl⟩
  have hq' := hq
  unfold qOf at hq'
  obtain ⟨g1, g2⟩ := drn_two (n := n) (d := d) (w := w) (s := s) hA hB hlow hq
  have w1 := wlen_bit (A * upP 10 e)
  have w2 := wlen_bit (B * dnP 10 e)
  have b1 : wlen (upP 10 (-q)) ≤ 4 * (-q).toNat / 64 + 1 := pow10_wl _
  have b2 : wlen (dnP 10 (-q)) ≤ 4 * (- -q).toNat / 64 + 1 := pow10_wl _
  have c1 := wlen_mul (Nat.le_refl (wlen (A * upP 10 e))) b1
  have c2 := wlen_mul (Nat.le_refl (wlen (B * dnP 10 e))) b2
  have hy : 0 < B * dnP 10 e * dnP 10 (-q) := Nat.mul_pos hM (dnP_pos (by decide) _)
  have hc : wlen (rndF d s (A * upP 10 e * upP 10 (-q)) (B * dnP 10 e * dnP 10 (-q))) ≤ 1000000 := by
    have g1 := (rnd_bounds d s (A * upP 10 e * upP 10 (-q)) (B * dnP 10 e * dnP 10 (-q))).2.1
    have g2 := wlen_mono g1
    have g3 := wlen_succ (A * upP 10 e * upP 10 (-q) / (B * dnP 10 e * dnP 10 (-q)))
    have g4 := wlen_mono (Nat.div_le_self (A * upP 10 e * upP 10 (-q)) (B * dnP 10 e * dnP 10 (-q)))
    omega
  rw [g2]
  unfold rdT15
  rw [hu, cond_true, val_words, val_words, ← hlow, qMax_eq (by omega) (by omega), ← hq, i64_wrap (x := 0 - q) (by omega) (by omega), Int.zero_sub]
  unfold rdU
  rw [uOK_b hu (by omega), cond_true, val_words, val_words, val_words, val_words, length_words, length_words, decide_eq_true ⟨by omega, by omega, hy⟩, cond_true, rdV_eq h7 hc (by omega)]
def rd15C : FnC := fun ds κ => match ds with
  | [.p (.int .i64 n), .p (.int .i64 d), .p (.bool s), .w .u64 xs, .w .u64 ys, .p (.int .i64 e), .p (.int .i64 w)] =>
    cond (decide ((7 ≤ n ∧ n ≤ 12) ∧ xs = words (val xs) ∧ ys = words (val ys) ∧ 0 < val ys ∧ wlen (val xs) ≤ 400 ∧ wlen (val ys) ≤ 400))
      (κ [(.mine, .g (datumCells (drn n d s (val xs) (val ys) e w).1 s false (drn n d s (val xs) (val ys) e w).2.1 (wordsN 4 (drn n d s (val xs) (val ys) e w).2.2.1))), (.mine, .p (.int .i64 (drn n d s (val xs) (val ys) e w).2.2.2))]) none
  | _ => none
theorem rd15_he : ∀ ds κ r, (∀ d ∈ ds, d.wf) → rd15C ds κ = some r → ∃ res, κ res = some r ∧ evFn rd15E Try.f41 ds = some res := fun ds κ r hw h => by
  unfold rd15C at h
  split at h
  case h_2 => cases h
  rename_i n d s xs ys e w
  replace h := cond_none h
  obtain ⟨hc, h⟩ := h
  obtain ⟨h7, h2, h3, hB, wA, wB⟩ := of_decide_eq_true hc
  have lx : xs.length ≤ 400 := by rw [h2, length_words]; exact wA
  have ly : ys.length ≤ 400 := by rw [h3, length_words]; exact wB
  refine ⟨_, h, (rd15_ev n d e w s xs ys).trans ?_⟩
  have hcl : cl20 e = min (max e (-20000)) 20000 := by unfold cl20; split <;> split <;> omega
  rw [decide_eq_true (show 1 ≤ n ∧ n ≤ 12 by omega), cond_true]
  by_cases hA : val xs = 0
  · have hx0 : xs.length = 0 := by rw [h2, hA]; rfl
    rw [hx0, show (((0 : Nat) : Int) == 0) = true from rfl, cond_true, out2_zero, hA]
    unfold drn
    rw [if_pos rfl]
    have : (if emaxI n < (if eminI n > w then eminI n else w) then emaxI n else (if eminI n > w then eminI n else w)) = min (max w (eminI n)) (emaxI n) := by split <;> split <;> omega
    rw [this]
    rfl
  · have wA0 : wlen (val xs) ≠ 0 := fun e => hA (wlen_eq_zero.1 e)
    have hx0 : xs.length ≠ 0 := by rw [h2, length_words]; exact wA0
    have bA := bit_wlen wA
    have bB := bit_wlen wB
    have hr : rOK10 (cl20 e) xs ys = true := decide_eq_true ⟨by omega, h2, h3, by omega, by omega⟩
    rw [beq_eq_false_iff_ne.2 (show (xs.length : Int) ≠ 0 by omega), cond_false, hr, cond_true, hcl, rdT15_eq h7 (by omega) (by omega) hB (by omega) (by omega), drn_clamp h7 (by omega) hB (by omega) (by omega) (by decide)]
    rfl
theorem rd15_fn : FnOK Try.prog 41 rd15C := fnOK_mk T mixed Try.func41 (by kernel_rfl) (fns := [(14, rInC), (15, rScl10C), (69, rTensC), (70, wholeC), (71, powC), (25, cmpC), (72, rFarC), (52, lessC), (21, rBitsC), (73, memberC)]) (lps := []) (live := []) (out := []) (fuel := 0) (give := (fun k => k == 73)) ⟨rIn_fn, rScl10_fn, rTens_fn, whole_fn, pow_fn, cmp_fn, rFar_fn, less_fn, rBits_fn, member_fn, trivial⟩ trivial rd15_he
/-! ### Decimal -/
def rDecimC : FnC := fun ds κ => match ds with
  | [.p (.int .i64 n)] => κ [(.mine, .p (.bool (decide (7 ≤ n ∧ n ≤ 12))))]
  | _ => none
def rDecimE : Env := mkE ty [] [] [] [] 0 (fun _ => false)
theorem rDecim_ev (n : Int) : evFn rDecimE Try.f22 [.p (.int .i64 n)] = cond (decide (n ≥ 7)) (some [(.mine, .p (.bool (decide (n ≤ 12))))]) (some [(.mine, .p (.bool false))]) := by kernel_rfl
theorem rDecim_he : ∀ ds κ r, (∀ d ∈ ds, d.wf) → rDecimC ds κ = some r → ∃ res, κ res = some r ∧ evFn rDecimE Try.f22 ds = some res := fun ds κ r hw h => by
  unfold rDecimC at h
  split at h
  case h_2 => cases h
  rename_i n
  refine ⟨_, h, (rDecim_ev n).trans ?_⟩
  by_cases h1 : n ≥ 7
  · rw [decide_eq_true h1, cond_true, decide_eq_decide.2 (show n ≤ 12 ↔ 7 ≤ n ∧ n ≤ 12 by omega)]
  · rw [decide_eq_false h1, cond_false, decide_eq_false (by omega)]
theorem rDecim_fn : FnOK Try.prog 22 rDecimC := fnOK_mk T mixed Try.func22 (by kernel_rfl) (fns := []) (lps := []) (live := []) (out := []) (fuel := 0) (give := (fun _ => false)) trivial trivial rDecim_he
def rdecE : Env := mkE ty [(22, rDecimC), (12, rDirC), (23, sizeC), (42, trimC), (41, rd15C)] [] [] [] 0 (fun _ => false)
theorem rdec_ev (n d e w : Int) (s : Bool) (xs ys : List Int) : evFn rdecE Try.f11 [.p (.int .i64 n), .p (.int .i64 d), .p (.bool s), .w .u64 xs, .w .u64 ys, .p (.int .i64 e), .p (.int .i64 w)] =
    cond (!decide (7 ≤ n ∧ n ≤ 12)) (badD 1) (cond (!decide (0 ≤ d ∧ d ≤ 4)) (badD 1) (cond (((wlen (val ys) : Nat) : Int) == 0) (badD 1) (cond (decide (((wlen (val xs) : Nat) : Int) > 400)) (badD 4) (cond (decide (((wlen (val ys) : Nat) : Int) > 400)) (badD 4)
      (cond (decide (xs.length ≤ 1099511627776)) (cond (decide (ys.length ≤ 1099511627776))
        (cond (decide ((7 ≤ n ∧ n ≤ 12) ∧ words (val xs) = words (val (words (val xs))) ∧ words (val ys) = words (val (words (val ys))) ∧ 0 < val (words (val ys)) ∧ wlen (val (words (val xs))) ≤ 400 ∧ wlen (val (words (val ys))) ≤ 400))
          (drnR s (drn n d s (val (words (val xs))) (val (words (val ys))) e w)) none) none) none))))) := by kernel_rfl
theorem rdec_he : ∀ ds κ r, (∀ d ∈ ds, d.wf) → decC ds κ = some r → ∃ res, κ res = some r ∧ evFn rdecE Try.f11 ds = some res := fun ds κ r hw h => by
  unfold decC at h
  split at h
  case h_2 => cases h
  rename_i n d s xs ys e w
  replace h := cond_none h
  obtain ⟨hc, h⟩ := h
  obtain ⟨lx, ly⟩ := of_decide_eq_true hc
  rw [rdec_ev]
  by_cases h7 : 7 ≤ n ∧ n ≤ 12
  case neg =>
    rw [decide_eq_false (fun q => h7 q.1), cond_false] at h
    rw [decide_eq_false h7]
    exact ⟨_, h, rfl⟩
  rw [decide_eq_true h7, Bool.not_true, cond_false]
  by_cases hd : 0 ≤ d ∧ d ≤ 4
  case neg =>
    rw [decide_eq_false (fun q => hd q.2.1), cond_false] at h
    rw [decide_eq_false hd]
    exact ⟨_, h, rfl⟩
  rw [decide_eq_true hd, Bool.not_true, cond_false]
  by_cases hB : 0 < val ys
  case neg =>
    rw [decide_eq_false (fun q => hB q.2.2), cond_false] at h
    rw [show val ys = 0 by omega]
    exact ⟨_, h, rfl⟩
  have wB0 : wlen (val ys) ≠ 0 := fun e => by have := wlen_eq_zero.1 e; omega
  rw [decide_eq_true ⟨h7, hd, hB⟩, cond_true] at h
  rw [beq_eq_false_iff_ne.2 (show ((wlen (val ys) : Nat) : Int) ≠ 0 by omega), cond_false]
  by_cases hA4 : wlen (val xs) > 400
  · rw [decide_eq_true (.inl hA4), cond_true] at h
    rw [decide_eq_true (by omega), cond_true]
    exact ⟨_, h, rfl⟩
  rw [decide_eq_false (show ¬ ((wlen (val xs) : Nat) : Int) > 400 by omega), cond_false]
  by_cases hB4 : wlen (val ys) > 400
  · rw [decide_eq_true (.inr hB4), cond_true] at h
    rw [decide_eq_true (by omega), cond_true]
    exact ⟨_, h, rfl⟩
  rw [decide_eq_false (show ¬ ((wlen (val ys) : Nat) : Int) > 400 by omega), cond_false]
  rw [decide_eq_false (fun q => q.elim hA4 hB4), cond_false] at h
  rw [decide_eq_true (by omega), cond_true, decide_eq_true (by omega), cond_true, val_words, val_words, decide_eq_true ⟨h7, rfl, rfl, hB, by omega, by omega⟩, cond_true]
  exact ⟨_, h, rfl⟩
theorem rdec_fn : FnOK Try.prog 11 decC := fnOK_mk T mixed Try.func11 (by kernel_rfl) (fns := [(22, rDecimC), (12, rDirC), (23, sizeC), (42, trimC), (41, rd15C)]) (lps := []) (live := []) (out := []) (fuel := 0) (give := (fun _ => false)) ⟨rDecim_fn, rDir_fn, size_fn, trim_fn, rd15_fn, trivial⟩ trivial rdec_he
abbrev rdecC := decC
end
end Go.Proofs.Ytcglfmldodhakaa.Vm
