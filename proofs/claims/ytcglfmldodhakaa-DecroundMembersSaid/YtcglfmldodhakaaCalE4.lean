/-
  decround.Decimal, evaluated. No statement is proved here.
-/
import Derived.Test.YtcglfmldodhakaaCalE3
namespace Go.Vm
open Go
theorem fnOK_cutE {P : Program} {f : FuncId} {F H : List D → (List (Own × D) → R) → R} (h : FnOK P f F) (hw : ∀ ds κ r, H ds κ = some r → F ds κ = some r) : FnOK P f H := fun ds κ r hd hr => h ds κ r hd (hw ds κ r hr)
end Go.Vm
namespace Go.Proofs.Ytcglfmldodhakaa.Vm
open Go Go.Vm
noncomputable section
set_option linter.unusedVariables false
def dDecimC : FnC := fun ds κ => match ds with
  | [.p (.int .i64 n), .r .u64 4 xs] => cond (decide (1 ≤ n ∧ n ≤ 12)) (cond (baseI n == 10) (κ [(.mine, .g (infoCells n)), (.mine, .p (.bool (decide (((bitlen (val xs) : Nat) : Int) ≤ widthI n))))]) (κ [(.mine, .g (infoCells n)), (.mine, .p (.bool false))])) (κ [(.mine, .g zeroInfo), (.mine, .p (.bool false))])
  | _ => none
def dDecmE : Env := mkE ty [(56, dOfC), (57, lLen4C)] [] [] [] 0 (fun _ => false)
theorem dDecm_ev (n : Int) (xs : List Int) : evFn dDecmE Try.f28 [.p (.int .i64 n), .r .u64 4 xs] =
    cond (decide (1 ≤ n ∧ n ≤ 12)) (cond (baseI n == 10) (some [(.mine, .g (infoCells n)), (.mine, .p (.bool (decide (((bitlen (val xs) : Nat) : Int) ≤ widthI n))))]) (some [(.mine, .g (infoCells n)), (.mine, .p (.bool false))])) (some [(.mine, .g zeroInfo), (.mine, .p (.bool false))]) := by kernel_rfl
theorem dDecm_he : ∀ ds κ r, (∀ d ∈ ds, d.wf) → dDecimC ds κ = some r → ∃ res, κ res = some r ∧ evFn dDecmE Try.f28 ds = some res := fun ds κ r hw h => by
  unfold dDecimC at h
  split at h
  case h_2 => cases h
  rename_i n xs
  rw [dDecm_ev]
  cases hd : decide (1 ≤ n ∧ n ≤ 12) <;> rw [hd] at h
  · exact ⟨_, h, rfl⟩
  · cases hb : (baseI n == 10) <;> rw [hb] at h
    · exact ⟨_, h, rfl⟩
    · exact ⟨_, h, rfl⟩
theorem dDecm_fn : FnOK Try.prog 28 dDecimC := fnOK_mk T mixed Try.func28 (by kernel_rfl) (fns := [(56, dOfC), (57, lLen4C)]) (lps := []) (live := []) (out := []) (fuel := 0) (give := (fun _ => false)) ⟨dOf_fn, lLen4_fn, trivial⟩ trivial dDecm_he
abbrev dDecmC := dDecimC
/-- A quotient and a rest, of right arguments. -/
def nDivGC : FnC := fun ds κ => match ds with
  | [.w .u64 xs, .w .u64 ys] => cond (decide (xs.length ≤ 2000 ∧ ys.length ≤ 2000 ∧ 0 < val ys)) (κ [(.new, .w .u64 (words (val xs / val ys))), (.new, .w .u64 (words (val xs % val ys))), (.mine, .p (.int .i64 0))]) none
  | _ => none
theorem nDivG_fn : FnOK Try.prog 40 nDivGC := fun ds κ r hd hr => by
  refine nDiv_fn ds κ r hd ?_
  unfold nDivGC at hr
  split at hr
  case h_2 => cases hr
  rename_i xs ys
  replace hr := cond_none hr
  obtain ⟨hc, hr⟩ := hr
  obtain ⟨h1, h2, h3⟩ := of_decide_eq_true hc
  have w1 := wlen_val (wfW hd (xs := xs) (by simp)).2
  have w2 := wlen_val (wfW hd (xs := ys) (by simp)).2
  show cond _ (cond _ _ (cond _ _ _)) _ = some r
  rw [decide_eq_true (by omega), cond_true, decide_eq_false (by omega), cond_false, decide_eq_false (by omega), cond_false]
  exact hr
def nSubGC : FnC := fun ds κ => match ds with
  | [.w .u64 xs, .w .u64 ys] => cond (decide (xs.length ≤ 2000 ∧ ys.length ≤ 2000 ∧ val ys ≤ val xs)) (κ [(.new, .w .u64 (words (val xs - val ys))), (.mine, .p (.int .i64 0))]) none
  | _ => none
theorem nSubG_fn : FnOK Try.prog 38 nSubGC := fnOK_cutE nSub_fn fun ds κ r hr => by
  unfold nSubGC at hr
  split at hr
  case h_2 => cases hr
  rename_i xs ys
  replace hr := cond_none hr
  obtain ⟨hc, hr⟩ := hr
  obtain ⟨h1, h2, h3⟩ := of_decide_eq_true hc
  show cond _ (cond _ _ _) _ = some r
  rw [decide_eq_true (by omega), cond_true, decide_eq_false (by omega), cond_false]
  exact hr
def cutC : FnC := fun _ _ => none
def decSt (w low q fl : Int) (ex : Bool) : List V := lay 234 [6, 14, 17, 19, 21, 24, 25, 26, 29] [.o (.p (.int .i64 w)), .o (.a 0 0), .o (.a 1 0), .o (.p (.int .i64 low)), .o (.p (.int .i64 q)), .o (.f 2), .o (.p (.bool ex)), .o (.a 3 0), .o (.p (.int .i64 fl))]
def decOut (low q fl : Int) (ex : Bool) : List V := lay 234 [14, 17, 19, 21, 24, 25, 26, 29] [.o (.a 0 0), .o (.a 1 0), .o (.p (.int .i64 low)), .o (.p (.int .i64 q)), .o (.f 2), .o (.p (.bool ex)), .o (.a 3 0), .o (.p (.int .i64 fl))]
def decL : LpC := lpC 234 [6, 14, 17, 19, 21, 24, 25, 26, 29] fun vs m κ => match vs, m with
  | [.o (.p (.int .i64 w)), .o (.a 0 0), .o (.a 1 0), .o (.p (.int .i64 low)), .o (.p (.int .i64 q)), .o (.f 2), .o (.p (.bool ex)), .o (.a 3 0), .o (.p (.int .i64 fl))],
    [(.mine, .c R0), (.mine, .c [.int .i64 i0, .string i1, .int .i64 i2, .int .i64 i3, .int .i64 p, .int .i64 i5, .int .i64 emin, .int .i64 emax, .int .i64 pay, .bool i9]), (.new, .w .u64 nc c), (.mine, .c D)] =>
    cond (decide (c = words (val c) ∧ c.length ≤ 2000 ∧ (-100000 ≤ q ∧ q ≤ 100000) ∧ -100000 ≤ emax ∧ emax ≤ 100000))
      (cond ex
        (κ (.exit 3) (decOut low (mem10 (val c) q (min w emax)).2 fl true) [(.mine, .c R0), (.mine, .c [.int .i64 i0, .string i1, .int .i64 i2, .int .i64 i3, .int .i64 p, .int .i64 i5, .int .i64 emin, .int .i64 emax, .int .i64 pay, .bool i9]), (.new, .w .u64 (words (mem10 (val c) q (min w emax)).1).length (words (mem10 (val c) q (min w emax)).1)), (.mine, .c D)])
        (κ (.exit 3) (decOut low q fl false) [(.mine, .c R0), (.mine, .c [.int .i64 i0, .string i1, .int .i64 i2, .int .i64 i3, .int .i64 p, .int .i64 i5, .int .i64 emin, .int .i64 emax, .int .i64 pay, .bool i9]), (.new, .w .u64 nc c), (.mine, .c D)])) none
  | _, _ => none
def decE : Env := mkE ty [(28, dDecmC), (29, nTrimC), (30, fRightC), (31, sTensC), (32, nOfC), (33, sScaleC), (34, divideC), (35, nTenC), (36, nCmpC), (37, rInfC), (38, nSubGC), (39, bBitsC), (40, nDivGC)] [(3, decL)] [(3, [6, 14, 17, 19, 21, 24, 25, 26, 29])] [(3, [14, 17, 19, 21, 24, 25, 26, 29])] 0 (fun k => k == 33)
def decM (R0 D : List Value) (i0 : Int) (i1 : ByteArray) (i2 i3 p i5 emin emax pay : Int) (i9 : Bool) (nc : Nat) (c : List Int) : Mem :=
  [(.mine, .c R0), (.mine, .c [.int .i64 i0, .string i1, .int .i64 i2, .int .i64 i3, .int .i64 p, .int .i64 i5, .int .i64 emin, .int .i64 emax, .int .i64 pay, .bool i9]), (.new, .w .u64 nc c), (.mine, .c D)]
theorem dec_round (w low q fl i0 i2 i3 p i5 emin emax pay : Int) (i1 : ByteArray) (i9 ex : Bool) (nc : Nat) (c : List Int) (R0 D : List Value) (f : Nat) (κ : X → List V → Mem → R) :
    lx decE Try.f10 3 (f + 1) (decSt w low q fl ex) (decM R0 D i0 i1 i2 i3 p i5 emin emax pay i9 nc c) κ =
      cond ex (cond (decide (q < if emax < w then emax else w)) (cond (decide (c.length ≤ 2000 ∧ [(10 : Int)].length ≤ 2000 ∧ 0 < 10))
          (cond (decide (((words (val c % 10)).length : Int) > 0)) (κ (.exit 3) (decOut low q fl ex) (decM R0 D i0 i1 i2 i3 p i5 emin emax pay i9 nc c))
            (lx decE Try.f10 3 f (decSt w low (IntKind.i64.wrap (q + 1)) fl ex) (decM R0 D i0 i1 i2 i3 p i5 emin emax pay i9 (words (val c / 10)).length (words (val c / 10))) κ)) none)
          (κ (.exit 3) (decOut low q fl ex) (decM R0 D i0 i1 i2 i3 p i5 emin emax pay i9 nc c)))
        (κ (.exit 3) (decOut low q fl ex) (decM R0 D i0 i1 i2 i3 p i5 emin emax pay i9 nc c)) := by kernel_rfl
theorem dec_loop (w low fl i0 i2 i3 p i5 emin emax pay : Int) (i1 : ByteArray) (i9 : Bool) (R0 D : List Value) (κ : X → List V → Mem → R) (hm : -100000 ≤ emax ∧ emax ≤ 100000) : ∀ (f : Nat) (q : Int) (C : Nat), f = (min w emax - q).toNat → wlen C ≤ 2000 → (-100000 ≤ q ∧ q ≤ 100001) →
    lx decE Try.f10 3 (f + 1) (decSt w low q fl true) (decM R0 D i0 i1 i2 i3 p i5 emin emax pay i9 (words C).length (words C)) κ =
      κ (.exit 3) (decOut low (memF f C q (min w emax)).2 fl true) (decM R0 D i0 i1 i2 i3 p i5 emin emax pay i9 (words (memF f C q (min w emax)).1).length (words (memF f C q (min w emax)).1)) := by
  have hmin : (if emax < w then emax else w) = min w emax := by split <;> omega
  intro f
  induction f with
  | zero =>
    intro q C hf hC hq
    rw [dec_round, cond_true, hmin, decide_eq_false (by omega), cond_false]
    rfl
  | succ f ih =>
    intro q C hf hC hq
    rw [dec_round, cond_true, hmin, decide_eq_true (show q < min w emax by omega), cond_true, val_words, length_words, length_words, decide_eq_true ⟨hC, (by decide : 1 ≤ 2000), (by decide : 0 < 10)⟩, cond_true]
    unfold memF
    rw [decide_eq_true (show q < min w emax by omega), cond_true]
    by_cases h : C % 10 = 0
    · rw [h, decide_eq_false (by decide), cond_false, decide_eq_true rfl, cond_true, i64_wrap (by omega) (by omega)]
      have hw : wlen (C / 10) ≤ 2000 := Nat.le_trans (wlen_mono (Nat.div_le_self C 10)) hC
      have := ih (q + 1) (C / 10) (by omega) hw (by omega)
      rw [length_words, length_words] at this
      rw [length_words, length_words]
      exact this
    · have hw : wlen (C % 10) ≠ 0 := fun e => h (wlen_eq_zero.1 e)
      rw [decide_eq_true (by omega), cond_true, decide_eq_false h, cond_false, length_words]
theorem decL_ok : LoopOK decE 3 (lbody Try.f10 3) decL := loopOK_lx fun vs m κ r hv hm h => by
  split at h
  case h_2 => cases h
  rename_i w low q ex fl R0 i0 i1 i2 i3 p i5 emin emax pay i9 nc c D
  replace h := cond_none h
  obtain ⟨hc, h⟩ := h
  obtain ⟨h1, h2, h3, h4, h5⟩ := of_decide_eq_true hc
  obtain ⟨hn, _, _⟩ := hm 2 _ _ rfl
  cases ex
  · refine ⟨1, (dec_round w low q fl i0 i2 i3 p i5 emin emax pay i1 i9 false nc c R0 D 0 κ).trans ?_⟩
    rw [cond_false]
    exact h
  · have key := dec_loop w low fl i0 i2 i3 p i5 emin emax pay i1 i9 R0 D κ ⟨h4, h5⟩ (min w emax - q).toNat q (val c) rfl (by rw [← length_words, ← h1]; exact h2) (by omega)
    rw [← h1, hn] at key
    exact ⟨_, key.trans h⟩
/-! ### the whole -/
def outD (C X : Int) (s : Bool) (F : List Int) (fl e : Int) : R := some [(.mine, .g [.int .i64 C, .bool s, .bool false, .int .i64 X, .int .u64 (F.getD 0 0), .int .u64 (F.getD 1 0), .int .u64 (F.getD 2 0), .int .u64 (F.getD 3 0)]), (.mine, .p (.int .i64 fl)), (.mine, .p (.int .i64 e))]
def badD (e : Int) : R := some [(.mine, .g zeroDatum), (.mine, .p (.int .i64 0)), (.mine, .p (.int .i64 e))]
def decY (n : Int) (s : Bool) (w low q : Int) (c : List Int) (ex : Bool) : R :=
  cond (decide (c = words (val c) ∧ c.length ≤ 2000 ∧ (-100000 ≤ q ∧ q ≤ 100000) ∧ -100000 ≤ emaxI n ∧ emaxI n ≤ 100000))
    (cond ex (outD 1 (mem10 (val c) q (min w (emaxI n))).2 s (wordsN 4 (val (words (mem10 (val c) q (min w (emaxI n))).1))) 0 0)
      (cond (decide (low < IntKind.i64.wrap (IntKind.i64.wrap (eminI n + precI n) - 1))) (outD 1 q s (wordsN 4 (val c)) (Go.bits .or .i64 8 4) 0) (outD 1 q s (wordsN 4 (val c)) 8 0))) none
def decR (n d : Int) (s : Bool) (w low q : Int) (c lim : List Int) (ex : Bool) : R :=
  cond (decide (q > emaxI n)) (cond (decide (lim.length ≤ 2000 ∧ (words (1 : Int).toNat).length ≤ 2000 ∧ val (words (1 : Int).toNat) ≤ val lim)) (outD 1 (emaxI n) s (wordsN 4 (val (words (val lim - val (words (1 : Int).toNat))))) 10 0) none) (decY n s w low q c ex)
def decX (n d : Int) (s : Bool) (w low q : Int) (c lim : List Int) (ex : Bool) : R :=
  cond (decide (q > emaxI n)) (cond (decide (0 ≤ d ∧ d ≤ 4)) (cond (farB d s) (outD 2 0 s [0, 0, 0, 0] 10 0) (decR n d s w low q c lim ex)) none) (decR n d s w low q c lim ex)
def decV (n d : Int) (s : Bool) (w low q : Int) (c : List Int) (ex : Bool) : R :=
  cond (decide ((10 : Int) = 10 ∧ 0 ≤ precI n ∧ precI n ≤ 12000))
    (cond (decide (cmpI (val c) (val (words (10 ^ (precI n).toNat))) ≥ 0))
      (cond (decide ((10 : Int) = 10 ∧ 0 ≤ IntKind.i64.wrap (precI n - 1) ∧ IntKind.i64.wrap (precI n - 1) ≤ 12000))
        (decX n d s w low (IntKind.i64.wrap (q + 1)) (words (10 ^ (IntKind.i64.wrap (precI n - 1)).toNat)) (words (10 ^ (precI n).toNat)) ex) none)
      (decX n d s w low q c (words (10 ^ (precI n).toNat)) ex)) none
def decU (n d : Int) (s : Bool) (w low q z : Int) (xs ys : List Int) : R :=
  cond (decide ((-9500 ≤ z ∧ z ≤ 9500) ∧ xs = words (val xs) ∧ ys = words (val ys) ∧ wlen (val xs) ≤ 900 ∧ wlen (val ys) ≤ 900))
    (cond (decide (0 ≤ d ∧ d ≤ 4 ∧ (words (val xs * upP 10 z)).length ≤ 2000 ∧ (words (val ys * dnP 10 z)).length ≤ 2000 ∧ 0 < val (words (val ys * dnP 10 z))))
      (decV n d s w low q (words (rndF d s (val (words (val xs * upP 10 z))) (val (words (val ys * dnP 10 z))))) (exF (val (words (val xs * upP 10 z))) (val (words (val ys * dnP 10 z))))) none) none
def qMax (n low : Int) : Int := if IntKind.i64.wrap (IntKind.i64.wrap (low - precI n) + 1) > eminI n then IntKind.i64.wrap (IntKind.i64.wrap (low - precI n) + 1) else eminI n
def decT (n d : Int) (s : Bool) (e w low0 : Int) (xs ys : List Int) : R :=
  decU n d s w (IntKind.i64.wrap (low0 + e)) (qMax n (IntKind.i64.wrap (low0 + e))) (IntKind.i64.wrap (e - qMax n (IntKind.i64.wrap (low0 + e)))) xs ys
def cl40 (e : Int) : Int := if 1099511627776 < (if (-1099511627776) > e then (-1099511627776) else e) then 1099511627776 else (if (-1099511627776) > e then (-1099511627776) else e)
def decS (n d : Int) (s : Bool) (e w : Int) (xs ys : List Int) : R :=
  cond (tOK xs ys)
    (cond (decide (IntKind.i64.wrap (cl40 e + flog 10 (val xs) (val ys)) > IntKind.i64.wrap (emaxI n + precI n))) (decT n d s (IntKind.i64.wrap (emaxI n + precI n)) w 0 (words (1 : Int).toNat) (words (1 : Int).toNat))
      (cond (decide (IntKind.i64.wrap (cl40 e + flog 10 (val xs) (val ys)) < IntKind.i64.wrap (eminI n - 2))) (decT n d s (IntKind.i64.wrap (eminI n - 2)) w 0 (words (1 : Int).toNat) (words (1 : Int).toNat))
        (decT n d s e w (flog 10 (val xs) (val ys)) xs ys))) none
def badT (xs ys : List Int) : R := cond (decide (xs.length ≤ 1099511627776)) (cond (decide (ys.length ≤ 1099511627776)) (badD 1) none) none
theorem dec_ev (n d e w : Int) (s : Bool) (xs ys : List Int) : evFn decE Try.f10 [.p (.int .i64 n), .p (.int .i64 d), .p (.bool s), .w .u64 xs, .w .u64 ys, .p (.int .i64 e), .p (.int .i64 w)] =
    cond (decide (1 ≤ n ∧ n ≤ 12)) (cond (baseI n == 10)
        (cond (decide (xs.length ≤ 1099511627776)) (cond (decide (ys.length ≤ 1099511627776)) (cond (!decide (((0 : Nat) : Int) ≤ widthI n)) (badD 1) (cond (!decide (0 ≤ d ∧ d ≤ 4)) (badD 1) (cond (((words (val ys)).length : Int) == 0) (badD 1)
          (cond (decide (((words (val xs)).length : Int) > 400)) (badD 4) (cond (decide (((words (val ys)).length : Int) > 400)) (badD 4)
            (cond (((words (val xs)).length : Int) == 0) (outD 1 (if emaxI n < (if eminI n > w then eminI n else w) then emaxI n else (if eminI n > w then eminI n else w)) s [0, 0, 0, 0] 0 0) (decS n d s e w (words (val xs)) (words (val ys))))))))) none) none)
        (badT xs ys)) (badT xs ys) := by kernel_rfl
end
end Go.Proofs.Ytcglfmldodhakaa.Vm
