/-
  shortest.Scale, below, Tens and ref09.Tens, evaluated. No statement is proved here.
-/
import Derived.Test.YtcglfmldodhakaaCalE1
import Derived.Test.YtcglfmldodhakaaCalE2
import Derived.Test.YtcglfmldodhakaaCalQE
namespace Go.Proofs.Ytcglfmldodhakaa.Vm
open Go Go.Vm
noncomputable section
set_option linter.unusedVariables false
def sScale0E : Env := mkE ty [(35, nTenC), (62, nMulC)] [] [] [] 0 (fun _ => false)
def sScale0C : FnC := evC sScale0E Try.f33
theorem sScale0_fn : FnOK Try.prog 33 sScale0C := fnOK_mk T mixed Try.func33 (by kernel_rfl) (fns := [(35, nTenC), (62, nMulC)]) (lps := []) (live := []) (out := []) (fuel := 0) (give := (fun _ => false)) ⟨nTen_fn, nMul_fn, trivial⟩ trivial evC_he
def sSclT (e : Int) (xs ys : List Int) : R :=
  let m := if IntKind.i64.wrap (0 - e) > e then IntKind.i64.wrap (0 - e) else e
  cond (decide ((10 : Int) = 10 ∧ 0 ≤ m ∧ m ≤ 12000)) (cond (decide (e ≥ 0))
      (cond (decide (xs.length ≤ 274877906944 ∧ (words (10 ^ m.toNat)).length ≤ 274877906944 ∧ wlen (val xs) + wlen (val (words (10 ^ m.toNat))) ≤ 2000)) (some [(.new, .w .u64 (words (val xs * val (words (10 ^ m.toNat))))), (.old, .w .u64 ys)]) none)
      (cond (decide (ys.length ≤ 274877906944 ∧ (words (10 ^ m.toNat)).length ≤ 274877906944 ∧ wlen (val ys) + wlen (val (words (10 ^ m.toNat))) ≤ 2000)) (some [(.old, .w .u64 xs), (.new, .w .u64 (words (val ys * val (words (10 ^ m.toNat)))))]) none)) none
theorem sScale0_ev (e : Int) (xs ys : List Int) : evFn sScale0E Try.f33 [.w .u64 xs, .w .u64 ys, .p (.int .i64 e)] = sSclT e xs ys := by kernel_rfl
theorem pow10_wl (k : Nat) : wlen (10 ^ k) ≤ 4 * k / 64 + 1 := by
  rw [wlen_le, pow64]
  have h1 : 10 ^ k ≤ 2 ^ (4 * k) := by rw [Nat.pow_mul]; exact Nat.pow_le_pow_left (by decide) k
  exact Nat.lt_of_le_of_lt h1 (Nat.pow_lt_pow_right (by decide) (by omega))
def sScaleC : FnC := fun ds κ => match ds with
  | [.w .u64 xs, .w .u64 ys, .p (.int .i64 e)] => cond (decide ((-9500 ≤ e ∧ e ≤ 9500) ∧ xs = words (val xs) ∧ ys = words (val ys) ∧ wlen (val xs) ≤ 900 ∧ wlen (val ys) ≤ 900)) (κ [(.old, .w .u64 (words (val xs * upP 10 e))), (.old, .w .u64 (words (val ys * dnP 10 e)))]) none
  | _ => none
theorem sSclT_eq {e : Int} {xs ys : List Int} (he : -9500 ≤ e ∧ e ≤ 9500) (hx : xs = words (val xs)) (hy : ys = words (val ys)) (lx : wlen (val xs) ≤ 900) (ly : wlen (val ys) ≤ 900) :
    ∃ l, sSclT e xs ys = some l ∧ weakTo l [(.old, .w .u64 (words (val xs * upP 10 e))), (.old, .w .u64 (words (val ys * dnP 10 e)))] := by
  have w : IntKind.i64.wrap (0 - e) = -e := by rw [i64_wrap (by omega) (by omega)]; omega
  have l1 : xs.length ≤ 900 := by rw [hx, length_words]; exact lx
  have l2 : ys.length ≤ 900 := by rw [hy, length_words]; exact ly
  unfold sSclT
  dsimp only
  rw [w]
  by_cases h0 : e ≥ 0
  · obtain ⟨k, rfl⟩ := Int.eq_ofNat_of_zero_le h0
    have := pow10_wl k
    rw [if_neg (by omega), decide_eq_true (by omega), cond_true, decide_eq_true h0, cond_true, length_words, Int.toNat_natCast, val_words, decide_eq_true (by omega), cond_true]
    refine ⟨_, rfl, ?_, .inr ⟨rfl, rfl⟩, ?_, .inl rfl, trivial⟩
    · unfold upP; rw [Int.toNat_natCast]
    · unfold dnP; rw [show (-(k : Int)).toNat = 0 by omega, Nat.pow_zero, Nat.mul_one, ← hy]
  · obtain ⟨k, hk⟩ : ∃ k : Nat, -e = (k : Int) := ⟨(-e).toNat, by omega⟩
    have := pow10_wl k
    rw [if_pos (by omega), hk, decide_eq_true (by omega), cond_true, decide_eq_false h0, cond_false, length_words, Int.toNat_natCast, val_words, decide_eq_true (by omega), cond_true]
    refine ⟨_, rfl, ?_, .inl rfl, ?_, .inr ⟨rfl, rfl⟩, trivial⟩
    · unfold upP; rw [show e.toNat = 0 by omega, Nat.pow_zero, Nat.mul_one, ← hx]
    · unfold dnP; rw [hk, Int.toNat_natCast]
theorem sScale_fn : FnOK Try.prog 33 sScaleC := fnOK_weak sScale0_fn fun ds κ r hw h => by
  unfold sScaleC at h
  split at h
  case h_2 => cases h
  rename_i xs ys e
  replace h := cond_none h
  obtain ⟨hc, h⟩ := h
  obtain ⟨h1, h2, h3, h4, h5⟩ := of_decide_eq_true hc
  obtain ⟨l, g1, g2⟩ := sSclT_eq h1 h2 h3 h4 h5
  refine ⟨l, _, h, g2, ?_⟩
  unfold sScale0C evC
  rw [(sScale0_ev e xs ys).trans g1]
def sBelowE : Env := mkE ty [(33, sScaleC), (36, nCmpC)] [] [] [] 0 (fun _ => false)
theorem sBelow_ev (e : Int) (xs ys : List Int) : evFn sBelowE Try.f61 [.w .u64 xs, .w .u64 ys, .p (.int .i64 e)] =
    (cond (decide
      (((-9500 : Int) ≤ IntKind.i64.wrap ((0 : Int) - e) ∧ IntKind.i64.wrap ((0 : Int) - e) ≤ (9500 : Int)) ∧
        xs = words (val xs) ∧ ys = words (val ys) ∧ wlen (val xs) ≤ 900 ∧ wlen (val ys) ≤ 900))
     (some [(.mine, .p (.bool (decide
      (cmpI (val (words (val xs * upP 10 (IntKind.i64.wrap ((0 : Int) - e)))))
          (val (words (val ys * dnP 10 (IntKind.i64.wrap ((0 : Int) - e))))) <
        (0 : Int)))))])
     none) := by kernel_rfl
theorem wlen_bit (a : Nat) : wlen a ≤ bitlen a / 64 + 1 := by
  rw [wlen_le, pow64]
  exact (bitlen_le_iff _ _).1 (by omega)
theorem tdiv_bd {t m K : Int} (hm : 0 < m) (h1 : -(m * K) ≤ t) (h2 : t ≤ m * K) : -K ≤ t.tdiv m ∧ t.tdiv m ≤ K := by
  have pos : ∀ u : Int, 0 ≤ u → u ≤ m * K → 0 ≤ u.tdiv m ∧ u.tdiv m ≤ K := fun u hu h => by
    rw [Int.tdiv_eq_ediv_of_nonneg hu]
    refine ⟨Int.ediv_nonneg hu (by omega), ?_⟩
    have := Int.ediv_le_ediv hm h
    rwa [Int.mul_ediv_cancel_left _ (by omega)] at this
  rcases Int.lt_or_le t 0 with g | g
  · have := pos (-t) (by omega) (by omega)
    rw [Int.neg_tdiv] at this
    have hK : 0 ≤ K := by omega
    omega
  · have := pos t g h2
    omega
def bOK (e : Int) (xs ys : List Int) : Bool := decide ((-9500 ≤ e ∧ e ≤ 9500) ∧ xs = words (val xs) ∧ ys = words (val ys) ∧ 0 < val xs ∧ 0 < val ys ∧ wlen (val xs) ≤ 900 ∧ wlen (val ys) ≤ 900)
def sBelowC : FnC := fun ds κ => match ds with
  | [.w .u64 xs, .w .u64 ys, .p (.int .i64 e)] => cond (bOK e xs ys) (κ [(.mine, .p (.bool (decide (flog 10 (val xs) (val ys) < e))))]) none
  | _ => none
theorem sBelow_he : ∀ ds κ r, (∀ d ∈ ds, d.wf) → sBelowC ds κ = some r → ∃ res, κ res = some r ∧ evFn sBelowE Try.f61 ds = some res := fun ds κ r hw h => by
  unfold sBelowC bOK at h
  split at h
  case h_2 => cases h
  rename_i xs ys e
  replace h := cond_none h
  obtain ⟨hc, h⟩ := h
  obtain ⟨h1, h2, h3, h4, h5, h6, h7⟩ := of_decide_eq_true hc
  refine ⟨_, h, (sBelow_ev e xs ys).trans ?_⟩
  have w : IntKind.i64.wrap (0 - e) = -e := by rw [i64_wrap (by omega) (by omega)]; omega
  rw [w, decide_eq_true ⟨by omega, h2, h3, h6, h7⟩, cond_true, val_words, val_words, cmpI_neg, upP_neg, dnP_neg, decide_eq_decide.2 (below_iff (by decide) h4 h5 e)]
theorem sBelow_fn : FnOK Try.prog 61 sBelowC := fnOK_mk T mixed Try.func61 (by kernel_rfl) (fns := [(33, sScaleC), (36, nCmpC)]) (lps := []) (live := []) (out := []) (fuel := 0) (give := (fun _ => false)) ⟨sScale_fn, nCmp_fn, trivial⟩ trivial sBelow_he
/-! ### Tens, of the program -/
def tOK (xs ys : List Int) : Bool := decide (xs = words (val xs) ∧ ys = words (val ys) ∧ 0 < val xs ∧ 0 < val ys ∧ bitlen (val xs) ≤ 26000 ∧ bitlen (val ys) ≤ 26000)
theorem tOK_b {xs ys : List Int} {e : Int} (h : tOK xs ys = true) (he : -9500 ≤ e ∧ e ≤ 9500) : bOK e xs ys = true := by
  obtain ⟨h2, h3, h4, h5, h6, h7⟩ := of_decide_eq_true h
  have l : ∀ a : Nat, bitlen a ≤ 26000 → wlen a ≤ 900 := fun a ha => by
    have := wlen_bit a
    omega
  exact decide_eq_true ⟨he, h2, h3, h4, h5, l _ h6, l _ h7⟩
theorem tOK_log {xs ys : List Int} (h : tOK xs ys = true) : -8668 ≤ flog 10 (val xs) (val ys) ∧ flog 10 (val xs) (val ys) ≤ 8667 := by
  obtain ⟨h2, h3, h4, h5, h6, h7⟩ := of_decide_eq_true h
  have := flog10_bits h4 h5
  omega
def sTenL : LpC := lpC 28 [0, 1, 5] fun vs m κ => match vs, m with
  | [.o (.f 0), .o (.f 1), .o (.p (.int .i64 e))], [(o, .w .u64 n xs), (o', .w .u64 n' ys)] => cond (tOK xs ys && decide (-9400 ≤ e ∧ e ≤ 9400))
      (κ (.exit 0) (lay 28 [0, 1, 5] [.o (.f 0), .o (.f 1), .o (.p (.int .i64 (min e (flog 10 (val xs) (val ys)))))]) [(o, .w .u64 n xs), (o', .w .u64 n' ys)]) none
  | _, _ => none
def sTenL2 : LpC := lpC 28 [0, 1, 5] fun vs m κ => match vs, m with
  | [.o (.f 0), .o (.f 1), .o (.p (.int .i64 e))], [(o, .w .u64 n xs), (o', .w .u64 n' ys)] => cond (tOK xs ys && decide (-9400 ≤ e ∧ e ≤ 9400))
      (κ (.exit 2) (lay 28 [5] [.o (.p (.int .i64 (max e (flog 10 (val xs) (val ys)))))]) []) none
  | _, _ => none
def sTensE : Env := mkE ty [(60, nLenC), (61, sBelowC)] [(0, sTenL), (2, sTenL2)] [(0, [0, 1, 5]), (2, [0, 1, 5])] [(0, [0, 1, 5]), (2, [5])] 0 (fun _ => false)
theorem sTen_round (e : Int) (o o' : Own) (n n' : Nat) (xs ys : List Int) (f : Nat) (κ : X → List V → Mem → R) :
    lx sTensE Try.f31 0 (f + 1) (lay 28 [0, 1, 5] [.o (.f 0), .o (.f 1), .o (.p (.int .i64 e))]) [(o, .w .u64 n xs), (o', .w .u64 n' ys)] κ =
      cond (bOK e xs ys) (cond (decide (flog 10 (val xs) (val ys) < e)) (lx sTensE Try.f31 0 f (lay 28 [0, 1, 5] [.o (.f 0), .o (.f 1), .o (.p (.int .i64 (IntKind.i64.wrap (e - 1))))]) [(o, .w .u64 n xs), (o', .w .u64 n' ys)] κ)
        (κ (.exit 0) (lay 28 [0, 1, 5] [.o (.f 0), .o (.f 1), .o (.p (.int .i64 e))]) [(o, .w .u64 n xs), (o', .w .u64 n' ys)])) none := by kernel_rfl
theorem sTen_round2 (e : Int) (o o' : Own) (n n' : Nat) (xs ys : List Int) (f : Nat) (κ : X → List V → Mem → R) :
    lx sTensE Try.f31 2 (f + 1) (lay 28 [0, 1, 5] [.o (.f 0), .o (.f 1), .o (.p (.int .i64 e))]) [(o, .w .u64 n xs), (o', .w .u64 n' ys)] κ =
      cond (bOK (IntKind.i64.wrap (e + 1)) xs ys) (cond (!decide (flog 10 (val xs) (val ys) < IntKind.i64.wrap (e + 1))) (lx sTensE Try.f31 2 f (lay 28 [0, 1, 5] [.o (.f 0), .o (.f 1), .o (.p (.int .i64 (IntKind.i64.wrap (e + 1))))]) [(o, .w .u64 n xs), (o', .w .u64 n' ys)] κ)
        (κ (.exit 2) (lay 28 [5] [.o (.p (.int .i64 e))]) [])) none := by kernel_rfl
theorem sTen_loop {xs ys : List Int} (h : tOK xs ys = true) (o o' : Own) (n n' : Nat) (κ : X → List V → Mem → R) : ∀ (j : Nat) (e : Int), (-9400 ≤ e ∧ e ≤ 9400) → e - flog 10 (val xs) (val ys) ≤ (j : Int) →
    lx sTensE Try.f31 0 (j + 1) (lay 28 [0, 1, 5] [.o (.f 0), .o (.f 1), .o (.p (.int .i64 e))]) [(o, .w .u64 n xs), (o', .w .u64 n' ys)] κ =
      κ (.exit 0) (lay 28 [0, 1, 5] [.o (.f 0), .o (.f 1), .o (.p (.int .i64 (min e (flog 10 (val xs) (val ys)))))]) [(o, .w .u64 n xs), (o', .w .u64 n' ys)] := by
  have hb := tOK_log h
  intro j
  induction j with
  | zero =>
    intro e he hj
    rw [sTen_round, tOK_b h (by omega), cond_true, decide_eq_false (by omega), cond_false, show min e (flog 10 (val xs) (val ys)) = e by omega]
  | succ j ih =>
    intro e he hj
    rw [sTen_round, tOK_b h (by omega), cond_true]
    by_cases hl : flog 10 (val xs) (val ys) < e
    · rw [decide_eq_true hl, cond_true, i64_wrap (by omega) (by omega), ih (e - 1) (by omega) (by omega), show min (e - 1) (flog 10 (val xs) (val ys)) = min e (flog 10 (val xs) (val ys)) by omega]
    · rw [decide_eq_false hl, cond_false, show min e (flog 10 (val xs) (val ys)) = e by omega]
theorem sTen_loop2 {xs ys : List Int} (h : tOK xs ys = true) (o o' : Own) (n n' : Nat) (κ : X → List V → Mem → R) : ∀ (j : Nat) (e : Int), (-9400 ≤ e ∧ e ≤ 9400) → flog 10 (val xs) (val ys) - e ≤ (j : Int) →
    lx sTensE Try.f31 2 (j + 1) (lay 28 [0, 1, 5] [.o (.f 0), .o (.f 1), .o (.p (.int .i64 e))]) [(o, .w .u64 n xs), (o', .w .u64 n' ys)] κ =
      κ (.exit 2) (lay 28 [5] [.o (.p (.int .i64 (max e (flog 10 (val xs) (val ys)))))]) [] := by
  have hb := tOK_log h
  intro j
  induction j with
  | zero =>
    intro e he hj
    rw [sTen_round2, i64_wrap (by omega) (by omega), tOK_b h (by omega), cond_true, decide_eq_true (by omega), Bool.not_true, cond_false, show max e (flog 10 (val xs) (val ys)) = e by omega]
  | succ j ih =>
    intro e he hj
    rw [sTen_round2, i64_wrap (by omega) (by omega), tOK_b h (by omega), cond_true]
    by_cases hl : flog 10 (val xs) (val ys) < e + 1
    · rw [decide_eq_true hl, Bool.not_true, cond_false, show max e (flog 10 (val xs) (val ys)) = e by omega]
    · rw [decide_eq_false hl, Bool.not_false, cond_true, ih (e + 1) (by omega) (by omega), show max (e + 1) (flog 10 (val xs) (val ys)) = max e (flog 10 (val xs) (val ys)) by omega]
theorem sTenL_ok : LoopOK sTensE 0 (lbody Try.f31 0) sTenL := loopOK_lx fun vs m κ r hv hm h => by
  split at h
  case h_2 => cases h
  rename_i e o n xs o' n' ys
  replace h := cond_none h
  obtain ⟨hc, h⟩ := h
  rw [Bool.and_eq_true] at hc
  exact ⟨_, (sTen_loop hc.1 o o' n n' κ (e - flog 10 (val xs) (val ys)).toNat e (of_decide_eq_true hc.2) (by omega)).trans h⟩
theorem sTenL2_ok : LoopOK sTensE 2 (lbody Try.f31 2) sTenL2 := loopOK_lx fun vs m κ r hv hm h => by
  split at h
  case h_2 => cases h
  rename_i e o n xs o' n' ys
  replace h := cond_none h
  obtain ⟨hc, h⟩ := h
  rw [Bool.and_eq_true] at hc
  exact ⟨_, (sTen_loop2 hc.1 o o' n n' κ (flog 10 (val xs) (val ys) - e).toNat e (of_decide_eq_true hc.2) (by omega)).trans h⟩
def sTensC : FnC := fun ds κ => match ds with
  | [.w .u64 xs, .w .u64 ys] => cond (tOK xs ys) (κ [(.mine, .p (.int .i64 (flog 10 (val xs) (val ys))))]) none
  | _ => none
def tenZ (c m : Int) (a b : Nat) : Int := IntKind.i64.wrap ((IntKind.i64.wrap (IntKind.i64.wrap ((a : Int) - (b : Int)) * c)).tdiv m)
theorem sTens_ev (xs ys : List Int) : evFn sTensE Try.f31 [.w .u64 xs, .w .u64 ys] =
    cond (tOK xs ys && decide (-9400 ≤ tenZ 1233 4096 (bitlen (val xs)) (bitlen (val ys)) ∧ tenZ 1233 4096 (bitlen (val xs)) (bitlen (val ys)) ≤ 9400))
      (cond (tOK xs ys && decide (-9400 ≤ min (tenZ 1233 4096 (bitlen (val xs)) (bitlen (val ys))) (flog 10 (val xs) (val ys)) ∧ min (tenZ 1233 4096 (bitlen (val xs)) (bitlen (val ys))) (flog 10 (val xs) (val ys)) ≤ 9400))
        (some [(.mine, .p (.int .i64 (max (min (tenZ 1233 4096 (bitlen (val xs)) (bitlen (val ys))) (flog 10 (val xs) (val ys))) (flog 10 (val xs) (val ys)))))]) none) none := by kernel_rfl
theorem tenZ_le {a b : Nat} {c m : Int} (ha : a ≤ 200000) (hb : b ≤ 200000) (hc : (c = 1233 ∧ m = 4096) ∨ (c = 30103 ∧ m = 100000)) : ∃ z : Int, z = tenZ c m a b ∧ ((a : Int) ≤ 26000 → (b : Int) ≤ 26000 → -9400 ≤ z ∧ z ≤ 9400) ∧ -100000 ≤ z ∧ z ≤ 100000 := by
  refine ⟨_, rfl, ?_⟩
  unfold tenZ
  rw [i64_wrap (x := (a : Int) - (b : Int)) (by omega) (by omega)]
  obtain ⟨t, ht⟩ : ∃ t : Int, t = (a : Int) - (b : Int) := ⟨_, rfl⟩
  rw [← ht]
  have h1 : -200000 ≤ t ∧ t ≤ 200000 := by omega
  have h2 : (a : Int) ≤ 26000 → (b : Int) ≤ 26000 → -26000 ≤ t ∧ t ≤ 26000 := by omega
  clear ht
  rcases hc with ⟨rfl, rfl⟩ | ⟨rfl, rfl⟩
  · have b1 := tdiv_bd (t := t * 1233) (m := 4096) (K := 100000) (by decide) (by omega) (by omega)
    have b2 := fun p q => tdiv_bd (t := t * 1233) (m := 4096) (K := 9400) (by decide) (by have := h2 p q; omega) (by have := h2 p q; omega)
    rw [i64_wrap (x := t * 1233) (by omega) (by omega), i64_wrap (by omega) (by omega)]
    exact ⟨b2, b1⟩
  · have b1 := tdiv_bd (t := t * 30103) (m := 100000) (K := 100000) (by decide) (by omega) (by omega)
    have b2 := fun p q => tdiv_bd (t := t * 30103) (m := 100000) (K := 9400) (by decide) (by have := h2 p q; omega) (by have := h2 p q; omega)
    rw [i64_wrap (x := t * 30103) (by omega) (by omega), i64_wrap (by omega) (by omega)]
    exact ⟨b2, b1⟩
theorem sTens_he : ∀ ds κ r, (∀ d ∈ ds, d.wf) → sTensC ds κ = some r → ∃ res, κ res = some r ∧ evFn sTensE Try.f31 ds = some res := fun ds κ r hw h => by
  unfold sTensC at h
  split at h
  case h_2 => cases h
  rename_i xs ys
  replace h := cond_none h
  obtain ⟨hc, h⟩ := h
  have hl := tOK_log hc
  obtain ⟨h2, h3, h4, h5, h6, h7⟩ := of_decide_eq_true hc
  refine ⟨_, h, (sTens_ev xs ys).trans ?_⟩
  obtain ⟨z, hz, hz1, _⟩ := tenZ_le (a := bitlen (val xs)) (b := bitlen (val ys)) (by omega) (by omega) (.inl ⟨rfl, rfl⟩)
  have hz1 := hz1 (by omega) (by omega)
  rw [← hz, hc, Bool.true_and, decide_eq_true hz1, cond_true, Bool.true_and, decide_eq_true (by omega), cond_true, show max (min z (flog 10 (val xs) (val ys))) (flog 10 (val xs) (val ys)) = flog 10 (val xs) (val ys) by omega]
theorem sTens_fn : FnOK Try.prog 31 sTensC := fnOK_mk T mixed Try.func31 (by kernel_rfl) (fns := [(60, nLenC), (61, sBelowC)]) (lps := [(0, sTenL), (2, sTenL2)]) (live := [(0, [0, 1, 5]), (2, [0, 1, 5])]) (out := [(0, [0, 1, 5]), (2, [5])]) (fuel := 0) (give := (fun _ => false)) ⟨nLen_fn, sBelow_fn, trivial⟩ ⟨sTenL_ok, sTenL2_ok, trivial⟩ sTens_he
/-! ### Tens, of the document -/
def rOK10 (e : Int) (xs ys : List Int) : Bool := decide ((-60000 ≤ e ∧ e ≤ 60000) ∧ xs = words (val xs) ∧ ys = words (val ys) ∧ xs.length ≤ 1000000 ∧ ys.length ≤ 1000000)
def rScl10C : FnC := fun ds κ => match ds with
  | [.w .u64 xs, .w .u64 ys, .p (.int .u64 b), .p (.int .i64 e)] => cond (b == 10 && rOK10 e xs ys) (κ [(.old, .w .u64 (words (val xs * upP 10 e))), (.old, .w .u64 (words (val ys * dnP 10 e)))]) none
  | _ => none
theorem rScl10_fn : FnOK Try.prog 15 rScl10C := fun ds κ r hd hr => by
  refine rScale_fn ds κ r hd ?_
  unfold rScl10C at hr
  split at hr
  case h_2 => cases hr
  rename_i xs ys b e
  replace hr := cond_none hr
  obtain ⟨hc, hr⟩ := hr
  rw [Bool.and_eq_true] at hc
  obtain ⟨hb, hc⟩ := hc
  obtain rfl := beq_iff_eq.1 hb
  obtain ⟨h1, h2, h3, h4, h5⟩ := of_decide_eq_true hc
  have hcl : clm 10 e = e := by
    unfold clm
    rw [show ((10 : Int) == 10) = true from rfl, cond_true]
    omega
  show cond _ _ _ = some r
  rw [decide_eq_true ⟨.inr rfl, h2, h3, h4, h5⟩, cond_true, hcl]
  exact hr
def uOK (xs ys : List Int) : Bool := decide (xs = words (val xs) ∧ ys = words (val ys) ∧ 0 < val xs ∧ 0 < val ys ∧ bitlen (val xs) ≤ 110000 ∧ bitlen (val ys) ≤ 110000)
theorem uOK_b {xs ys : List Int} {e : Int} (h : uOK xs ys = true) (he : -60000 ≤ e ∧ e ≤ 60000) : rOK10 e xs ys = true := by
  obtain ⟨h2, h3, h4, h5, h6, h7⟩ := of_decide_eq_true h
  have l : ∀ a : Nat, bitlen a ≤ 110000 → wlen a ≤ 2000 := fun a ha => by
    have := wlen_bit a
    omega
  have l1 : xs.length ≤ 2000 := by rw [h2, length_words]; exact l _ h6
  have l2 : ys.length ≤ 2000 := by rw [h3, length_words]; exact l _ h7
  exact decide_eq_true ⟨he, h2, h3, by omega, by omega⟩
theorem uOK_log {xs ys : List Int} (h : uOK xs ys = true) : -36668 ≤ flog 10 (val xs) (val ys) ∧ flog 10 (val xs) (val ys) ≤ 36667 := by
  obtain ⟨h2, h3, h4, h5, h6, h7⟩ := of_decide_eq_true h
  have := flog10_bits h4 h5
  omega
def rTenL : LpC := lpC 45 [0, 1, 5] fun vs m κ => match vs, m with
  | [.o (.f 0), .o (.f 1), .o (.p (.int .i64 e))], [(.old, .w .u64 n xs), (.old, .w .u64 n' ys)] => cond (uOK xs ys && decide (-40000 ≤ e ∧ e ≤ 40000)) (κ .ret (lay 45 [4] [.o (.p (.int .i64 (flog 10 (val xs) (val ys))))]) []) none
  | _, _ => none
def rTensE : Env := mkE ty [(50, lenC), (15, rScl10C), (25, cmpC)] [(0, rTenL)] [(0, [0, 1, 5])] [(0, [4])] 0 (fun _ => false)
def ltS (xs ys : List Int) (e : Int) : Bool := decide (cmpI (val (words (val xs * upP 10 e))) (val (words (val ys * dnP 10 e))) < 0)
theorem rTen_round (e : Int) (n n' : Nat) (xs ys : List Int) (f : Nat) (κ : X → List V → Mem → R) :
    lx rTensE Try.f69 0 (f + 1) (lay 45 [0, 1, 5] [.o (.f 0), .o (.f 1), .o (.p (.int .i64 e))]) [(.old, .w .u64 n xs), (.old, .w .u64 n' ys)] κ =
      cond (rOK10 (IntKind.i64.wrap (0 - e)) xs ys) (cond (ltS xs ys (IntKind.i64.wrap (0 - e)))
          (lx rTensE Try.f69 0 f (lay 45 [0, 1, 5] [.o (.f 0), .o (.f 1), .o (.p (.int .i64 (IntKind.i64.wrap (e - 1))))]) [(.old, .w .u64 n xs), (.old, .w .u64 n' ys)] κ)
          (cond (rOK10 (IntKind.i64.wrap (IntKind.i64.wrap (0 - e) - 1)) xs ys) (cond (ltS xs ys (IntKind.i64.wrap (IntKind.i64.wrap (0 - e) - 1))) (κ .ret (lay 45 [4] [.o (.p (.int .i64 e))]) [])
              (lx rTensE Try.f69 0 f (lay 45 [0, 1, 5] [.o (.f 0), .o (.f 1), .o (.p (.int .i64 (IntKind.i64.wrap (e + 1))))]) [(.old, .w .u64 n xs), (.old, .w .u64 n' ys)] κ)) none)) none := by kernel_rfl
theorem ltS_eq {xs ys : List Int} (h : uOK xs ys = true) (e : Int) : ltS xs ys (-e) = decide (flog 10 (val xs) (val ys) < e) := by
  obtain ⟨h2, h3, h4, h5, h6, h7⟩ := of_decide_eq_true h
  unfold ltS
  rw [val_words, val_words, cmpI_neg, upP_neg, dnP_neg, decide_eq_decide.2 (below_iff (by decide) h4 h5 e)]
theorem rTen_loop {xs ys : List Int} (h : uOK xs ys = true) (n n' : Nat) (κ : X → List V → Mem → R) : ∀ (j : Nat) (e : Int), (-40000 ≤ e ∧ e ≤ 40000) → e - flog 10 (val xs) (val ys) ≤ (j : Int) → flog 10 (val xs) (val ys) - e ≤ (j : Int) →
    lx rTensE Try.f69 0 (j + 1) (lay 45 [0, 1, 5] [.o (.f 0), .o (.f 1), .o (.p (.int .i64 e))]) [(.old, .w .u64 n xs), (.old, .w .u64 n' ys)] κ =
      κ .ret (lay 45 [4] [.o (.p (.int .i64 (flog 10 (val xs) (val ys))))]) [] := by
  have hb := uOK_log h
  intro j
  induction j with
  | zero =>
    intro e he h1 h2
    have e0 : e = flog 10 (val xs) (val ys) := by omega
    rw [rTen_round, i64_wrap (x := 0 - e) (by omega) (by omega), Int.zero_sub, uOK_b h (by omega), cond_true, ltS_eq h, decide_eq_false (by omega), cond_false, i64_wrap (x := -e - 1) (by omega) (by omega), uOK_b h (by omega), cond_true, show -e - 1 = -(e + 1) by omega, ltS_eq h, decide_eq_true (by omega), cond_true, e0]
  | succ j ih =>
    intro e he h1 h2
    rw [rTen_round, i64_wrap (x := 0 - e) (by omega) (by omega), Int.zero_sub, uOK_b h (by omega), cond_true, ltS_eq h]
    by_cases hl : flog 10 (val xs) (val ys) < e
    · rw [decide_eq_true hl, cond_true, i64_wrap (by omega) (by omega)]
      exact ih (e - 1) (by omega) (by omega) (by omega)
    · rw [decide_eq_false hl, cond_false, i64_wrap (x := -e - 1) (by omega) (by omega), uOK_b h (by omega), cond_true, show -e - 1 = -(e + 1) by omega, ltS_eq h]
      by_cases hl2 : flog 10 (val xs) (val ys) < e + 1
      · rw [decide_eq_true hl2, cond_true, show e = flog 10 (val xs) (val ys) by omega]
      · rw [decide_eq_false hl2, cond_false, i64_wrap (by omega) (by omega)]
        exact ih (e + 1) (by omega) (by omega) (by omega)
theorem rTenL_ok : LoopOK rTensE 0 (lbody Try.f69 0) rTenL := loopOK_lx fun vs m κ r hv hm h => by
  split at h
  case h_2 => cases h
  rename_i e n xs n' ys
  replace h := cond_none h
  obtain ⟨hc, h⟩ := h
  rw [Bool.and_eq_true] at hc
  exact ⟨_, (rTen_loop hc.1 n n' κ (e - flog 10 (val xs) (val ys)).natAbs e (of_decide_eq_true hc.2) (by omega) (by omega)).trans h⟩
def rTensC : FnC := fun ds κ => match ds with
  | [.w .u64 xs, .w .u64 ys] => cond (uOK xs ys) (κ [(.mine, .p (.int .i64 (flog 10 (val xs) (val ys))))]) none
  | _ => none
theorem rTens_ev (xs ys : List Int) : evFn rTensE Try.f69 [.w .u64 xs, .w .u64 ys] =
    cond (uOK xs ys && decide (-40000 ≤ tenZ 30103 100000 (bitlen (val xs)) (bitlen (val ys)) ∧ tenZ 30103 100000 (bitlen (val xs)) (bitlen (val ys)) ≤ 40000))
      (some [(.mine, .p (.int .i64 (flog 10 (val xs) (val ys))))]) none := by kernel_rfl
theorem rTens_he : ∀ ds κ r, (∀ d ∈ ds, d.wf) → rTensC ds κ = some r → ∃ res, κ res = some r ∧ evFn rTensE Try.f69 ds = some res := fun ds κ r hw h => by
  unfold rTensC at h
  split at h
  case h_2 => cases h
  rename_i xs ys
  replace h := cond_none h
  obtain ⟨hc, h⟩ := h
  obtain ⟨h2, h3, h4, h5, h6, h7⟩ := of_decide_eq_true hc
  refine ⟨_, h, (rTens_ev xs ys).trans ?_⟩
  have hz : -40000 ≤ tenZ 30103 100000 (bitlen (val xs)) (bitlen (val ys)) ∧ tenZ 30103 100000 (bitlen (val xs)) (bitlen (val ys)) ≤ 40000 := by
    have b1 := tdiv_bd (t := (((bitlen (val xs) : Nat) : Int) - ((bitlen (val ys) : Nat) : Int)) * 30103) (m := 100000) (K := 40000) (by decide) (by omega) (by omega)
    unfold tenZ
    rw [i64_wrap (x := ((bitlen (val xs) : Nat) : Int) - _) (by omega) (by omega), i64_wrap (x := _ * _) (by omega) (by omega), i64_wrap (by omega) (by omega)]
    exact b1
  rw [hc, Bool.true_and, decide_eq_true hz, cond_true]
theorem rTens_fn : FnOK Try.prog 69 rTensC := fnOK_mk T mixed Try.func69 (by kernel_rfl) (fns := [(50, lenC), (15, rScl10C), (25, cmpC)]) (lps := [(0, rTenL)]) (live := [(0, [0, 1, 5])]) (out := [(0, [4])]) (fuel := 0) (give := (fun _ => false)) ⟨len_fn, rScl10_fn, cmp_fn, trivial⟩ ⟨rTenL_ok, trivial⟩ rTens_he
end
end Go.Proofs.Ytcglfmldodhakaa.Vm
