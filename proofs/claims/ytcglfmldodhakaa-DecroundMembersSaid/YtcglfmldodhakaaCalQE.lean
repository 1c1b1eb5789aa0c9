/-
  Package ref06. No statement is proved here.
-/
import Derived.Test.YtcglfmldodhakaaCalQD
namespace Go.Proofs.Ytcglfmldodhakaa.Vm
open Go Go.Vm
noncomputable section
set_option linter.unusedVariables false
/-! ### power, Scale, exponent -/
def rpowC : FnC := fun ds κ => match ds with
  | [.p (.int .u64 b), .p (.int .i64 n)] => cond (decide (0 ≤ n ∧ ((b = 2 ∧ n ≤ 200000) ∨ (b = 10 ∧ n ≤ 60000)))) (κ [(.mine, .w .u64 (words (b.toNat ^ n.toNat)))]) none
  | _ => none
def rpowE : Env := mkE ty [(51, leftC), (71, powC)] [] [] [] 0 (fun _ => false)
theorem rpow_ev (b n : Int) : evFn rpowE Try.f46 [.p (.int .u64 b), .p (.int .i64 n)] =
    cond (b == 2) (cond (decide ([(1 : Int)].length ≤ 274877906944 ∧ 0 ≤ n ∧ n ≤ 1099511627776)) (some [(.mine, .w .u64 (words (val [(1 : Int)] * 2 ^ n.toNat)))]) none)
      (cond (decide (0 ≤ n ∧ n ≤ 100000)) (some [(.mine, .w .u64 (words (b.toNat ^ n.toNat)))]) none) := by kernel_rfl
theorem rpow_he : ∀ ds κ r, (∀ d ∈ ds, d.wf) → rpowC ds κ = some r → ∃ res, κ res = some r ∧ evFn rpowE Try.f46 ds = some res := fun ds κ r hw h => by
  unfold rpowC at h
  split at h
  case h_2 => cases h
  rename_i b n
  replace h := cond_none h
  obtain ⟨hc, h⟩ := h
  obtain ⟨h0, h1⟩ := of_decide_eq_true hc
  refine ⟨_, h, (rpow_ev b n).trans ?_⟩
  rcases h1 with ⟨rfl, h1⟩ | ⟨rfl, h1⟩
  · rw [show ((2 : Int) == 2) = true from rfl, cond_true, decide_eq_true ⟨(show 1 ≤ 274877906944 by decide), h0, by omega⟩, cond_true, val_one, show (1 : Int).toNat = 1 from rfl, Nat.one_mul]
    rfl
  · rw [show ((10 : Int) == 2) = false from rfl, cond_false, decide_eq_true (by omega), cond_true]
theorem rpow_fn : FnOK Try.prog 46 rpowC := fnOK_mk T mixed Try.func46 (by kernel_rfl) (fns := [(51, leftC), (71, powC)]) (lps := []) (live := []) (out := []) (fuel := 0) (give := (fun _ => false)) ⟨left_fn, pow_fn, trivial⟩ trivial rpow_he
def clm (b e : Int) : Int := cond (b == 10) (min (max e (-60000)) 60000) (min (max e (-200000)) 200000)
def rScale0E : Env := mkE ty [(46, rpowC), (18, timesC)] [] [] [] 0 (fun _ => false)
def rScale0C : FnC := evC rScale0E Try.f15
theorem rScale0_fn : FnOK Try.prog 15 rScale0C := fnOK_mk T mixed Try.func15 (by kernel_rfl) (fns := [(46, rpowC), (18, timesC)]) (lps := []) (live := []) (out := []) (fuel := 0) (give := (fun _ => false)) ⟨rpow_fn, times_fn, trivial⟩ trivial evC_he
def sclT (b M e : Int) (xs ys : List Int) : R :=
  let m := if IntKind.i64.wrap (0 - M) > e then IntKind.i64.wrap (0 - M) else e
  let e' := if M < m then M else m
  let z := IntKind.i64.wrap (0 - e')
  cond (decide (e' ≥ 0))
    (cond (decide (0 ≤ e' ∧ ((b = 2 ∧ e' ≤ 200000) ∨ (b = 10 ∧ e' ≤ 60000)))) (cond (decide (xs.length ≤ 274877906944 ∧ (words (b.toNat ^ e'.toNat)).length ≤ 274877906944)) (some [(.new, .w .u64 (words (val xs * val (words (b.toNat ^ e'.toNat))))), (.old, .w .u64 ys)]) none) none)
    (cond (decide (0 ≤ z ∧ ((b = 2 ∧ z ≤ 200000) ∨ (b = 10 ∧ z ≤ 60000)))) (cond (decide (ys.length ≤ 274877906944 ∧ (words (b.toNat ^ z.toNat)).length ≤ 274877906944)) (some [(.old, .w .u64 xs), (.new, .w .u64 (words (val ys * val (words (b.toNat ^ z.toNat)))))]) none) none)
theorem rScale0_ev (b e : Int) (xs ys : List Int) : evFn rScale0E Try.f15 [.w .u64 xs, .w .u64 ys, .p (.int .u64 b), .p (.int .i64 e)] = cond (b == 10) (sclT b 60000 e xs ys) (sclT b 200000 e xs ys) := by kernel_rfl
def rScaleC : FnC := fun ds κ => match ds with
  | [.w .u64 xs, .w .u64 ys, .p (.int .u64 b), .p (.int .i64 e)] => cond (decide ((b = 2 ∨ b = 10) ∧ xs = words (val xs) ∧ ys = words (val ys) ∧ xs.length ≤ 1000000 ∧ ys.length ≤ 1000000)) (κ [(.old, .w .u64 (words (val xs * upP b.toNat (clm b e)))), (.old, .w .u64 (words (val ys * dnP b.toNat (clm b e))))]) none
  | _ => none
theorem pow10_le (k : Nat) : wlen (10 ^ k) ≤ k + 1 := by
  rw [wlen_le]
  refine Nat.lt_of_le_of_lt (Nat.pow_le_pow_left (show 10 ≤ 18446744073709551616 by decide) k) ?_
  exact Nat.pow_lt_pow_right (by decide) (by omega)
theorem sclT_eq {b M e : Int} {xs ys : List Int} (hb : (b = 2 ∧ M = 200000) ∨ (b = 10 ∧ M = 60000)) (he : -9223372036854775808 ≤ e ∧ e < 9223372036854775808) (hx : xs = words (val xs)) (hy : ys = words (val ys)) (lx : xs.length ≤ 1000000) (ly : ys.length ≤ 1000000) :
    ∃ l, sclT b M e xs ys = some l ∧ weakTo l [(.old, .w .u64 (words (val xs * upP b.toNat (min (max e (-M)) M)))), (.old, .w .u64 (words (val ys * dnP b.toNat (min (max e (-M)) M))))] := by
  obtain ⟨e', he'⟩ : ∃ e', e' = min (max e (-M)) M := ⟨_, rfl⟩
  rw [← he']
  have hM : IntKind.i64.wrap (0 - M) = -M := by rw [i64_wrap (by omega) (by omega)]; omega
  have em : (if M < (if -M > e then -M else e) then M else (if -M > e then -M else e)) = e' := by rw [he']; split <;> split <;> omega
  have hwl : ∀ k : Nat, (k : Int) ≤ M → wlen (b.toNat ^ k) ≤ 274877906944 := by
    intro k hk
    rcases hb with ⟨rfl, rfl⟩ | ⟨rfl, rfl⟩
    · have : wlen ((2 : Int).toNat ^ k) ≤ k / 64 + 1 := wlen_two_pow k
      omega
    · have : wlen ((10 : Int).toNat ^ k) ≤ k + 1 := pow10_le k
      omega
  unfold sclT
  dsimp only
  rw [hM, em]
  by_cases h0 : e' ≥ 0
  · obtain ⟨k, rfl⟩ := Int.eq_ofNat_of_zero_le h0
    have := hwl k (by omega)
    rw [decide_eq_true h0, cond_true, decide_eq_true (by omega), cond_true, length_words, Int.toNat_natCast, decide_eq_true (by omega), cond_true, val_words]
    refine ⟨_, rfl, ?_, .inr ⟨rfl, rfl⟩, ?_, .inl rfl, trivial⟩
    · unfold upP; rw [Int.toNat_natCast]
    · unfold dnP; rw [show (-(k : Int)).toNat = 0 by omega, Nat.pow_zero, Nat.mul_one, ← hy]
  · obtain ⟨k, hk⟩ : ∃ k : Nat, -e' = (k : Int) := ⟨(-e').toNat, by omega⟩
    have := hwl k (by omega)
    rw [decide_eq_false h0, cond_false, i64_wrap (x := 0 - e') (by omega) (by omega), Int.zero_sub, hk, decide_eq_true (by omega), cond_true, length_words, Int.toNat_natCast, decide_eq_true (by omega), cond_true, val_words]
    refine ⟨_, rfl, ?_, .inl rfl, ?_, .inr ⟨rfl, rfl⟩, trivial⟩
    · unfold upP; rw [show e'.toNat = 0 by omega, Nat.pow_zero, Nat.mul_one, ← hx]
    · unfold dnP; rw [hk, Int.toNat_natCast]
theorem rScale_fn : FnOK Try.prog 15 rScaleC := fnOK_weak rScale0_fn fun ds κ r hw h => by
  unfold rScaleC at h
  split at h
  case h_2 => cases h
  rename_i xs ys b e
  replace h := cond_none h
  obtain ⟨hc, h⟩ := h
  obtain ⟨h1, h2, h3, h4, h5⟩ := of_decide_eq_true hc
  have he := wfI hw (x := e) (by simp)
  have ev : ∀ l, evFn rScale0E Try.f15 [.w .u64 xs, .w .u64 ys, .p (.int .u64 b), .p (.int .i64 e)] = some l → rScale0C [.w .u64 xs, .w .u64 ys, .p (.int .u64 b), .p (.int .i64 e)] some = some l := fun l hl => by
    unfold rScale0C evC
    rw [hl]
  rcases h1 with rfl | rfl
  · obtain ⟨l, g1, g2⟩ := sclT_eq (b := 2) (M := 200000) (.inl ⟨rfl, rfl⟩) he h2 h3 h4 h5
    exact ⟨l, _, h, g2, ev l ((rScale0_ev 2 e xs ys).trans g1)⟩
  · obtain ⟨l, g1, g2⟩ := sclT_eq (b := 10) (M := 60000) (.inr ⟨rfl, rfl⟩) he h2 h3 h4 h5
    exact ⟨l, _, h, g2, ev l ((rScale0_ev 10 e xs ys).trans g1)⟩
/-- The exponent of a fraction, as ref06 finds it. -/
def rexp (A B : Nat) : Int := if A * dnP 2 (clm 2 ((bitlen A : Int) - (bitlen B : Int))) < B * upP 2 (clm 2 ((bitlen A : Int) - (bitlen B : Int))) then (bitlen A : Int) - (bitlen B : Int) - 1 else (bitlen A : Int) - (bitlen B : Int)
def rExpC : FnC := fun ds κ => match ds with
  | [.w .u64 xs, .w .u64 ys] => cond (decide (xs = words (val xs) ∧ ys = words (val ys) ∧ xs.length ≤ 1000000 ∧ ys.length ≤ 1000000)) (κ [(.mine, .p (.int .i64 (rexp (val xs) (val ys))))]) none
  | _ => none
theorem clm_neg (b e : Int) : clm b (-e) = -clm b e := by unfold clm; cases (b == 10) <;> simp only [cond_true, cond_false] <;> omega
/-! ### Round -/
def lfT (b : List Int) (fl : Int) : R := some [(.mine, .r .u64 4 b), (.mine, .p (.int .i64 fl))]
def rrO (n d : Int) (s : Bool) : R :=
  let t := fun b : List Int => cond (farB d s) (cond (decide (1 ≤ n ∧ n ≤ 6)) (cond (isN n 2 false 0 0) (lfT (wordsN 4 (packN (mN n) (eN n) (eminI n) 2 s false 0 0)) 10) (lfT (wordsN 4 0) 10)) (lfT (wordsN 4 0) 10)) (lfT b 10)
  cond (decide (1 ≤ n ∧ n ≤ 6)) (cond (isN n 1 false (emaxI n) (topN n)) (t (wordsN 4 (packN (mN n) (eN n) (eminI n) 1 s false (emaxI n) (topN n)))) (t (wordsN 4 0))) (t (wordsN 4 0))
def rrD (n d : Int) (s : Bool) (emin emax prec low q : Int) (c : List Int) (ex : Bool) : R :=
  let u := fun b : List Int => cond ex (lfT b 0) (cond (decide (low < IntKind.i64.wrap (IntKind.i64.wrap (emin + prec) - 1))) (lfT b 12) (lfT b 8))
  let F := val (wordsN 4 (val c))
  cond (decide (q > emax)) (rrO n d s)
    (cond (decide (1 ≤ n ∧ n ≤ 6)) (cond (isN n 1 false q F) (u (wordsN 4 (packN (mN n) (eN n) (eminI n) 1 s false q F))) (u (wordsN 4 0))) (u (wordsN 4 0)))
def rrT (n d : Int) (s : Bool) (emin emax prec : Int) (xs ys : List Int) (e : Int) : R :=
  let z := clm 2 e
  let num := words (val xs * upP (2 : Int).toNat z)
  let den := words (val ys * dnP (2 : Int).toNat z)
  let low := rexp (val num) (val den)
  let y := IntKind.i64.wrap (IntKind.i64.wrap (low - prec) + 1)
  let q := if y > emin then y else emin
  let f := clm 2 (IntKind.i64.wrap (0 - q))
  let a := words (val num * upP (2 : Int).toNat f)
  let b := words (val den * dnP (2 : Int).toNat f)
  let c := words (rndF d s (val a) (val b))
  let ex := exF (val a) (val b)
  cond (decide (((2 : Int) = 2 ∨ (2 : Int) = 10) ∧ xs = words (val xs) ∧ ys = words (val ys) ∧ xs.length ≤ 1000000 ∧ ys.length ≤ 1000000))
    (cond (decide (num = words (val num) ∧ den = words (val den) ∧ num.length ≤ 1000000 ∧ den.length ≤ 1000000))
      (cond (decide (((2 : Int) = 2 ∨ (2 : Int) = 10) ∧ num = words (val num) ∧ den = words (val den) ∧ num.length ≤ 1000000 ∧ den.length ≤ 1000000))
        (cond (decide (a.length ≤ 1000000 ∧ b.length ≤ 1000000 ∧ 0 < val b))
          (cond (decide (((bitlen (val c) : Nat) : Int) > prec)) (cond (decide (c.length ≤ 274877906944 ∧ (0 : Int) ≤ 1)) (rrD n d s emin emax prec low (IntKind.i64.wrap (q + 1)) (words (val c / 2 ^ (1 : Int).toNat)) ex) none)
            (rrD n d s emin emax prec low q c ex)) none) none) none) none
def rrZ (n d : Int) (s : Bool) (emin emax prec : Int) (xs ys : List Int) (e : Int) : R :=
  cond ((xs.length : Int) == 0) (cond (decide (1 ≤ n ∧ n ≤ 6)) (cond (isN n 1 false emin 0) (lfT (wordsN 4 (packN (mN n) (eN n) (eminI n) 1 s false emin 0)) 0) (lfT (wordsN 4 0) 0)) (lfT (wordsN 4 0) 0)) (rrT n d s emin emax prec xs ys e)
def tell2 (p : Nat × Int) : R := lfT (wordsN 4 p.1) p.2
theorem rrO_eq {n d : Int} (h6 : 1 ≤ n ∧ n ≤ 6) (s : Bool) : rrO n d s = tell2 (overP n d s, 10) := by
  unfold rrO
  dsimp only
  rw [decide_eq_true h6, cond_true, top_is h6, cond_true, cond_true, inf_is h6, cond_true]
  unfold overP infN pkN
  cases farB d s <;> rfl
theorem rrD_eq {n d : Int} (h6 : 1 ≤ n ∧ n ≤ 6) (s : Bool) {low q : Int} {c : Nat} (ex : Bool) (hi : q ≤ emaxI n → c < 2 ^ 256 ∧ isN n 1 false q c = true) :
    rrD n d s (eminI n) (emaxI n) (precI n) low q (words c) ex = tell2 (cond (decide (q > emaxI n)) (overP n d s, 10) (pkN n s q c, cond ex 0 (cond (decide (low < eminI n + precI n - 1)) 12 8))) := by
  obtain ⟨f1, f2, f3, f4, f5, f6, f7, f8, f9, f10, f11, f12⟩ := fmt h6
  have f13 := emin_le h6
  unfold rrD
  dsimp only
  rw [i64_wrap (x := eminI n + precI n) (by omega) (by omega), i64_wrap (x := eminI n + precI n - 1) (by omega) (by omega), rrO_eq h6]
  by_cases hq : q > emaxI n
  · rw [decide_eq_true hq, cond_true, cond_true]
  · obtain ⟨h1, h2⟩ := hi (by omega)
    rw [decide_eq_false hq, cond_false, cond_false, val_words, lo4 h1, decide_eq_true h6, cond_true, h2, cond_true]
    cases ex <;> cases decide (low < eminI n + precI n - 1) <;> rfl
theorem clm2 (e : Int) : clm 2 e = min (max e (-200000)) 200000 := rfl
/-- What ref06 rounds, of a fraction as it is. -/
theorem rr_all {n d : Int} (h6 : 1 ≤ n ∧ n ≤ 6) (s : Bool) {A B : Nat} (hA : 0 < A) (hB : 0 < B) {low q : Int} (hlow : low = rexp A B) (hq : q = qOf n low) {c : Nat} {ex : Bool} (hc : c = rndF d s (A * upP 2 (clm 2 (-q))) (B * dnP 2 (clm 2 (-q)))) (hex : ex = exF (A * upP 2 (clm 2 (-q))) (B * dnP 2 (clm 2 (-q)))) :
    finish n d s low q c ex = rnd n d s A B 0 ∧ (bitlen c > mN n + 1 → q + 1 ≤ emaxI n → c / 2 < 2 ^ 256 ∧ isN n 1 false (q + 1) (c / 2) = true) ∧ (bitlen c ≤ mN n + 1 → q ≤ emaxI n → c < 2 ^ 256 ∧ isN n 1 false q c = true) := by
  obtain ⟨f1, f2, f3, f4, f5, f6, f7, f8, f9, f10, f11, f12⟩ := fmt h6
  have f13 := emin_le h6
  have f14 := emax_le h6
  have hfl := flog2_bounds hA hB
  have p3 : (2 : Nat) ^ (eN n - 1) ≤ 2 ^ 14 := Nat.pow_le_pow_right (by decide) (by omega)
  have p4 : (2 : Nat) ^ 14 = 16384 := by decide
  have hqb : eminI n ≤ q ∧ low - precI n + 1 ≤ q ∧ (q = eminI n ∨ q = low - precI n + 1) := by rw [hq]; unfold qOf; omega
  obtain ⟨q0, hq0⟩ : ∃ q0 : Int, q0 = (bitlen A : Int) - (bitlen B : Int) := ⟨_, rfl⟩
  have hr : rexp A B = q0 - 1 ∨ rexp A B = q0 := by
    unfold rexp
    rw [← hq0]
    split
    · exact .inl rfl
    · exact .inr rfl
  by_cases h1 : q0 > 200000
  · rw [finish_over (by omega), rnd_over (by omega) (by omega)]
    exact ⟨rfl, fun _ h => by omega, fun _ h => by omega⟩
  · by_cases h2 : q0 < -200000
    · have hqe : q = eminI n := by omega
      have hz : clm 2 (-q) = 0 - eminI n := by rw [clm2]; omega
      rw [hz] at hc hex
      have hx := tiny_x hA hB (e := 0) (m := eminI n) (by omega)
      obtain ⟨r1, r2⟩ := rnd_tiny d s (Nat.mul_pos hA (upP_pos (by decide) (0 - eminI n))) hx
      rw [r1] at hc
      rw [r2] at hex
      have hc1 : c ≤ 1 := by rw [hc]; cases upB d s false (-1) <;> decide
      have hb : bitlen c ≤ 1 := by
        rw [hc]
        cases upB d s false (-1)
        · exact Nat.zero_le _
        · exact Nat.le_of_eq bitlen_one
      have h256 : c < 2 ^ 256 := Nat.lt_of_le_of_lt hc1 one_lt256
      refine ⟨?_, fun h _ => by omega, fun _ _ => ⟨h256, ?_⟩⟩
      · rw [rnd_small h6 hA hB (by omega), hex, hqe]
        unfold finish
        rw [decide_eq_false (by omega), cond_false, decide_eq_false (by omega), cond_false, cond_false, decide_eq_true (by omega), cond_true, hc]
      · rw [isN_iff h6]
        exact .inl ⟨rfl, rfl, by omega, by omega, .inr ⟨by omega, hqe⟩⟩
    · have hexp : rexp A B = flog 2 A B := by
        rw [flog2 hA hB hq0]
        unfold rexp
        rw [← hq0, show clm 2 q0 = q0 by rw [clm2]; omega]
      rw [hexp] at hlow
      have hz : clm 2 (-q) = 0 - q := by rw [clm2]; omega
      rw [hz] at hc hex
      obtain ⟨c1, c2⟩ := rnd_c h6 hA hB d s (e := 0) (low := low) (q := q) (by omega) hq
      rw [← hc] at c1 c2
      have h256 : c < 2 ^ 256 := by
        have : (2 : Nat) ^ (mN n + 1) < 2 ^ 256 := Nat.pow_lt_pow_right (by decide) (by omega)
        omega
      obtain ⟨i1, i2⟩ := finish_is h6 hq c1 c2
      refine ⟨?_, fun h h' => ⟨by omega, i1 h h'⟩, fun h h' => ⟨h256, i2 h h'⟩⟩
      unfold rnd
      rw [if_neg (by omega), Int.add_zero, ← hlow, ← hq, ← hc, ← hex]
def rRoundC : FnC := fun ds κ => match ds with
  | [.p (.int .i64 n), .p (.int .i64 d), .p (.bool s), .w .u64 xs, .w .u64 ys, .p (.int .i64 e)] =>
    cond (decide ((1 ≤ n ∧ n ≤ 6) ∧ xs = words (val xs) ∧ ys = words (val ys) ∧ 0 < val ys ∧ wlen (val xs) ≤ 900 ∧ wlen (val ys) ≤ 900)) (κ [(.mine, .r .u64 4 (wordsN 4 (rnd n d s (val xs) (val ys) e).1)), (.mine, .p (.int .i64 (rnd n d s (val xs) (val ys) e).2))]) none
  | _ => none
theorem bitlen_wlen (n : Nat) : bitlen n ≤ 64 * wlen n := by unfold wlen; omega
theorem wlen_scale (A : Nat) {x : Int} (h : -200000 ≤ x ∧ x ≤ 200000) : wlen (A * upP 2 x) ≤ wlen A + 3126 ∧ wlen (A * dnP 2 x) ≤ wlen A + 3126 := by
  constructor
  · refine wlen_mul (Nat.le_refl _) ?_
    unfold upP
    have := wlen_two_pow x.toNat
    omega
  · refine wlen_mul (Nat.le_refl _) ?_
    unfold dnP
    have := wlen_two_pow (-x).toNat
    omega
/-! ### Binary -/
end
end Go.Proofs.Ytcglfmldodhakaa.Vm
