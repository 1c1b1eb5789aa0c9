/-
  Package ref05's parts. No statement is proved here.
-/
import Derived.Test.YtcglfmldodhakaaCalBA
import Derived.Test.YtcglfmldodhakaaCalS
namespace Go.Proofs.Ytcglfmldodhakaa.Vm
open Go Go.Vm
noncomputable section
set_option linter.unusedVariables false

/-! ### ref02.Bits, Of, Pow -/
def rBitsC : FnC := fun ds κ => match ds with
  | [.w .u64 xs] => κ [(.mine, .r .u64 4 (wordsN 4 (val xs)))]
  | _ => none
def rBitsE : Env := mkE ty [(55, wordC)] [] [(0, [0, 2, 3, 5])] [(0, [2, 3])] 5 (fun _ => false)
theorem rBits_ev (xs : List Int) : evFn rBitsE Try.f21 [.w .u64 xs] = some [(.mine, .r .u64 4 [wordI xs ((0 : Nat) : Int), wordI xs ((1 : Nat) : Int), wordI xs ((2 : Nat) : Int), wordI xs ((3 : Nat) : Int)])] := by kernel_rfl
theorem rBits_he : ∀ ds κ r, (∀ d ∈ ds, d.wf) → rBitsC ds κ = some r → ∃ res, κ res = some r ∧ evFn rBitsE Try.f21 ds = some res := fun ds κ r hw h => by
  unfold rBitsC at h
  split at h
  case h_2 => cases h
  rename_i xs
  refine ⟨_, h, (rBits_ev xs).trans ?_⟩
  obtain ⟨_, hx⟩ := wfW hw (xs := xs) (by simp)
  rw [wordI_nat, wordI_nat, wordI_nat, wordI_nat, getD_val hx 0, getD_val hx 1, getD_val hx 2, getD_val hx 3]
  have e : ∀ a : Nat, wordsN 4 a = [((a / 18446744073709551616 ^ 0 % 18446744073709551616 : Nat) : Int), ((a / 18446744073709551616 ^ 1 % 18446744073709551616 : Nat) : Int), ((a / 18446744073709551616 ^ 2 % 18446744073709551616 : Nat) : Int), ((a / 18446744073709551616 ^ 3 % 18446744073709551616 : Nat) : Int)] := fun a => by
    rw [Nat.pow_zero, Nat.div_one, Nat.pow_one, Nat.pow_succ, Nat.pow_one, ← Nat.div_div_eq_div_mul, Nat.pow_succ, Nat.pow_succ, Nat.pow_one, ← Nat.div_div_eq_div_mul, ← Nat.div_div_eq_div_mul]
    rfl
  rw [← e]
theorem rBits_fn : FnOK Try.prog 21 rBitsC := fnOK_mk T mixed Try.func21 (by kernel_rfl) (fns := [(55, wordC)]) (lps := []) (live := [(0, [0, 2, 3, 5])]) (out := [(0, [2, 3])]) (fuel := 5) (give := (fun _ => false)) ⟨word_fn, trivial⟩ trivial rBits_he
def powC : FnC := fun ds κ => match ds with
  | [.p (.int .u64 a), .p (.int .i64 n)] => cond (decide (0 ≤ n ∧ n ≤ 100000)) (κ [(.mine, .w .u64 (words (a.toNat ^ n.toNat)))]) none
  | _ => none
def powL : LpC := lpC 26 [1, 5, 6] fun vs m κ => match vs, m with
  | [.o (.p (.int .i64 n)), .o (.f 0), .o (.f 1)], [(.mine, .w .u64 n1 xs), (.mine, .w .u64 n2 ys)] =>
    cond (decide (0 ≤ n ∧ n ≤ 100000 ∧ n1 = 1 ∧ n2 = 1 ∧ val xs = 1)) (κ (.exit 0) (lay 26 [5] [.o (.f 0)]) [(.mine, .w .u64 (words (val ys ^ n.toNat)).length (words (val ys ^ n.toNat)))]) none
  | _, _ => none
def powE : Env := mkE ty [(18, timesC)] [(0, powL)] [(0, [1, 5, 6])] [(0, [5])] 0 (fun _ => false)
def powSt (n : Int) : List V := lay 26 [1, 5, 6] [.o (.p (.int .i64 n)), .o (.f 0), .o (.f 1)]
theorem pow_round (n : Int) (xs ys : List Int) (k : Nat) (κ : X → List V → Mem → R) : lx powE Try.f71 0 (k + 1) (powSt n) [(.mine, .w .u64 xs.length xs), (.mine, .w .u64 ys.length ys)] κ =
    cond (decide (n > 0))
      (cond (n.tmod 2 == 1)
        (cond (decide (xs.length ≤ 274877906944 ∧ ys.length ≤ 274877906944))
          (cond (decide (IntKind.i64.wrap (n.tdiv 2) > 0))
            (cond (decide (ys.length ≤ 274877906944 ∧ ys.length ≤ 274877906944))
              (lx powE Try.f71 0 k (powSt (IntKind.i64.wrap (n.tdiv 2))) [(.mine, .w .u64 (words (val xs * val ys)).length (words (val xs * val ys))), (.mine, .w .u64 (words (val ys * val ys)).length (words (val ys * val ys)))] κ) none)
            (lx powE Try.f71 0 k (powSt (IntKind.i64.wrap (n.tdiv 2))) [(.mine, .w .u64 (words (val xs * val ys)).length (words (val xs * val ys))), (.mine, .w .u64 ys.length ys)] κ)) none)
        (cond (decide (IntKind.i64.wrap (n.tdiv 2) > 0))
          (cond (decide (ys.length ≤ 274877906944 ∧ ys.length ≤ 274877906944))
            (lx powE Try.f71 0 k (powSt (IntKind.i64.wrap (n.tdiv 2))) [(.mine, .w .u64 xs.length xs), (.mine, .w .u64 (words (val ys * val ys)).length (words (val ys * val ys)))] κ) none)
          (lx powE Try.f71 0 k (powSt (IntKind.i64.wrap (n.tdiv 2))) [(.mine, .w .u64 xs.length xs), (.mine, .w .u64 ys.length ys)] κ)))
      (κ (.exit 0) (lay 26 [5] [.o (.f 0)]) [(.mine, .w .u64 xs.length xs)]) := by kernel_rfl
theorem pow_odd (Y q : Nat) : Y * (Y * Y) ^ q = Y ^ (2 * q + 1) := by
  rw [Nat.pow_succ, Nat.pow_mul, Nat.pow_two, Nat.mul_comm]
theorem pow_even (Y q : Nat) : (Y * Y) ^ q = Y ^ (2 * q) := by rw [Nat.pow_mul, Nat.pow_two]
theorem pow_run (κ : X → List V → Mem → R) : ∀ (k n A : Nat) (ys : List Int), n < 2 ^ k → n ≤ 100000 → inR .u64 ys → wlen A + n * ys.length ≤ 1000000 →
    lx powE Try.f71 0 (k + 1) (powSt n) [(.mine, .w .u64 (words A).length (words A)), (.mine, .w .u64 ys.length ys)] κ =
      κ (.exit 0) (lay 26 [5] [.o (.f 0)]) [(.mine, .w .u64 (words (A * val ys ^ n)).length (words (A * val ys ^ n)))] := by
  intro k
  induction k with
  | zero =>
    intro n A ys h _ hy _
    obtain rfl : n = 0 := by simpa using h
    rw [pow_round, decide_eq_false (by omega), cond_false, Nat.pow_zero, Nat.mul_one]
  | succ k ih =>
    intro n A ys h hn hy hb
    rw [Nat.pow_succ] at h
    have e1 : (n : Int).tmod 2 = ((n % 2 : Nat) : Int) := rfl
    have e2 : IntKind.i64.wrap ((n : Int).tdiv 2) = ((n / 2 : Nat) : Int) := by
      have : (n : Int).tdiv 2 = ((n / 2 : Nat) : Int) := rfl
      rw [this, i64_wrap (by omega) (by omega)]
    rw [pow_round, e1, e2]
    by_cases h0 : n = 0
    · subst h0
      rw [decide_eq_false (by omega), cond_false, Nat.pow_zero, Nat.mul_one]
    rw [decide_eq_true (show (n : Int) > 0 by omega), cond_true]
    have hl : ys.length ≤ n * ys.length := Nat.le_mul_of_pos_left _ (by omega)
    have hw := wlen_val hy
    have gA : decide ((words A).length ≤ 274877906944 ∧ ys.length ≤ 274877906944) = true := decide_eq_true ⟨by rw [length_words]; omega, by omega⟩
    have gB : decide (ys.length ≤ 274877906944 ∧ ys.length ≤ 274877906944) = true := decide_eq_true ⟨by omega, by omega⟩
    have w1 : wlen (A * val ys) ≤ wlen A + ys.length := wlen_mul (Nat.le_refl _) hw
    have w2 : wlen (val ys * val ys) ≤ ys.length + ys.length := wlen_mul hw hw
    have hdm := Nat.div_add_mod n 2
    rw [gA, gB, cond_true, cond_true, val_words]
    generalize hq : n / 2 = q at *
    rcases Nat.mod_two_eq_zero_or_one n with hm | hm
    · rw [hm, show (((0 : Nat) : Int) == 1) = false from rfl, cond_false]
      have hn2 : n = 2 * q := by omega
      rw [decide_eq_true (show ((q : Nat) : Int) > 0 by omega), cond_true]
      have b1 : q * (words (val ys * val ys)).length ≤ n * ys.length := by
        rw [length_words, hn2, Nat.mul_comm 2 q, Nat.mul_assoc]
        exact Nat.mul_le_mul_left _ (by omega)
      rw [ih q A _ (by omega) (by omega) (inR_words _) (by omega), val_words, hn2, pow_even]
      rfl
    · rw [hm, show (((1 : Nat) : Int) == 1) = true from rfl, cond_true]
      have hn2 : n = 2 * q + 1 := by omega
      by_cases hq0 : 0 < q
      · rw [decide_eq_true (show ((q : Nat) : Int) > 0 by omega), cond_true]
        have b1 : q * (words (val ys * val ys)).length + ys.length ≤ n * ys.length := by
          rw [length_words, hn2, Nat.add_mul, Nat.one_mul, Nat.mul_comm 2 q, Nat.mul_assoc]
          exact Nat.add_le_add_right (Nat.mul_le_mul_left _ (by omega)) _
        rw [ih q _ _ (by omega) (by omega) (inR_words _) (by omega), val_words, hn2, ← pow_odd, Nat.mul_assoc]
      · obtain rfl : q = 0 := by omega
        rw [decide_eq_false (show ¬ ((0 : Nat) : Int) > 0 by omega), cond_false, ih 0 _ _ (Nat.two_pow_pos _) (by omega) hy (by omega), hn2, Nat.pow_zero, Nat.mul_one]
        show _ = κ (.exit 0) (lay 26 [5] [.o (.f 0)]) [(.mine, .w .u64 (words (A * val ys ^ 1)).length (words (A * val ys ^ 1)))]
        rw [Nat.pow_one]
theorem powL_ok : LoopOK powE 0 (lbody Try.f71 0) powL := loopOK_lx fun vs m κ r hv hm h => by
  split at h
  case h_2 => cases h
  rename_i n n1 xs n2 ys
  replace h := cond_none h
  obtain ⟨hc, h⟩ := h
  obtain ⟨h1, h2, rfl, rfl, h5⟩ := of_decide_eq_true hc
  obtain ⟨lx1, _, hx⟩ := hm 0 _ _ rfl
  obtain ⟨ly1, _, hy⟩ := hm 1 _ _ rfl
  obtain ⟨n, rfl⟩ := Int.eq_ofNat_of_zero_le h1
  have e0 : wlen 1 = 1 := by decide
  have key := pow_run κ 20 n 1 ys (by have : (2 : Nat) ^ 20 = 1048576 := by decide
                                      omega) (by omega) hy (by rw [e0, ly1]; omega)
  have e1 : words 1 = xs := (words_eq hx h5 (by rw [e0, lx1])).symm
  rw [e1, lx1, ly1, Nat.one_mul] at key
  exact ⟨_, key.trans h⟩
theorem pow_ev (a n : Int) : evFn powE Try.f71 [.p (.int .u64 a), .p (.int .i64 n)] =
    cond (decide (0 ≤ n ∧ n ≤ 100000 ∧ 1 = 1 ∧ 1 = 1 ∧ val [1] = 1)) (some [(.mine, .w .u64 (words (val [a] ^ n.toNat)))]) none := by kernel_rfl
theorem pow_he : ∀ ds κ r, (∀ d ∈ ds, d.wf) → powC ds κ = some r → ∃ res, κ res = some r ∧ evFn powE Try.f71 ds = some res := fun ds κ r hw h => by
  unfold powC at h
  split at h
  case h_2 => cases h
  rename_i a n
  replace h := cond_none h
  obtain ⟨hc, h⟩ := h
  obtain ⟨h1, h2⟩ := of_decide_eq_true hc
  refine ⟨_, h, (pow_ev a n).trans ?_⟩
  have e : val [a] = a.toNat := rfl
  rw [decide_eq_true ⟨h1, h2, rfl, rfl, rfl⟩, cond_true, e]
theorem pow_fn : FnOK Try.prog 71 powC := fnOK_mk T mixed Try.func71 (by kernel_rfl) (fns := [(18, timesC)]) (lps := [(0, powL)]) (live := [(0, [1, 5, 6])]) (out := [(0, [5])]) (fuel := 0) (give := (fun _ => false)) ⟨times_fn, trivial⟩ ⟨powL_ok, trivial⟩ pow_he

/-! ### ref05's fields -/
def rNumberC : FnC := fun ds κ => match ds with
  | [.w .u64 xs] => κ [(.mine, .p (.int .i64 (IntKind.i64.wrap ((val xs % 18446744073709551616 : Nat) : Int))))]
  | _ => none
def rNumberE : Env := mkE ty [] [] [] [] 0 (fun _ => false)
theorem rNumber_ev (xs : List Int) : evFn rNumberE Try.f76 [.w .u64 xs] = cond ((xs.length : Int) == 0) (some [(.mine, .p (.int .i64 0))])
    (cond (decide ((0 : Int) ≤ 0 ∧ (0 : Int) < (xs.length : Int))) (cond (decide (0 < xs.length)) (some [(.mine, .p (.int .i64 (IntKind.i64.wrap (xs.getD 0 0))))]) none) none) := by kernel_rfl
theorem rNumber_he : ∀ ds κ r, (∀ d ∈ ds, d.wf) → rNumberC ds κ = some r → ∃ res, κ res = some r ∧ evFn rNumberE Try.f76 ds = some res := fun ds κ r hw h => by
  unfold rNumberC at h
  split at h
  case h_2 => cases h
  rename_i xs
  refine ⟨_, h, (rNumber_ev xs).trans ?_⟩
  obtain ⟨_, hx⟩ := wfW hw (xs := xs) (by simp)
  by_cases h0 : xs.length = 0
  · rw [show ((xs.length : Int) == 0) = true from beq_iff_eq.2 (by omega), cond_true]
    obtain rfl := List.length_eq_zero_iff.1 h0
    rfl
  · rw [show ((xs.length : Int) == 0) = false from beq_eq_false_iff_ne.2 (by omega), cond_false, decide_eq_true (by omega), cond_true, decide_eq_true (by omega), cond_true, getD_val hx 0, Nat.pow_zero, Nat.div_one]
theorem rNumber_fn : FnOK Try.prog 76 rNumberC := fnOK_mk T mixed Try.func76 (by kernel_rfl) (fns := []) (lps := []) (live := []) (out := []) (fuel := 0) (give := (fun _ => false)) trivial trivial rNumber_he
def rFieldC : FnC := fun ds κ => match ds with
  | [.r .u64 4 b, .p (.int .i64 p), .p (.int .i64 n)] => cond (decide (0 ≤ p ∧ 0 ≤ n ∧ n ≤ 256)) (κ [(.mine, .w .u64 (words (val b / 2 ^ p.toNat % 2 ^ n.toNat)))]) none
  | _ => none
def rFieldE : Env := mkE ty [(53, rightC), (51, leftC), (52, lessC)] [] [] [] 0 (fun _ => false)
theorem rField_ev (b : List Int) (p n : Int) : evFn rFieldE Try.f77 [.r .u64 4 b, .p (.int .i64 p), .p (.int .i64 n)] =
    let x := words (val b / 2 ^ p.toNat)
    let y := words (val x / 2 ^ n.toNat)
    let z := words (val y * 2 ^ n.toNat)
    cond (decide (b.length ≤ 274877906944 ∧ 0 ≤ p)) (cond (decide (x.length ≤ 274877906944 ∧ 0 ≤ n)) (cond (decide (y.length ≤ 274877906944 ∧ 0 ≤ n ∧ n ≤ 1099511627776))
      (cond (decide (x.length ≤ 549755813888 ∧ z.length ≤ 549755813888 ∧ val z ≤ val x)) (some [(.mine, .w .u64 (words (val x - val z)))]) none) none) none) none := by kernel_rfl
theorem rField_he : ∀ ds κ r, (∀ d ∈ ds, d.wf) → rFieldC ds κ = some r → ∃ res, κ res = some r ∧ evFn rFieldE Try.f77 ds = some res := fun ds κ r hw h => by
  unfold rFieldC at h
  split at h
  case h_2 => cases h
  rename_i b p n
  replace h := cond_none h
  obtain ⟨hc, h⟩ := h
  obtain ⟨h1, h2, h3⟩ := of_decide_eq_true hc
  refine ⟨_, h, (rField_ev b p n).trans ?_⟩
  obtain ⟨hl, hx⟩ := wfR hw (xs := b) (n := 4) (by simp)
  dsimp only
  rw [val_words, val_words, val_words]
  generalize hA : val b / 2 ^ p.toNat = A
  generalize hN : n.toNat = N
  have lA : A ≤ val b := by rw [← hA]; exact Nat.div_le_self _ _
  have lY : A / 2 ^ N ≤ A := Nat.div_le_self _ _
  have lZ : A / 2 ^ N * 2 ^ N ≤ A := Nat.div_mul_le_self _ _
  have wb : wlen (val b) ≤ 4 := by have := wlen_val hx; omega
  have wA : wlen A ≤ 4 := Nat.le_trans (wlen_mono lA) wb
  have wY : wlen (A / 2 ^ N) ≤ 4 := Nat.le_trans (wlen_mono lY) wA
  have wZ : wlen (A / 2 ^ N * 2 ^ N) ≤ 4 := Nat.le_trans (wlen_mono lZ) wA
  rw [length_words, length_words, length_words, decide_eq_true (by omega), cond_true, decide_eq_true (by omega), cond_true, decide_eq_true (by omega), cond_true, decide_eq_true ⟨by omega, by omega, lZ⟩, cond_true]
  have e : A - A / 2 ^ N * 2 ^ N = A % 2 ^ N := by
    have := Nat.div_add_mod A (2 ^ N)
    rw [Nat.mul_comm] at this
    omega
  rw [e]
theorem rField_fn : FnOK Try.prog 77 rFieldC := fnOK_mk T mixed Try.func77 (by kernel_rfl) (fns := [(53, rightC), (51, leftC), (52, lessC)]) (lps := []) (live := []) (out := []) (fuel := 0) (give := (fun _ => false)) ⟨right_fn, left_fn, less_fn, trivial⟩ trivial rField_he
def rLayC : FnC := fun ds κ => match ds with
  | [.r .u64 4 b, .w .u64 a, .p (.int .i64 p)] => cond (decide (a.length ≤ 1000 ∧ 0 ≤ p ∧ p ≤ 1000)) (κ [(.mine, .r .u64 4 (wordsN 4 (val b + val a * 2 ^ p.toNat)))]) none
  | _ => none
def rLayE : Env := mkE ty [(51, leftC), (24, addC), (21, rBitsC)] [] [] [] 0 (fun _ => false)
theorem rLay_ev (b a : List Int) (p : Int) : evFn rLayE Try.f80 [.r .u64 4 b, .w .u64 a, .p (.int .i64 p)] =
    cond (decide (a.length ≤ 274877906944 ∧ 0 ≤ p ∧ p ≤ 1099511627776)) (cond (decide (b.length ≤ 549755813888 ∧ (words (val a * 2 ^ p.toNat)).length ≤ 549755813888))
      (some [(.mine, .r .u64 4 (wordsN 4 (val (words (val b + val (words (val a * 2 ^ p.toNat)))))))]) none) none := by kernel_rfl
theorem rLay_he : ∀ ds κ r, (∀ d ∈ ds, d.wf) → rLayC ds κ = some r → ∃ res, κ res = some r ∧ evFn rLayE Try.f80 ds = some res := fun ds κ r hw h => by
  unfold rLayC at h
  split at h
  case h_2 => cases h
  rename_i b a p
  replace h := cond_none h
  obtain ⟨hc, h⟩ := h
  obtain ⟨h1, h2, h3⟩ := of_decide_eq_true hc
  refine ⟨_, h, (rLay_ev b a p).trans ?_⟩
  obtain ⟨hl, hx⟩ := wfR hw (xs := b) (n := 4) (by simp)
  obtain ⟨_, ha⟩ := wfW hw (xs := a) (by simp)
  have w1 : wlen (val a * 2 ^ p.toNat) ≤ 1000 + 1000 := wlen_mul (by have := wlen_val ha; omega) (by have := wlen_two_pow p.toNat; omega)
  rw [val_words, val_words, length_words, decide_eq_true (by omega), cond_true, decide_eq_true (by omega), cond_true]
theorem rLay_fn : FnOK Try.prog 80 rLayC := fnOK_mk T mixed Try.func80 (by kernel_rfl) (fns := [(51, leftC), (24, addC), (21, rBitsC)]) (lps := []) (live := []) (out := []) (fuel := 0) (give := (fun _ => false)) ⟨left_fn, add_fn, rBits_fn, trivial⟩ trivial rLay_he

/-! ### ref04's formats -/
def rBinaryC : FnC := fun ds κ => match ds with
  | [.p (.int .i64 n)] => κ [(.mine, .p (.bool (decide (1 ≤ n ∧ n ≤ 6))))]
  | _ => none
def rFitsC : FnC := fun ds κ => match ds with
  | [.p (.int .i64 n), .r .u64 4 b] => cond (decide (1 ≤ n ∧ n ≤ 12)) (κ [(.mine, .p (.bool (decide (((bitlen (val b) : Nat) : Int) ≤ widthI n))))]) (κ [(.mine, .p (.bool false))])
  | _ => none
def rFitsE : Env := mkE ty [(14, rOfC), (50, lenC)] [] [] [] 0 (fun _ => false)
theorem rFits_ev (n : Int) (b : List Int) : evFn rFitsE Try.f74 [.p (.int .i64 n), .r .u64 4 b] = cond (decide (1 ≤ n ∧ n ≤ 12)) (some [(.mine, .p (.bool (decide (((bitlen (val b) : Nat) : Int) ≤ widthI n))))]) (some [(.mine, .p (.bool false))]) := by kernel_rfl
theorem rFits_he : ∀ ds κ r, (∀ d ∈ ds, d.wf) → rFitsC ds κ = some r → ∃ res, κ res = some r ∧ evFn rFitsE Try.f74 ds = some res := fun ds κ r hw h => by
  unfold rFitsC at h
  split at h
  case h_2 => cases h
  rename_i n b
  rw [rFits_ev]
  cases hd : decide (1 ≤ n ∧ n ≤ 12) <;> rw [hd] at h <;> exact ⟨_, h, rfl⟩
theorem rFits_fn : FnOK Try.prog 74 rFitsC := fnOK_mk T mixed Try.func74 (by kernel_rfl) (fns := [(14, rOfC), (50, lenC)]) (lps := []) (live := []) (out := []) (fuel := 0) (give := (fun _ => false)) ⟨rOf_fn, len_fn, trivial⟩ trivial rFits_he
def rGoodC : FnC := fun ds κ => match ds with
  | [.p (.int .i64 n), .r .u64 4 b] => cond (decide (1 ≤ n ∧ n ≤ 6)) (cond (decide (((bitlen (val b) : Nat) : Int) ≤ widthI n)) (κ [(.mine, .p (.bool true))]) (κ [(.mine, .p (.bool false))])) (κ [(.mine, .p (.bool false))])
  | _ => none
end
end Go.Proofs.Ytcglfmldodhakaa.Vm
