/-
  Shifts to the right: walks. No statement is proved here.
-/
import Derived.Test.YtmjbikbakkbajaaCalH
namespace Go.Proofs.Ytmjbikbakkbajaa.Vm
open Go Go.Vm
noncomputable section

/-! ### Right -/
def rightC : FnC := fun ds κ => match ds with
  | [.w .u64 xs, .p (.int .i64 n)] => cond (decide (xs.length ≤ 274877906944 ∧ 0 ≤ n)) (κ [(.new, .w .u64 (words (val xs / 2 ^ n.toNat))), (.mine, .p (.bool (decide (val xs % 2 ^ n.toNat ≠ 0))))]) none
  | _ => none
def rightL : LpC := lpC 84 [0, 1, 6, 12, 13] fun vs m κ => match vs, m with
  | [.o (.f 0), .o (.p (.int .i64 n)), .o (.p (.bool g)), .o (.p (.int .i64 l)), .o (.p (.int .i64 i))], [(o, .w .u64 n1 xs)] =>
    cond (decide (g = false ∧ l = (n1 : Int) ∧ i = 0 ∧ 0 ≤ n ∧ n < 9223372036854775808)) (κ (.exit 0) (lay 84 [0, 1, 6] [.o (.f 0), .o (.p (.int .i64 n)), .o (.p (.bool (decide (val xs % 2 ^ n.toNat ≠ 0))))]) [(o, .w .u64 n1 xs)]) none
  | _, _ => none
def rightL2 : LpC := lpC 84 [0, 1, 6, 8, 9] fun vs m κ => match vs, m with
  | [.o (.f 0), .o (.p (.int .i64 n)), .o (.p (.bool g)), .o .z, .o (.p (.int .i64 i))], [(_, .w .u64 n1 xs)] =>
    cond (decide (0 ≤ n ∧ n < 9223372036854775808 ∧ i = ((n.toNat / 64 : Nat) : Int) ∧ n1 ≤ 274877906944))
      (cond (decide (n.toNat / 64 < n1)) (κ (.exit 2) (lay 84 [6, 8] [.o (.p (.bool g)), .o (.f 0)]) [(.mine, .w .u64 (n1 - n.toNat / 64) (wordsN (n1 - n.toNat / 64) (val xs / 2 ^ n.toNat)))])
        (κ (.exit 2) (lay 84 [6, 8] [.o (.p (.bool g)), .o .z]) [])) none
  | _, _ => none
def rightE : Env := mkE ty [(77, wordC), (97, trimC)] [(0, rightL), (2, rightL2)] [(0, [0, 1, 6, 12, 13]), (2, [0, 1, 6, 8, 9])] [(0, [0, 1, 6]), (2, [6, 8])] 0 (fun _ => false)
def rightSt (n : Int) (g : Bool) (l i : Int) : List V := lay 84 [0, 1, 6, 12, 13] [.o (.f 0), .o (.p (.int .i64 n)), .o (.p (.bool g)), .o (.p (.int .i64 l)), .o (.p (.int .i64 i))]
def rightT (xs : List Int) (n1 : Nat) (i n : Int) (kT kF : R) : R :=
  cond (i == IntKind.i64.wrap (n.tdiv 64)) (cond (decide (0 ≤ i ∧ i < (n1 : Int))) (cond (decide (i.toNat < n1)) (cond (decide (IntKind.u64.wrap (n.tmod 64) < 0)) none
    (cond (Go.bits .and .u64 (xs.getD i.toNat 0) (IntKind.u64.wrap (shlI .u64 1 (IntKind.u64.wrap (n.tmod 64)) - 1)) != 0) kT kF)) none) none) kF
theorem right_round (n : Int) (g : Bool) (l i : Int) (o : Own) (n1 : Nat) (xs : List Int) (f : Nat) (κ : X → List V → Mem → R) :
    lx rightE Try.f83 0 (f + 1) (rightSt n g l i) [(o, .w .u64 n1 xs)] κ =
      cond (decide (i < l)) (cond (decide (i < IntKind.i64.wrap (n.tdiv 64)))
        (cond (decide (0 ≤ i ∧ i < (n1 : Int))) (cond (decide (i.toNat < n1)) (cond (xs.getD i.toNat 0 != 0) (lx rightE Try.f83 0 f (rightSt n true l (IntKind.i64.wrap (i + 1))) [(o, .w .u64 n1 xs)] κ)
          (rightT xs n1 i n (lx rightE Try.f83 0 f (rightSt n true l (IntKind.i64.wrap (i + 1))) [(o, .w .u64 n1 xs)] κ) (lx rightE Try.f83 0 f (rightSt n g l (IntKind.i64.wrap (i + 1))) [(o, .w .u64 n1 xs)] κ))) none) none)
        (rightT xs n1 i n (lx rightE Try.f83 0 f (rightSt n true l (IntKind.i64.wrap (i + 1))) [(o, .w .u64 n1 xs)] κ) (lx rightE Try.f83 0 f (rightSt n g l (IntKind.i64.wrap (i + 1))) [(o, .w .u64 n1 xs)] κ)))
      (κ (.exit 0) (lay 84 [0, 1, 6] [.o (.f 0), .o (.p (.int .i64 n)), .o (.p (.bool g))]) [(o, .w .u64 n1 xs)]) := by kernel_rfl
/-- The word of a place, shifted. -/
def rightW (xs : List Int) (i n : Int) (kκ : Int → R) : R :=
  cond (decide (IntKind.u64.wrap (n.tmod 64) < 0)) none (cond (decide (n.tmod 64 > 0))
    (cond (decide (IntKind.u64.wrap (IntKind.i64.wrap (64 - n.tmod 64)) < 0)) none
      (kκ (Go.bits .or .u64 (shrI .u64 (xs.getD i.toNat 0) (IntKind.u64.wrap (n.tmod 64))) (shlI .u64 (wordI xs (IntKind.i64.wrap (i + 1))) (IntKind.u64.wrap (IntKind.i64.wrap (64 - n.tmod 64)))))))
    (kκ (shrI .u64 (xs.getD i.toNat 0) (IntKind.u64.wrap (n.tmod 64)))))
theorem right_first (n : Int) (g : Bool) (i : Int) (o : Own) (n1 : Nat) (xs : List Int) (f : Nat) (κ : X → List V → Mem → R) :
    lx rightE Try.f83 2 (f + 1) (lay 84 [0, 1, 6, 8, 9] [.o (.f 0), .o (.p (.int .i64 n)), .o (.p (.bool g)), .o .z, .o (.p (.int .i64 i))]) [(o, .w .u64 n1 xs)] κ =
      cond (decide (i < (n1 : Int))) (cond (decide (0 ≤ i ∧ i < (n1 : Int))) (cond (decide (i.toNat < n1)) (rightW xs i n fun v =>
        lx rightE Try.f83 2 f (lay 84 [0, 1, 6, 8, 9] [.o (.f 0), .o (.p (.int .i64 n)), .o (.p (.bool g)), .o (.f 1), .o (.p (.int .i64 (IntKind.i64.wrap (i + 1))))]) [(o, .w .u64 n1 xs), (.mine, .w .u64 1 [v])] κ) none) none)
      (κ (.exit 2) (lay 84 [6, 8] [.o (.p (.bool g)), .o .z]) []) := by kernel_rfl
theorem right_more (n : Int) (g : Bool) (i : Int) (o : Own) (n1 n2 : Nat) (xs out : List Int) (f : Nat) (κ : X → List V → Mem → R) :
    lx rightE Try.f83 2 (f + 1) (lay 84 [0, 1, 6, 8, 9] [.o (.f 0), .o (.p (.int .i64 n)), .o (.p (.bool g)), .o (.f 1), .o (.p (.int .i64 i))]) [(o, .w .u64 n1 xs), (.mine, .w .u64 n2 out)] κ =
      cond (decide (i < (n1 : Int))) (cond (decide (0 ≤ i ∧ i < (n1 : Int))) (cond (decide (i.toNat < n1)) (rightW xs i n fun v =>
        cond (decide (IntKind.u64 = IntKind.u64 ∧ IntKind.u64 = IntKind.u64 ∧ nameOf (.o (.f 2)) ≠ some 1 ∧ n2 + [v].length ≤ 17592186044416))
        (lx rightE Try.f83 2 f (lay 84 [0, 1, 6, 8, 9] [.o (.f 0), .o (.p (.int .i64 n)), .o (.p (.bool g)), .o (.f 1), .o (.p (.int .i64 (IntKind.i64.wrap (i + 1))))]) [(o, .w .u64 n1 xs), (.mine, .w .u64 (n2 + [v].length) (out ++ [v]))] κ) none) none) none)
      (κ (.exit 2) (lay 84 [6, 8] [.o (.p (.bool g)), .o (.f 0)]) [(.mine, .w .u64 n2 out)]) := by kernel_rfl
theorem and_mask {x r : Nat} (hx : x < 18446744073709551616) (hr : r < 64) : Go.bits .and .u64 (x : Int) (IntKind.u64.wrap (shlI .u64 1 (r : Int) - 1)) = ((x % 2 ^ r : Nat) : Int) := by
  have h2 := two_pow_le hr
  have hp := Nat.two_pow_pos r
  have e : shlI .u64 1 (r : Int) - 1 = ((2 ^ r - 1 : Nat) : Int) := by
    have h1 := shl_nat 1 r
    rw [Nat.min_eq_left (by omega), Nat.one_mul, Nat.mod_eq_of_lt (by omega)] at h1
    have h3 : shlI .u64 1 (r : Int) = shlI .u64 ((1 : Nat) : Int) (r : Int) := rfl
    rw [h3, h1]
    omega
  rw [e, u64_wrap (by omega) (by omega), u64_and_nat x _ hx (by omega), Nat.and_two_pow_sub_one_eq_mod]
theorem wordsN_succ : ∀ (j n : Nat), wordsN (j + 1) n = wordsN j n ++ [((n / 18446744073709551616 ^ j % 18446744073709551616 : Nat) : Int)]
  | 0, n => by simp [wordsN]
  | j + 1, n => by
    rw [wordsN, wordsN_succ j, Nat.div_div_eq_div_mul, Nat.pow_succ, Nat.mul_comm (18446744073709551616 ^ j)]
    rfl
/-- What goes out, word by word. -/
theorem gone_low {X x n i : Nat} (hX : X < 18446744073709551616 ^ i) (hx : x < 18446744073709551616) (hi : i < n / 64) : (X + 18446744073709551616 ^ i * x) % 2 ^ n ≠ 0 ↔ X % 2 ^ n ≠ 0 ∨ x ≠ 0 := by
  have h1 : X + 18446744073709551616 ^ i * x < 18446744073709551616 ^ (i + 1) := by
    rw [Nat.pow_succ]
    have : 18446744073709551616 ^ i * (x + 1) ≤ 18446744073709551616 ^ i * 18446744073709551616 := Nat.mul_le_mul_left _ hx
    rw [Nat.mul_add, Nat.mul_one] at this
    exact Nat.lt_of_lt_of_le (Nat.add_lt_add_right hX _) (by rw [Nat.add_comm]; exact this)
  have h2 : 18446744073709551616 ^ (i + 1) ≤ 2 ^ n := by
    rw [pow64]
    exact Nat.pow_le_pow_right (by decide) (by omega)
  have h3 : X ≤ X + 18446744073709551616 ^ i * x := Nat.le_add_right _ _
  rw [Nat.mod_eq_of_lt (Nat.lt_of_lt_of_le h1 h2), Nat.mod_eq_of_lt (Nat.lt_of_le_of_lt h3 (Nat.lt_of_lt_of_le h1 h2))]
  have hp := pow_pos64 i
  constructor
  · intro h
    by_cases hz : x = 0
    · subst hz; left; simpa using h
    · exact .inr hz
  · rintro (h | h)
    · exact fun e => h (Nat.eq_zero_of_add_eq_zero_right e)
    · intro e
      have := Nat.eq_zero_of_add_eq_zero_left e
      rcases Nat.mul_eq_zero.1 this with h4 | h4
      · omega
      · exact h h4
theorem gone_at {X x n : Nat} (hX : X < 18446744073709551616 ^ (n / 64)) : (X + 18446744073709551616 ^ (n / 64) * x) % 2 ^ n ≠ 0 ↔ X % 2 ^ n ≠ 0 ∨ x % 2 ^ (n % 64) ≠ 0 := by
  have hp := pow_pos64 (n / 64)
  have e1 : (X + 18446744073709551616 ^ (n / 64) * x) % 2 ^ n = X + 18446744073709551616 ^ (n / 64) * (x % 2 ^ (n % 64)) := by
    rw [two_pow_split n, Nat.mod_mul, Nat.add_mul_mod_self_left, Nat.mod_eq_of_lt hX, Nat.add_mul_div_left _ _ hp, Nat.div_eq_of_lt hX, Nat.zero_add]
  have e2 : X % 2 ^ n = X := by
    refine Nat.mod_eq_of_lt (Nat.lt_of_lt_of_le hX ?_)
    rw [two_pow_split n]
    exact Nat.le_mul_of_pos_right _ (Nat.two_pow_pos _)
  rw [e1, e2]
  constructor
  · intro h
    by_cases hz : x % 2 ^ (n % 64) = 0
    · rw [hz] at h; left; simpa using h
    · exact .inr hz
  · rintro (h | h)
    · exact fun e => h (Nat.eq_zero_of_add_eq_zero_right e)
    · intro e
      have := Nat.eq_zero_of_add_eq_zero_left e
      rcases Nat.mul_eq_zero.1 this with h4 | h4
      · omega
      · exact h h4
theorem gone_high {X x n i : Nat} (hi : n / 64 < i) : (X + 18446744073709551616 ^ i * x) % 2 ^ n = X % 2 ^ n := by
  have : 18446744073709551616 ^ i * x = 2 ^ n * (2 ^ (64 * i - n) * x) := by
    rw [pow64, ← Nat.mul_assoc, ← Nat.pow_add, show n + (64 * i - n) = 64 * i from by omega]
  rw [this, Nat.add_mul_mod_self_left]
theorem dec_congr {p q : Prop} [Decidable p] [Decidable q] (h : p ↔ q) : decide p = decide q := by simp [h]
theorem right_loop (xs : List Int) (hx : inR .u64 xs) (hl : xs.length ≤ 140737488355328) (o : Own) (n : Nat) (hn : n < 9223372036854775808) (κ : X → List V → Mem → R) :
    ∀ (j i : Nat), i + j = xs.length →
    lx rightE Try.f83 0 (j + 1) (rightSt n (decide (val (xs.take i) % 2 ^ n ≠ 0)) xs.length i) [(o, .w .u64 xs.length xs)] κ =
      κ (.exit 0) (lay 84 [0, 1, 6] [.o (.f 0), .o (.p (.int .i64 n)), .o (.p (.bool (decide (val xs % 2 ^ n ≠ 0))))]) [(o, .w .u64 xs.length xs)] := by
  intro j
  induction j with
  | zero =>
    intro i hi
    rw [right_round, decide_eq_false (by omega), cond_false, List.take_of_length_le (by omega)]
  | succ j ih =>
    intro i hi
    have next := ih (i + 1) (by omega)
    have ax := inR_at hx i
    have hvx : val (xs.take (i + 1)) = val (xs.take i) + 18446744073709551616 ^ i * (xs.getD i 0).toNat := val_take_succ (by omega)
    have hX := val_lt (inR_take hx i)
    rw [List.length_take, Nat.min_eq_left (by omega)] at hX
    obtain ⟨x, hxx⟩ := Int.eq_ofNat_of_zero_le ax.1
    have hxl : x < 18446744073709551616 := by omega
    have d1 : decide ((i : Int) < ((xs.length : Nat) : Int)) = true := decide_eq_true (by omega)
    have d3 : decide ((0 : Int) ≤ (i : Int) ∧ (i : Int) < ((xs.length : Nat) : Int)) = true := decide_eq_true (by omega)
    have d4 : decide (i < xs.length) = true := decide_eq_true (by omega)
    rw [right_round, tdiv64, i64_wrap (x := ((n / 64 : Nat) : Int)) (by omega) (by omega), d1, cond_true, d3, cond_true, Int.toNat_natCast, d4, cond_true, i64_wrap (x := (i : Int) + 1) (by omega) (by omega), hxx]
    have e1 : ((i : Nat) : Int) + 1 = ((i + 1 : Nat) : Int) := rfl
    rw [e1]
    rw [hvx, hxx, Int.toNat_natCast] at next
    unfold rightT
    rw [tdiv64, i64_wrap (x := ((n / 64 : Nat) : Int)) (by omega) (by omega), tmod64, u64_wrap (x := ((n % 64 : Nat) : Int)) (by omega) (by omega), Int.toNat_natCast, hxx, and_mask hxl (by omega), d3, cond_true, d4, cond_true, decide_eq_false (p := ((n % 64 : Nat) : Int) < 0) (by omega), cond_false]
    rcases Nat.lt_trichotomy i (n / 64) with hlt | heq | hgt
    · have hg := gone_low hX hxl hlt
      rw [decide_eq_true (p := (i : Int) < ((n / 64 : Nat) : Int)) (by omega), cond_true, show (((i : Nat) : Int) == ((n / 64 : Nat) : Int)) = false from beq_eq_false_iff_ne.2 (by omega), cond_false]
      by_cases hz : x = 0
      · subst hz
        have : (((0 : Nat) : Int) != 0) = false := rfl
        rw [this, cond_false]
        rw [← next, dec_congr hg]
        simp
      · have : ((x : Int) != 0) = true := by simp [hz]
        rw [this, cond_true, ← next, dec_congr hg]
        simp [hz]
    · have hg := gone_at (x := x) (n := n) (by rw [← heq]; exact hX)
      rw [← heq] at hg
      rw [decide_eq_false (p := (i : Int) < ((n / 64 : Nat) : Int)) (by omega), cond_false, show (((i : Nat) : Int) == ((n / 64 : Nat) : Int)) = true from beq_iff_eq.2 (by omega), cond_true]
      by_cases hz : x % 2 ^ (n % 64) = 0
      · have : (((x % 2 ^ (n % 64) : Nat) : Int) != 0) = false := by rw [hz]; rfl
        rw [this, cond_false, ← next, dec_congr hg]
        simp [hz]
      · have : (((x % 2 ^ (n % 64) : Nat) : Int) != 0) = true := bne_iff_ne.2 (by omega)
        rw [this, cond_true, ← next, dec_congr hg]
        simp [hz]
    · have hg := gone_high (X := val (xs.take i)) (x := x) hgt
      rw [decide_eq_false (p := (i : Int) < ((n / 64 : Nat) : Int)) (by omega), cond_false, show (((i : Nat) : Int) == ((n / 64 : Nat) : Int)) = false from beq_eq_false_iff_ne.2 (by omega), cond_false, ← next, hg]
theorem rightL_ok : LoopOK rightE 0 (lbody Try.f83 0) rightL := loopOK_lx fun vs m κ r hv hm h => by
  split at h
  case h_2 => cases h
  rename_i n g l i o n1 xs
  replace h := cond_none h
  obtain ⟨hc, h⟩ := h
  obtain ⟨rfl, rfl, rfl, h3, h4⟩ := of_decide_eq_true hc
  obtain ⟨hx1, hx2, hx3⟩ := hm 0 _ _ rfl
  have h47 : lim = 140737488355328 := by decide
  obtain ⟨n, rfl⟩ := Int.eq_ofNat_of_zero_le h3
  rw [Int.toNat_natCast] at h
  subst hx1
  have key := right_loop xs hx3 (by omega) o n (by omega) κ xs.length 0 (by omega)
  have e : decide (val (xs.take 0) % 2 ^ n ≠ 0) = false := by simp [val]
  rw [e] at key
  exact ⟨_, key.trans h⟩
theorem rightW_eq (xs : List Int) (hx : inR .u64 xs) (hl : xs.length ≤ 140737488355328) (n i : Nat) (hi : i < xs.length) (hw : n / 64 ≤ i) (k : Int → R) :
    rightW xs i n k = k ((val xs / 2 ^ n / 18446744073709551616 ^ (i - n / 64) % 18446744073709551616 : Nat) : Int) := by
  have hr : n % 64 < 64 := Nat.mod_lt _ (by decide)
  have e0 : val xs / 2 ^ n / 18446744073709551616 ^ (i - n / 64) = val xs / 18446744073709551616 ^ i / 2 ^ (n % 64) := by
    rw [Nat.div_div_eq_div_mul, Nat.div_div_eq_div_mul, two_pow_split n, Nat.mul_right_comm, ← Nat.pow_add, show n / 64 + (i - n / 64) = i from by omega]
  have e1 : xs.getD i 0 = ((val xs / 18446744073709551616 ^ i % 18446744073709551616 : Nat) : Int) := getD_val hx i
  have e2 : xs.getD (i + 1) 0 = ((val xs / 18446744073709551616 ^ i / 18446744073709551616 % 18446744073709551616 : Nat) : Int) := by
    rw [getD_val hx, Nat.div_div_eq_div_mul, Nat.pow_succ]
  unfold rightW
  rw [tmod64, u64_wrap (x := ((n % 64 : Nat) : Int)) (by omega) (by omega), decide_eq_false (p := ((n % 64 : Nat) : Int) < 0) (by omega), cond_false, i64_wrap (x := (i : Int) + 1) (by omega) (by omega), show ((i : Nat) : Int) + 1 = ((i + 1 : Nat) : Int) from rfl, wordI_nat, Int.toNat_natCast, e1, e2, e0]
  generalize val xs / 18446744073709551616 ^ i = Q
  rw [shr_nat, Nat.min_eq_left (Nat.le_of_lt hr)]
  by_cases h0 : n % 64 = 0
  · rw [h0, decide_eq_false (by omega), cond_false, Nat.pow_zero, Nat.div_one, Nat.div_one]
  · have er : (64 : Int) - ((n % 64 : Nat) : Int) = ((64 - n % 64 : Nat) : Int) := by omega
    rw [decide_eq_true (p := ((n % 64 : Nat) : Int) > 0) (by omega), cond_true, er, i64_wrap (x := ((64 - n % 64 : Nat) : Int)) (by omega) (by omega), u64_wrap (x := ((64 - n % 64 : Nat) : Int)) (by omega) (by omega), decide_eq_false (p := ((64 - n % 64 : Nat) : Int) < 0) (by omega), cond_false]
    generalize n % 64 = r at *
    have hsp := pow64_split (Nat.le_of_lt hr)
    have hq1 : Q % 18446744073709551616 / 2 ^ r < 2 ^ (64 - r) := by
      rw [Nat.div_lt_iff_lt_mul (Nat.two_pow_pos r), Nat.mul_comm, ← hsp]
      exact Nat.mod_lt _ (by decide)
    obtain ⟨ho, hlt⟩ := or_shift (x := Q / 18446744073709551616 % 18446744073709551616) (show 64 - r < 64 by omega) hq1
    rw [ho]
    have h1 : Q / 2 ^ r = Q % 18446744073709551616 / 2 ^ r + 2 ^ (64 - r) * (Q / 18446744073709551616) := by
      have h2 : Q = Q % 18446744073709551616 + 2 ^ r * (2 ^ (64 - r) * (Q / 18446744073709551616)) := by
        rw [← Nat.mul_assoc, ← hsp, Nat.mod_add_div]
      have h3 : Q / 2 ^ r = (Q % 18446744073709551616 + 2 ^ r * (2 ^ (64 - r) * (Q / 18446744073709551616))) / 2 ^ r := congrArg (· / 2 ^ r) h2
      rw [h3, Nat.add_mul_div_left _ _ (Nat.two_pow_pos r)]
    have h4 : Q / 18446744073709551616 % 18446744073709551616 * 2 ^ (64 - r) % 18446744073709551616 = 2 ^ (64 - r) * (Q / 18446744073709551616) % 18446744073709551616 := by
      rw [Nat.mul_comm, Nat.mul_mod, Nat.mod_mod, ← Nat.mul_mod]
    have h5 : Q / 2 ^ r % 18446744073709551616 = Q % 18446744073709551616 / 2 ^ r + Q / 18446744073709551616 % 18446744073709551616 * 2 ^ (64 - r) % 18446744073709551616 := by
      rw [h4, h1, Nat.add_mod, Nat.mod_eq_of_lt (a := Q % 18446744073709551616 / 2 ^ r) (Nat.lt_of_le_of_lt (Nat.div_le_self _ _) (Nat.mod_lt _ (by decide))), ← h4, Nat.mod_eq_of_lt hlt]
    rw [h5]
theorem right_loop2 (xs : List Int) (hx : inR .u64 xs) (hl : xs.length ≤ 274877906944) (o : Own) (n : Nat) (g : Bool) (κ : X → List V → Mem → R) :
    ∀ (j i : Nat), i + j = xs.length → n / 64 ≤ i →
    lx rightE Try.f83 2 (j + 1) (lay 84 [0, 1, 6, 8, 9] [.o (.f 0), .o (.p (.int .i64 n)), .o (.p (.bool g)), .o (.f 1), .o (.p (.int .i64 i))]) [(o, .w .u64 xs.length xs), (.mine, .w .u64 (i - n / 64) (wordsN (i - n / 64) (val xs / 2 ^ n)))] κ =
      κ (.exit 2) (lay 84 [6, 8] [.o (.p (.bool g)), .o (.f 0)]) [(.mine, .w .u64 (xs.length - n / 64) (wordsN (xs.length - n / 64) (val xs / 2 ^ n)))] := by
  intro j
  induction j with
  | zero =>
    intro i hi hw
    rw [right_more, decide_eq_false (by omega), cond_false, show i = xs.length from by omega]
  | succ j ih =>
    intro i hi hw
    have next := ih (i + 1) (by omega) (by omega)
    have d1 : decide ((i : Int) < ((xs.length : Nat) : Int)) = true := decide_eq_true (by omega)
    have d3 : decide ((0 : Int) ≤ (i : Int) ∧ (i : Int) < ((xs.length : Nat) : Int)) = true := decide_eq_true (by omega)
    have d4 : decide (i < xs.length) = true := decide_eq_true (by omega)
    rw [right_more, d1, cond_true, d3, cond_true, Int.toNat_natCast, d4, cond_true, rightW_eq xs hx (by omega) n i (by omega) hw, decide_eq_true ⟨rfl, rfl, by decide, by simp; omega⟩, cond_true, i64_wrap (x := (i : Int) + 1) (by omega) (by omega), ← wordsN_succ]
    have e1 : i - n / 64 + 1 = i + 1 - n / 64 := by omega
    rw [List.length_singleton, e1]
    exact next
theorem rightL2_ok : LoopOK rightE 2 (lbody Try.f83 2) rightL2 := loopOK_lx fun vs m κ r hv hm h => by
  split at h
  case h_2 => cases h
  rename_i n g i o n1 xs
  replace h := cond_none h
  obtain ⟨hc, h⟩ := h
  obtain ⟨h3, h4, rfl, h5⟩ := of_decide_eq_true hc
  obtain ⟨hx1, hx2, hx3⟩ := hm 0 _ _ rfl
  obtain ⟨n, rfl⟩ := Int.eq_ofNat_of_zero_le h3
  rw [Int.toNat_natCast] at *
  subst hx1
  by_cases hlt : n / 64 < xs.length
  · rw [decide_eq_true hlt, cond_true] at h
    have key := right_loop2 xs hx3 (by omega) o n g κ (xs.length - (n / 64 + 1)) (n / 64 + 1) (by omega) (by omega)
    refine ⟨xs.length - (n / 64 + 1) + 1 + 1, ?_⟩
    rw [right_first, decide_eq_true (by omega), cond_true, decide_eq_true (by omega), cond_true, Int.toNat_natCast, decide_eq_true hlt, cond_true, rightW_eq xs hx3 (by omega) n (n / 64) hlt (Nat.le_refl _), i64_wrap (x := ((n / 64 : Nat) : Int) + 1) (by omega) (by omega)]
    have e : n / 64 + 1 - n / 64 = 1 := by omega
    rw [e] at key
    have e2 : wordsN 1 (val xs / 2 ^ n) = [((val xs / 2 ^ n / 18446744073709551616 ^ (n / 64 - n / 64) % 18446744073709551616 : Nat) : Int)] := by
      rw [Nat.sub_self, Nat.pow_zero, Nat.div_one]
      rfl
    rw [e2] at key
    exact key.trans h
  · rw [decide_eq_false hlt, cond_false] at h
    refine ⟨1, ?_⟩
    rw [right_first, decide_eq_false (by omega), cond_false]
    exact h
theorem right_ev (xs : List Int) (n : Int) : evFn rightE Try.f83 [.w .u64 xs, .p (.int .i64 n)] =
    cond (decide (false = false ∧ (xs.length : Int) = (xs.length : Int) ∧ (0 : Int) = 0 ∧ 0 ≤ n ∧ n < 9223372036854775808))
      (cond (decide (0 ≤ n ∧ n < 9223372036854775808 ∧ IntKind.i64.wrap (n.tdiv 64) = ((n.toNat / 64 : Nat) : Int) ∧ xs.length ≤ 274877906944))
        (cond (decide (n.toNat / 64 < xs.length))
          (cond (decide ((wordsN (xs.length - n.toNat / 64) (val xs / 2 ^ n.toNat)).length ≤ 1099511627776))
            (some [(.new, .w .u64 (words (val (wordsN (xs.length - n.toNat / 64) (val xs / 2 ^ n.toNat))))), (.mine, .p (.bool (decide (val xs % 2 ^ n.toNat ≠ 0))))]) none)
          (some [(.new, .w .u64 (words (val []))), (.mine, .p (.bool (decide (val xs % 2 ^ n.toNat ≠ 0))))])) none) none := by kernel_rfl
theorem shr_lt (xs : List Int) (hx : inR .u64 xs) (n : Nat) : val xs / 2 ^ n < 18446744073709551616 ^ (xs.length - n / 64) := by
  rw [Nat.div_lt_iff_lt_mul (Nat.two_pow_pos n)]
  refine Nat.lt_of_lt_of_le (val_lt hx) ?_
  rw [pow64, pow64, ← Nat.pow_add]
  exact Nat.pow_le_pow_right (by decide) (by omega)
theorem right_he : ∀ ds κ r, (∀ d ∈ ds, d.wf) → rightC ds κ = some r → ∃ res, κ res = some r ∧ evFn rightE Try.f83 ds = some res := fun ds κ r hw h => by
  unfold rightC at h
  split at h
  case h_2 => cases h
  rename_i xs n
  obtain ⟨hc, h⟩ := cond_none h
  obtain ⟨h1, h2⟩ := of_decide_eq_true hc
  have hx := (wfW hw (xs := xs) (by simp)).2
  have hn := (wfI hw (x := n) (by simp)).2
  refine ⟨_, h, (right_ev xs n).trans ?_⟩
  obtain ⟨n, rfl⟩ := Int.eq_ofNat_of_zero_le h2
  have hlt := shr_lt xs hx n
  rw [tdiv64, i64_wrap (x := ((n / 64 : Nat) : Int)) (by omega) (by omega), Int.toNat_natCast, decide_eq_true ⟨rfl, rfl, rfl, by omega, hn⟩, cond_true, decide_eq_true ⟨by omega, hn, rfl, h1⟩, cond_true]
  by_cases hl : n / 64 < xs.length
  · rw [decide_eq_true hl, cond_true, length_wordsN, decide_eq_true (by omega), cond_true, val_wordsN, Nat.mod_eq_of_lt hlt]
  · rw [decide_eq_false hl, cond_false]
    rw [show xs.length - n / 64 = 0 from by omega, Nat.pow_zero] at hlt
    rw [show val xs / 2 ^ n = 0 from Nat.lt_one_iff.1 hlt]
    rfl
theorem right_fn : FnOK Try.prog 83 rightC := fnOK_mk T mixed Try.func83 (by kernel_rfl) (fns := [(77, wordC), (97, trimC)]) (lps := [(0, rightL), (2, rightL2)]) (live := [(0, [0, 1, 6, 12, 13]), (2, [0, 1, 6, 8, 9])]) (out := [(0, [0, 1, 6]), (2, [6, 8])]) (fuel := 0) (give := (fun _ => false)) ⟨word_fn, trim_fn, trivial⟩ ⟨rightL_ok, rightL2_ok, trivial⟩ right_he
end
end Go.Proofs.Ytmjbikbakkbajaa.Vm
