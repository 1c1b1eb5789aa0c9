/-
  Shifts of natural numbers: walks. No statement is proved here.
-/
import Derived.Test.YtmjbikbakkbajaaCalG
namespace Go.Proofs.Ytmjbikbakkbajaa.Vm
open Go Go.Vm
noncomputable section

theorem tdiv64 (n : Nat) : Int.tdiv (n : Int) 64 = ((n / 64 : Nat) : Int) := rfl
theorem tmod64 (n : Nat) : Int.tmod (n : Int) 64 = ((n % 64 : Nat) : Int) := rfl
theorem or_disjoint {h q r : Nat} (hh : h < 2 ^ r) (hw : h < 18446744073709551616) (hq : 2 ^ r * q < 18446744073709551616) : Go.bits .or .u64 (h : Int) ((2 ^ r * q : Nat) : Int) = ((h + 2 ^ r * q : Nat) : Int) := by
  rw [u64_or_nat h _ hw hq, Nat.or_comm, ← Nat.two_pow_add_eq_or_of_lt hh, Nat.add_comm]
theorem mod_shift {x r : Nat} (hr : r ≤ 64) : x * 2 ^ r % 18446744073709551616 = 2 ^ r * (x % 2 ^ (64 - r)) := by
  have e : (18446744073709551616 : Nat) = 2 ^ r * 2 ^ (64 - r) := by
    rw [← Nat.pow_add, show r + (64 - r) = 64 from by omega]
  rw [e, Nat.mul_comm x, Nat.mul_mod_mul_left]
theorem div_shift {x r : Nat} (hr : r ≤ 64) : x * 2 ^ r / 18446744073709551616 = x / 2 ^ (64 - r) := by
  have e : (18446744073709551616 : Nat) = 2 ^ (64 - r) * 2 ^ r := by
    rw [← Nat.pow_add, show 64 - r + r = 64 from by omega]
  rw [e, Nat.mul_div_mul_right _ _ (Nat.two_pow_pos r)]

/-! ### Left -/
def leftC : FnC := fun ds κ => match ds with
  | [.w .u64 xs, .p (.int .i64 n)] => cond (decide (xs.length ≤ 274877906944 ∧ 0 ≤ n ∧ n ≤ 1099511627776)) (κ [(.mine, .w .u64 (words (val xs * 2 ^ n.toNat)))]) none
  | _ => none
def leftL : LpC := lpC 63 [0, 1, 5, 15, 16] fun vs m κ => match vs, m with
  | [.o (.f 0), .o (.p (.int .i64 n)), .o (.f 1), .o (.p (.int .i64 l)), .o (.p (.int .i64 i))], [(_, .w .u64 n1 xs), (.mine, .w .u64 n2 out)] =>
    cond (decide (l = (n1 : Int) ∧ i = 0 ∧ 0 ≤ n ∧ n ≤ 1099511627776 ∧ n1 ≤ 274877906944 ∧ n2 = n1 + n.toNat / 64 + 1 ∧ val out = 0)) (κ (.exit 0) (lay 63 [5] [.o (.f 0)]) [(.mine, .w .u64 n2 (wordsN n2 (val xs * 2 ^ n.toNat)))]) none
  | _, _ => none
def leftE : Env := mkE ty [(97, trimC)] [(0, leftL)] [(0, [0, 1, 5, 15, 16])] [(0, [5])] 0 (fun _ => false)
def leftSt (n l i : Int) : List V := lay 63 [0, 1, 5, 15, 16] [.o (.f 0), .o (.p (.int .i64 n)), .o (.f 1), .o (.p (.int .i64 l)), .o (.p (.int .i64 i))]
theorem left_round (n l i : Int) (o : Own) (n1 n2 : Nat) (xs out : List Int) (f : Nat) (κ : X → List V → Mem → R) :
    lx leftE Try.f78 0 (f + 1) (leftSt n l i) [(o, .w .u64 n1 xs), (.mine, .w .u64 n2 out)] κ =
      let p := IntKind.i64.wrap (i + IntKind.i64.wrap (n.tdiv 64))
      let v := Go.bits .or .u64 (out.getD p.toNat 0) (shlI .u64 (xs.getD i.toNat 0) (IntKind.u64.wrap (n.tmod 64)))
      let w := shrI .u64 (xs.getD i.toNat 0) (IntKind.u64.wrap (IntKind.i64.wrap (64 - n.tmod 64)))
      cond (decide (i < l)) (cond (decide (0 ≤ p ∧ p < (n2 : Int))) (cond (decide (p.toNat < n2)) (cond (decide (0 ≤ i ∧ i < (n1 : Int))) (cond (decide (i.toNat < n1)) (cond (decide (IntKind.u64.wrap (n.tmod 64) < 0)) none
        (cond (decide (0 ≤ p ∧ p < (n2 : Int))) (cond (decide (p.toNat < n2 ∧ IntKind.u64 = IntKind.u64 ∧ (Ty.i .u64).size = 1))
          (cond (decide (n.tmod 64 > 0))
            (cond (decide (0 ≤ i ∧ i < (n1 : Int))) (cond (decide (i.toNat < n1)) (cond (decide (IntKind.u64.wrap (IntKind.i64.wrap (64 - n.tmod 64)) < 0)) none
              (cond (decide (0 ≤ IntKind.i64.wrap (p + 1) ∧ IntKind.i64.wrap (p + 1) < (n2 : Int))) (cond (decide ((IntKind.i64.wrap (p + 1)).toNat < n2 ∧ IntKind.u64 = IntKind.u64 ∧ (Ty.i .u64).size = 1))
                (lx leftE Try.f78 0 f (leftSt n l (IntKind.i64.wrap (i + 1))) [(o, .w .u64 n1 xs), (.mine, .w .u64 n2 ((out.set p.toNat v).set (IntKind.i64.wrap (p + 1)).toNat w))] κ) none) none)) none) none)
            (lx leftE Try.f78 0 f (leftSt n l (IntKind.i64.wrap (i + 1))) [(o, .w .u64 n1 xs), (.mine, .w .u64 n2 (out.set p.toNat v))] κ)) none) none)) none) none) none) none)
      (κ (.exit 0) (lay 63 [5] [.o (.f 0)]) [(.mine, .w .u64 n2 out)]) := by kernel_rfl
theorem two_pow_le {r : Nat} (hr : r < 64) : 2 ^ r ≤ 9223372036854775808 := Nat.pow_le_pow_right (n := 2) (by decide) (show r ≤ 63 by omega)
theorem pow_pos64 (p : Nat) : 0 < 18446744073709551616 ^ p := Nat.pow_pos (by decide)
theorem pow_two_le {p r : Nat} (hr : r < 64) : (18446744073709551616 : Nat) ^ p * 2 ^ r ≤ 18446744073709551616 ^ (p + 1) := by
  rw [Nat.pow_succ]
  exact Nat.mul_le_mul_left _ (by have := two_pow_le hr; omega)
theorem pow64_split {r : Nat} (hr : r ≤ 64) : (18446744073709551616 : Nat) = 2 ^ r * 2 ^ (64 - r) := by rw [← Nat.pow_add, show r + (64 - r) = 64 from by omega]
theorem or_shift {h r x : Nat} (hr : r < 64) (hh : h < 2 ^ r) : Go.bits .or .u64 (h : Int) (shlI .u64 (x : Int) (r : Int)) = ((h + x * 2 ^ r % 18446744073709551616 : Nat) : Int) ∧ h + x * 2 ^ r % 18446744073709551616 < 18446744073709551616 := by
  have h2 := two_pow_le hr
  have hlt : 2 ^ r * (x % 2 ^ (64 - r)) < 18446744073709551616 := by rw [← mod_shift (by omega)]; exact Nat.mod_lt _ (by decide)
  constructor
  · rw [shl_nat, Nat.min_eq_left (by omega), mod_shift (by omega), or_disjoint hh (by omega) hlt]
  · rw [mod_shift (by omega)]
    have hm : x % 2 ^ (64 - r) < 2 ^ (64 - r) := Nat.mod_lt _ (Nat.two_pow_pos _)
    have h3 : 2 ^ r * (x % 2 ^ (64 - r) + 1) ≤ 2 ^ r * 2 ^ (64 - r) := Nat.mul_le_mul_left _ hm
    rw [Nat.mul_add, ← pow64_split (by omega), Nat.mul_one] at h3
    generalize 2 ^ r * (x % 2 ^ (64 - r)) = q at *
    omega
theorem word_at {A p n2 b : Nat} (hA : A < 18446744073709551616 ^ p * b) (hb : b ≤ 18446744073709551616) (hp : p < n2) :
    val (wordsN n2 A) = A ∧ (wordsN n2 A).getD p 0 = ((A / 18446744073709551616 ^ p : Nat) : Int) ∧ A / 18446744073709551616 ^ p < b ∧ ∀ q, p < q → (wordsN n2 A).getD q 0 = 0 := by
  have h1 : A < 18446744073709551616 ^ (p + 1) := by
    rw [Nat.pow_succ]
    exact Nat.lt_of_lt_of_le hA (Nat.mul_le_mul_left _ hb)
  have h2 : ∀ q, p < q → A < 18446744073709551616 ^ q := fun q hq => Nat.lt_of_lt_of_le h1 (Nat.pow_le_pow_right (by decide) hq)
  have h3 : A / 18446744073709551616 ^ p < b := by
    rw [Nat.div_lt_iff_lt_mul (pow_pos64 p), Nat.mul_comm]
    exact hA
  have h4 : val (wordsN n2 A) = A := by rw [val_wordsN, Nat.mod_eq_of_lt (h2 n2 hp)]
  refine ⟨h4, ?_, h3, fun q hq => ?_⟩
  · rw [getD_val (inR_wordsN _ _), h4, Nat.mod_eq_of_lt (Nat.lt_of_lt_of_le h3 hb)]
  · rw [getD_val (inR_wordsN _ _), h4, Nat.div_eq_of_lt (h2 q hq)]
    rfl
theorem left_words {A p r n2 x : Nat} (hr : r < 64) (hA : A < 18446744073709551616 ^ p * 2 ^ r) (hx : x < 18446744073709551616) (hp : p + 1 < n2) :
    (r = 0 → (wordsN n2 A).set p (Go.bits .or .u64 ((wordsN n2 A).getD p 0) (shlI .u64 (x : Int) (r : Int))) = wordsN n2 (A + 18446744073709551616 ^ p * (x * 2 ^ r))) ∧
    ((wordsN n2 A).set p (Go.bits .or .u64 ((wordsN n2 A).getD p 0) (shlI .u64 (x : Int) (r : Int)))).set (p + 1) (shrI .u64 (x : Int) ((64 - r : Nat) : Int)) = wordsN n2 (A + 18446744073709551616 ^ p * (x * 2 ^ r)) := by
  have hr64 : r ≤ 64 := Nat.le_of_lt hr
  have hp1 : p < n2 := Nat.lt_of_succ_lt hp
  have hne : p ≠ p + 1 := Nat.ne_of_lt (Nat.lt_succ_self p)
  have h2 : 2 ^ r ≤ 18446744073709551616 := Nat.le_trans (two_pow_le hr) (by decide)
  have hL := length_wordsN n2 A
  obtain ⟨hv0, hg, hh, hz⟩ := word_at hA h2 hp1
  obtain ⟨hvv, hvlt⟩ := or_shift (x := x) hr hh
  have hsh : shrI .u64 (x : Int) ((64 - r : Nat) : Int) = ((x * 2 ^ r / 18446744073709551616 : Nat) : Int) := by
    rw [shr_nat, Nat.min_eq_left (Nat.sub_le 64 r), div_shift hr64]
  have hhi : x * 2 ^ r / 18446744073709551616 < 18446744073709551616 := by
    rw [div_shift hr64]
    exact Nat.lt_of_le_of_lt (Nat.div_le_self _ _) hx
  rw [hg, hvv, hsh]
  have e : 18446744073709551616 ^ p * (x * 2 ^ r) = 18446744073709551616 ^ p * (x * 2 ^ r % 18446744073709551616) + 18446744073709551616 ^ (p + 1) * (x * 2 ^ r / 18446744073709551616) := by
    rw [Nat.pow_succ, Nat.mul_assoc, ← Nat.mul_add, Nat.mod_add_div]
  have e0 : r = 0 → x * 2 ^ r % 18446744073709551616 = x * 2 ^ r := fun h0 => by subst h0; rw [Nat.pow_zero, Nat.mul_one, Nat.mod_eq_of_lt hx]
  generalize x * 2 ^ r % 18446744073709551616 = lo at *
  generalize x * 2 ^ r / 18446744073709551616 = hi at *
  generalize A / 18446744073709551616 ^ p = h at *
  have s1 := val_set (xs := wordsN n2 A) (i := p) (by rw [hL]; exact hp1) ((h + lo : Nat) : Int)
  rw [hv0, hg, Int.toNat_natCast, Int.toNat_natCast, Nat.mul_add] at s1
  have z1 : ((wordsN n2 A).set p ((h + lo : Nat) : Int)).getD (p + 1) 0 = 0 := by
    rw [List.getD_eq_getElem?_getD, List.getElem?_set_ne hne, ← List.getD_eq_getElem?_getD, hz (p + 1) (Nat.lt_succ_self p)]
  have hR1 : inR .u64 ((wordsN n2 A).set p ((h + lo : Nat) : Int)) := inR_set (inR_wordsN _ _) p (Int.natCast_nonneg _) (Int.ofNat_lt.2 hvlt)
  have hL1 : ((wordsN n2 A).set p ((h + lo : Nat) : Int)).length = n2 := by rw [List.length_set, hL]
  generalize (wordsN n2 A).set p ((h + lo : Nat) : Int) = l1 at *
  have v1 : val l1 = A + 18446744073709551616 ^ p * lo := Nat.add_right_cancel (m := 18446744073709551616 ^ p * h) (by rw [s1, Nat.add_comm (18446744073709551616 ^ p * h), Nat.add_assoc])
  constructor
  · intro h0
    refine wordsN_eq hR1 hL1 ?_
    rw [v1, e0 h0]
  · refine wordsN_eq (inR_set hR1 _ (Int.natCast_nonneg _) (Int.ofNat_lt.2 hhi)) (by rw [List.length_set, hL1]) ?_
    have s2 := val_set (xs := l1) (i := p + 1) (by rw [hL1]; exact hp) ((hi : Nat) : Int)
    rw [z1, Int.toNat_natCast, v1, Int.toNat_zero, Nat.mul_zero] at s2
    rw [e]
    exact s2.trans (Nat.add_assoc _ _ _)
theorem two_pow_split (n : Nat) : 2 ^ n = 18446744073709551616 ^ (n / 64) * 2 ^ (n % 64) := by
  rw [pow64, ← Nat.pow_add, Nat.div_add_mod]
theorem left_loop (xs : List Int) (hx : inR .u64 xs) (o : Own) (n n2 : Nat) (h2 : n2 = xs.length + n / 64 + 1) (hl : xs.length ≤ 274877906944) (hn : n ≤ 1099511627776) (κ : X → List V → Mem → R) :
    ∀ (j i : Nat), i + j = xs.length →
    lx leftE Try.f78 0 (j + 1) (leftSt n xs.length i) [(o, .w .u64 xs.length xs), (.mine, .w .u64 n2 (wordsN n2 (val (xs.take i) * 2 ^ n)))] κ =
      κ (.exit 0) (lay 63 [5] [.o (.f 0)]) [(.mine, .w .u64 n2 (wordsN n2 (val xs * 2 ^ n)))] := by
  intro j
  induction j with
  | zero =>
    intro i hi
    rw [left_round]
    simp only []
    rw [decide_eq_false (by omega), cond_false, List.take_of_length_le (by omega)]
  | succ j ih =>
    intro i hi
    have ep : ((i : Nat) : Int) + ((n / 64 : Nat) : Int) = ((i + n / 64 : Nat) : Int) := rfl
    have ep1 : ((i + n / 64 : Nat) : Int) + 1 = ((i + n / 64 + 1 : Nat) : Int) := rfl
    have er : (64 : Int) - ((n % 64 : Nat) : Int) = ((64 - n % 64 : Nat) : Int) := by omega
    rw [left_round]
    simp only []
    rw [tdiv64, tmod64, i64_wrap (x := ((n / 64 : Nat) : Int)) (by omega) (by omega), ep, i64_wrap (x := ((i + n / 64 : Nat) : Int)) (by omega) (by omega), ep1, i64_wrap (x := ((i + n / 64 + 1 : Nat) : Int)) (by omega) (by omega),
      er, i64_wrap (x := ((64 - n % 64 : Nat) : Int)) (by omega) (by omega), u64_wrap (x := ((n % 64 : Nat) : Int)) (by omega) (by omega), u64_wrap (x := ((64 - n % 64 : Nat) : Int)) (by omega) (by omega), i64_wrap (x := (i : Int) + 1) (by omega) (by omega)]
    rw [Int.toNat_natCast, Int.toNat_natCast, Int.toNat_natCast]
    have ax := inR_at hx i
    have hvx : val (xs.take (i + 1)) = val (xs.take i) + 18446744073709551616 ^ i * (xs.getD i 0).toNat := val_take_succ (by omega)
    obtain ⟨x, hX⟩ := Int.eq_ofNat_of_zero_le ax.1
    rw [hX, Int.toNat_natCast] at hvx
    rw [hX]
    have hA : val (xs.take i) * 2 ^ n < 18446744073709551616 ^ (i + n / 64) * 2 ^ (n % 64) := by
      have h1 := val_lt (inR_take hx i)
      rw [List.length_take, Nat.min_eq_left (by omega)] at h1
      rw [two_pow_split n, Nat.pow_add, ← Nat.mul_assoc]
      exact Nat.mul_lt_mul_of_pos_right (Nat.mul_lt_mul_of_pos_right h1 (Nat.pow_pos (by decide))) (Nat.two_pow_pos _)
    have hxl : x < 18446744073709551616 := by omega
    obtain ⟨w0, w1⟩ := left_words (n2 := n2) (x := x) (show n % 64 < 64 by omega) hA hxl (by omega)
    have en : val (xs.take i) * 2 ^ n + 18446744073709551616 ^ (i + n / 64) * (x * 2 ^ (n % 64)) = val (xs.take (i + 1)) * 2 ^ n := by
      rw [hvx, Nat.add_mul]
      congr 1
      rw [two_pow_split n, Nat.pow_add]
      simp only [Nat.mul_assoc, Nat.mul_comm, Nat.mul_left_comm]
    rw [en] at w0 w1
    have d1 : decide ((0 : Int) ≤ ((i + n / 64 : Nat) : Int) ∧ ((i + n / 64 : Nat) : Int) < (n2 : Int)) = true := decide_eq_true (by omega)
    have d2 : decide (i + n / 64 < n2) = true := decide_eq_true (by omega)
    have d3 : decide ((0 : Int) ≤ (i : Int) ∧ (i : Int) < ((xs.length : Nat) : Int)) = true := decide_eq_true (by omega)
    have d4 : decide (i < xs.length) = true := decide_eq_true (by omega)
    have d5 : decide (((n % 64 : Nat) : Int) < 0) = false := decide_eq_false (by omega)
    have d6 : decide (i + n / 64 < n2 ∧ True ∧ (Ty.i .u64).size = 1) = true := decide_eq_true ⟨by omega, trivial, rfl⟩
    have d7 : decide ((i : Int) < ((xs.length : Nat) : Int)) = true := decide_eq_true (by omega)
    rw [d7, cond_true, d1, cond_true, d2, cond_true, d3, cond_true, d4, cond_true, d5, cond_false, cond_true, d6, cond_true]
    have next := ih (i + 1) (by omega)
    by_cases hr : n % 64 = 0
    · rw [w0 hr, decide_eq_false (by omega), cond_false]
      exact next
    · have d8 : decide (((64 - n % 64 : Nat) : Int) < 0) = false := decide_eq_false (by omega)
      have d9 : decide ((0 : Int) ≤ ((i + n / 64 + 1 : Nat) : Int) ∧ ((i + n / 64 + 1 : Nat) : Int) < (n2 : Int)) = true := decide_eq_true (by omega)
      have d10 : decide (i + n / 64 + 1 < n2 ∧ True ∧ (Ty.i .u64).size = 1) = true := decide_eq_true ⟨by omega, trivial, rfl⟩
      rw [w1, decide_eq_true (by omega), cond_true, cond_true, cond_true, d8, cond_false, d9, cond_true, d10, cond_true]
      exact next
theorem leftL_ok : LoopOK leftE 0 (lbody Try.f78 0) leftL := loopOK_lx fun vs m κ r hv hm h => by
  split at h
  case h_2 => cases h
  rename_i n l i o n1 xs n2 out
  replace h := cond_none h
  obtain ⟨hc, h⟩ := h
  obtain ⟨rfl, rfl, h3, h4, h5, h6, h7⟩ := of_decide_eq_true hc
  obtain ⟨hx1, hx2, hx3⟩ := hm 0 _ _ rfl
  obtain ⟨hz1, hz2, hz3⟩ := hm 1 _ _ rfl
  obtain ⟨n, rfl⟩ := Int.eq_ofNat_of_zero_le h3
  rw [Int.toNat_natCast] at *
  subst hx1
  have ho : out = wordsN n2 0 := wordsN_eq hz3 hz1 h7
  subst ho
  have key := left_loop xs hx3 o n n2 h6 h5 (by omega) κ xs.length 0 (by omega)
  simp only [List.take_zero, val, Nat.zero_mul] at key
  exact ⟨_, key.trans h⟩
theorem left_ev (xs : List Int) (n : Int) : evFn leftE Try.f78 [.w .u64 xs, .p (.int .i64 n)] =
    let l := IntKind.i64.wrap (IntKind.i64.wrap ((xs.length : Int) + IntKind.i64.wrap (n.tdiv 64)) + 1)
    cond (decide (0 ≤ l ∧ l ≤ l ∧ l ≤ 17592186044416)) (cond (decide ((xs.length : Int) = (xs.length : Int) ∧ (0 : Int) = 0 ∧ 0 ≤ n ∧ n ≤ 1099511627776 ∧ xs.length ≤ 274877906944 ∧ l.toNat = xs.length + n.toNat / 64 + 1 ∧ val (List.replicate l.toNat 0) = 0))
      (cond (decide ((wordsN l.toNat (val xs * 2 ^ n.toNat)).length ≤ 1099511627776)) (some [(.mine, .w .u64 (words (val (wordsN l.toNat (val xs * 2 ^ n.toNat)))))]) none) none) none := by kernel_rfl
theorem shl_lt (xs : List Int) (hx : inR .u64 xs) (n : Nat) : val xs * 2 ^ n < 18446744073709551616 ^ (xs.length + n / 64 + 1) := by
  rw [two_pow_split n, ← Nat.mul_assoc]
  refine Nat.lt_of_lt_of_le (Nat.mul_lt_mul_of_pos_right (Nat.mul_lt_mul_of_pos_right (val_lt hx) (pow_pos64 _)) (Nat.two_pow_pos _)) ?_
  rw [← Nat.pow_add]
  exact pow_two_le (by omega)
theorem left_he : ∀ ds κ r, (∀ d ∈ ds, d.wf) → leftC ds κ = some r → ∃ res, κ res = some r ∧ evFn leftE Try.f78 ds = some res := fun ds κ r hw h => by
  unfold leftC at h
  split at h
  case h_2 => cases h
  rename_i xs n
  obtain ⟨hc, h⟩ := cond_none h
  obtain ⟨h1, h2, h3⟩ := of_decide_eq_true hc
  have hx := (wfW hw (xs := xs) (by simp)).2
  refine ⟨_, h, (left_ev xs n).trans ?_⟩
  obtain ⟨n, rfl⟩ := Int.eq_ofNat_of_zero_le h2
  have hlt := shl_lt xs hx n
  simp only []
  rw [tdiv64, i64_wrap (x := ((n / 64 : Nat) : Int)) (by omega) (by omega), i64_wrap (x := (xs.length : Int) + ((n / 64 : Nat) : Int)) (by omega) (by omega), i64_wrap (by omega) (by omega)]
  have e : ((xs.length : Int) + ((n / 64 : Nat) : Int) + 1).toNat = xs.length + n / 64 + 1 := by omega
  rw [e, Int.toNat_natCast, val_zeros, length_wordsN, val_wordsN, Nat.mod_eq_of_lt hlt, decide_eq_true (by omega), cond_true, decide_eq_true ⟨trivial, trivial, by omega, by omega, by omega, rfl, rfl⟩, cond_true, decide_eq_true (by omega), cond_true]
theorem left_fn : FnOK Try.prog 78 leftC := fnOK_mk T mixed Try.func78 (by kernel_rfl) (fns := [(97, trimC)]) (lps := [(0, leftL)]) (live := [(0, [0, 1, 5, 15, 16])]) (out := [(0, [5])]) (fuel := 0) (give := (fun _ => false)) ⟨trim_fn, trivial⟩ ⟨leftL_ok, trivial⟩ left_he
end
end Go.Proofs.Ytmjbikbakkbajaa.Vm
