/-
  Natural numbers as words of 64 bits, the lowest first. Plain lemmas: no statement is proved here.
-/
import Derived.Test.YtmjbikbakkbajaaVmB
import Derived.Laws.BitsAllLaws
namespace Go.Vm

def val : List Int → Nat
  | [] => 0
  | x :: xs => x.toNat + 18446744073709551616 * val xs
def wordsN : Nat → Nat → List Int
  | 0, _ => []
  | k + 1, n => ((n % 18446744073709551616 : Nat) : Int) :: wordsN k (n / 18446744073709551616)
def bitlen (n : Nat) : Nat := if n = 0 then 0 else n.log2 + 1
/-- How many words. -/
def wlen (n : Nat) : Nat := (bitlen n + 63) / 64
def words (n : Nat) : List Int := wordsN (wlen n) n

theorem u64_iff {x : Int} : wfB (.int .u64 x) = true ↔ 0 ≤ x ∧ x < 18446744073709551616 := by
  simp [wfB, IntKind.min, IntKind.max, IntKind.signed, IntKind.bits]
  omega
theorem i64_iff {x : Int} : wfB (.int .i64 x) = true ↔ -9223372036854775808 ≤ x ∧ x < 9223372036854775808 := by
  simp [wfB, IntKind.min, IntKind.max, IntKind.signed, IntKind.bits]
  omega
theorem u64_wrap {x : Int} (h0 : 0 ≤ x) (h : x < 18446744073709551616) : IntKind.u64.wrap x = x := by
  simp [IntKind.wrap, IntKind.signed, IntKind.bits]
  exact Int.emod_eq_of_lt h0 h
theorem u64_wrap_mod (x : Int) : IntKind.u64.wrap x = x % 18446744073709551616 := by
  simp [IntKind.wrap, IntKind.signed, IntKind.bits]
theorem i64_wrap {x : Int} (h0 : -9223372036854775808 ≤ x) (h : x < 9223372036854775808) : IntKind.i64.wrap x = x := by
  simp [IntKind.wrap, IntKind.signed, IntKind.bits]
  split <;> omega

theorem inR_cons {x : Int} {xs : List Int} (h : inR .u64 (x :: xs)) : (0 ≤ x ∧ x < 18446744073709551616) ∧ inR .u64 xs :=
  ⟨u64_iff.1 (h x (by simp)), fun y hy => h y (by simp [hy])⟩
theorem inR_at {xs : List Int} (h : inR .u64 xs) (i : Nat) : 0 ≤ xs.getD i 0 ∧ xs.getD i 0 < 18446744073709551616 := by
  by_cases hi : i < xs.length
  · have : xs.getD i 0 ∈ xs := by simp [List.getElem?_eq_getElem hi]
    exact u64_iff.1 (h _ this)
  · rw [List.getD_eq_getElem?_getD, List.getElem?_eq_none (by omega)]
    simp
theorem inR_set {xs : List Int} (h : inR .u64 xs) (i : Nat) {v : Int} (h0 : 0 ≤ v) (h1 : v < 18446744073709551616) : inR .u64 (xs.set i v) := by
  intro x hx
  rcases List.mem_or_eq_of_mem_set hx with hx | rfl
  · exact h x hx
  · exact u64_iff.2 ⟨h0, h1⟩
theorem inR_rep (n : Nat) : inR .u64 (List.replicate n 0) := by
  intro x hx
  obtain ⟨_, rfl⟩ := List.mem_replicate.1 hx
  decide
theorem inR_take {xs : List Int} (h : inR .u64 xs) (i : Nat) : inR .u64 (xs.take i) := fun x hx => h x (List.mem_of_mem_take hx)
theorem inR_drop {xs : List Int} (h : inR .u64 xs) (i : Nat) : inR .u64 (xs.drop i) := fun x hx => h x (List.mem_of_mem_drop hx)
theorem inR_append {xs ys : List Int} (h : inR .u64 xs) (h' : inR .u64 ys) : inR .u64 (xs ++ ys) := fun x hx => (List.mem_append.1 hx).elim (h x) (h' x)

theorem val_lt : ∀ {xs : List Int}, inR .u64 xs → val xs < 18446744073709551616 ^ xs.length
  | [], _ => by simp [val]
  | x :: xs, h => by
    obtain ⟨⟨h0, h1⟩, h2⟩ := inR_cons h
    have ih := val_lt h2
    simp only [val, List.length_cons, Nat.pow_succ]
    have : x.toNat < 18446744073709551616 := by omega
    generalize 18446744073709551616 ^ xs.length = q at *
    omega
theorem val_append : ∀ (xs ys : List Int), val (xs ++ ys) = val xs + 18446744073709551616 ^ xs.length * val ys
  | [], ys => by simp [val]
  | x :: xs, ys => by
    simp only [List.cons_append, val, val_append xs ys, List.length_cons, Nat.pow_succ, Nat.mul_add]
    rw [Nat.mul_comm (18446744073709551616 ^ xs.length) 18446744073709551616, Nat.mul_assoc]
    omega
theorem val_zeros (n : Nat) : val (List.replicate n 0) = 0 := by
  induction n with
  | zero => rfl
  | succ n ih => simp [List.replicate_succ, val, ih]
theorem val_take {xs : List Int} (h : inR .u64 xs) (i : Nat) : val (xs.take i) = val xs % 18446744073709551616 ^ i := by
  by_cases hi : i ≤ xs.length
  · have e := val_append (xs.take i) (xs.drop i)
    rw [List.take_append_drop, List.length_take, Nat.min_eq_left hi] at e
    have hl := val_lt (inR_take h i)
    rw [List.length_take, Nat.min_eq_left hi] at hl
    rw [e, Nat.add_mul_mod_self_left, Nat.mod_eq_of_lt hl]
  · rw [List.take_of_length_le (by omega), Nat.mod_eq_of_lt]
    exact Nat.lt_of_lt_of_le (val_lt h) (Nat.pow_le_pow_right (by decide) (by omega))
theorem val_drop {xs : List Int} (h : inR .u64 xs) (i : Nat) : val (xs.drop i) = val xs / 18446744073709551616 ^ i := by
  by_cases hi : i ≤ xs.length
  · have e := val_append (xs.take i) (xs.drop i)
    rw [List.take_append_drop, List.length_take, Nat.min_eq_left hi] at e
    have hl := val_lt (inR_take h i)
    rw [List.length_take, Nat.min_eq_left hi] at hl
    rw [e, Nat.add_mul_div_left _ _ (Nat.pow_pos (by decide)), Nat.div_eq_of_lt hl, Nat.zero_add]
  · rw [List.drop_eq_nil_of_le (by omega), Nat.div_eq_of_lt]
    · rfl
    · exact Nat.lt_of_lt_of_le (val_lt h) (Nat.pow_le_pow_right (by decide) (by omega))
theorem getD_val {xs : List Int} (h : inR .u64 xs) (i : Nat) : xs.getD i 0 = ((val xs / 18446744073709551616 ^ i % 18446744073709551616 : Nat) : Int) := by
  rw [← val_drop h]
  by_cases hi : i < xs.length
  · rw [List.drop_eq_getElem_cons hi]
    have h1 : xs.getD i 0 = xs[i] := by simp [List.getElem?_eq_getElem hi]
    have := inR_at h i
    rw [h1] at this ⊢
    simp only [val]
    omega
  · rw [List.drop_eq_nil_of_le (by omega), List.getD_eq_getElem?_getD, List.getElem?_eq_none (by omega)]
    rfl
theorem val_take_succ {xs : List Int} {i : Nat} (hi : i < xs.length) : val (xs.take (i + 1)) = val (xs.take i) + 18446744073709551616 ^ i * (xs.getD i 0).toNat := by
  rw [List.take_add_one, val_append, List.length_take, Nat.min_eq_left (by omega), List.getElem?_eq_getElem hi]
  simp [val, List.getElem?_eq_getElem hi]

theorem length_wordsN : ∀ (k n : Nat), (wordsN k n).length = k
  | 0, _ => rfl
  | k + 1, n => by simp [wordsN, length_wordsN k]
theorem inR_wordsN : ∀ (k n : Nat), inR .u64 (wordsN k n)
  | 0, _ => fun _ h => by cases h
  | k + 1, n => by
    intro x hx
    rcases List.mem_cons.1 hx with rfl | hx
    · exact u64_iff.2 ⟨by omega, by omega⟩
    · exact inR_wordsN k _ x hx
theorem val_wordsN : ∀ (k n : Nat), val (wordsN k n) = n % 18446744073709551616 ^ k
  | 0, n => by simp [wordsN, val, Nat.mod_one]
  | k + 1, n => by
    simp only [wordsN, val, val_wordsN k, Int.toNat_natCast]
    rw [Nat.pow_succ, Nat.mul_comm (18446744073709551616 ^ k), Nat.mod_mul]
theorem wordsN_val : ∀ {xs : List Int}, inR .u64 xs → wordsN xs.length (val xs) = xs
  | [], _ => rfl
  | x :: xs, h => by
    obtain ⟨⟨h0, h1⟩, h2⟩ := inR_cons h
    have ih := wordsN_val h2
    simp only [List.length_cons, wordsN, val]
    have e1 : (((x.toNat + 18446744073709551616 * val xs) % 18446744073709551616 : Nat) : Int) = x := by omega
    have e2 : (x.toNat + 18446744073709551616 * val xs) / 18446744073709551616 = val xs := by omega
    rw [e1, e2, ih]
theorem wordsN_eq {xs : List Int} {k n : Nat} (h : inR .u64 xs) (hl : xs.length = k) (hv : val xs = n) : xs = wordsN k n := by rw [← hl, ← hv, wordsN_val h]
theorem wordsN_mod (k n : Nat) : wordsN k (n % 18446744073709551616 ^ k) = wordsN k n := by
  refine (wordsN_eq (inR_wordsN k n) (length_wordsN k n) (val_wordsN k n)).symm
theorem val_inj {xs ys : List Int} (h : inR .u64 xs) (h' : inR .u64 ys) (hl : xs.length = ys.length) (hv : val xs = val ys) : xs = ys := by
  rw [← wordsN_val h, ← wordsN_val h', hl, hv]
theorem wordsN_inj {k a b : Nat} (ha : a < 18446744073709551616 ^ k) (hb : b < 18446744073709551616 ^ k) : wordsN k a = wordsN k b ↔ a = b := by
  constructor
  · intro h
    have := congrArg val h
    rwa [val_wordsN, val_wordsN, Nat.mod_eq_of_lt ha, Nat.mod_eq_of_lt hb] at this
  · rintro rfl; rfl
theorem val_set : ∀ {xs : List Int} {i : Nat} (_ : i < xs.length) (v : Int), val (xs.set i v) + 18446744073709551616 ^ i * (xs.getD i 0).toNat = val xs + 18446744073709551616 ^ i * v.toNat
  | [], _, h, _ => by cases h
  | x :: xs, 0, _, v => by simp [val]; omega
  | x :: xs, i + 1, h, v => by
    have ih := val_set (xs := xs) (i := i) (by simpa using h) v
    simp only [List.set_cons_succ, val, List.getD_cons_succ, Nat.pow_succ]
    rw [Nat.mul_comm (18446744073709551616 ^ i) 18446744073709551616, Nat.mul_assoc, Nat.mul_assoc]
    omega

theorem lt_two_pow_iff (n k : Nat) : n < 2 ^ k ↔ bitlen n ≤ k := by
  unfold bitlen
  split
  · rename_i h; subst h; simp [Nat.two_pow_pos]
  · rename_i h; rw [← Nat.log2_lt h]; omega
theorem pow64 (k : Nat) : (18446744073709551616 : Nat) ^ k = 2 ^ (64 * k) := by rw [Nat.pow_mul]
theorem wlen_le (n k : Nat) : wlen n ≤ k ↔ n < 18446744073709551616 ^ k := by
  rw [pow64, lt_two_pow_iff]
  unfold wlen
  omega
theorem lt_wlen (n : Nat) : n < 18446744073709551616 ^ wlen n := (wlen_le n _).1 (Nat.le_refl _)
theorem wlen_zero : wlen 0 = 0 := by decide
theorem words_zero : words 0 = [] := rfl
theorem wlen_eq_zero {n : Nat} : wlen n = 0 ↔ n = 0 := by
  constructor
  · intro h
    have := lt_wlen n
    rw [h] at this
    simp at this
    exact this
  · rintro rfl; exact wlen_zero
theorem length_words (n : Nat) : (words n).length = wlen n := length_wordsN _ _
theorem inR_words (n : Nat) : inR .u64 (words n) := inR_wordsN _ _
theorem val_words (n : Nat) : val (words n) = n := by
  unfold words
  rw [val_wordsN, Nat.mod_eq_of_lt (lt_wlen n)]
theorem words_inj {a b : Nat} : words a = words b ↔ a = b := ⟨fun h => by rw [← val_words a, h, val_words], fun h => by rw [h]⟩
theorem words_eq {xs : List Int} {n : Nat} (h : inR .u64 xs) (hv : val xs = n) (hl : xs.length = wlen n) : xs = words n := wordsN_eq h hl hv
theorem wlen_val {xs : List Int} (h : inR .u64 xs) : wlen (val xs) ≤ xs.length := (wlen_le _ _).2 (val_lt h)
theorem wlen_mono {a b : Nat} (h : a ≤ b) : wlen a ≤ wlen b := (wlen_le a _).2 (Nat.lt_of_le_of_lt h (lt_wlen b))
theorem wlen_ge {n k : Nat} (h : 18446744073709551616 ^ k ≤ n) : k < wlen n := by
  rcases Nat.lt_or_ge k (wlen n) with h1 | h1
  · exact h1
  · have := (wlen_le n k).1 h1; omega
theorem wlen_add {a b k : Nat} (ha : wlen a ≤ k) (hb : wlen b ≤ k) : wlen (a + b) ≤ k + 1 := by
  rw [wlen_le] at ha hb ⊢
  rw [Nat.pow_succ]
  omega
theorem wlen_mul {a b i j : Nat} (ha : wlen a ≤ i) (hb : wlen b ≤ j) : wlen (a * b) ≤ i + j := by
  rw [wlen_le] at ha hb ⊢
  rw [Nat.pow_add]
  exact Nat.mul_lt_mul'' ha hb
/-- The list without noughts at its end. -/
theorem take_words {xs : List Int} (h : inR .u64 xs) : xs.take (wlen (val xs)) = words (val xs) := by
  have hl := wlen_val h
  refine words_eq (inR_take h _) ?_ (by simp; omega)
  rw [val_take h, Nat.mod_eq_of_lt (lt_wlen _)]
theorem wlen_top {xs : List Int} (h : inR .u64 xs) (hx : xs.getD (xs.length - 1) 0 ≠ 0) : wlen (val xs) = xs.length := by
  rcases Nat.eq_zero_or_pos xs.length with h0 | h0
  · have := List.eq_nil_of_length_eq_zero h0
    subst this
    rfl
  · refine Nat.le_antisymm (wlen_val h) ?_
    have h1 : 18446744073709551616 ^ (xs.length - 1) ≤ val xs := by
      rw [getD_val h] at hx
      rcases Nat.lt_or_ge (val xs) (18446744073709551616 ^ (xs.length - 1)) with h2 | h2
      · rw [Nat.div_eq_of_lt h2] at hx; exact absurd rfl hx
      · exact h2
    have := wlen_ge h1
    omega
theorem wlen_take {xs : List Int} {n : Nat} (hn : n ≤ xs.length) (hz : ∀ j, n ≤ j → j < xs.length → xs.getD j 0 = 0) : val xs = val (xs.take n) := by
  have e := val_append (xs.take n) (xs.drop n)
  rw [List.take_append_drop] at e
  have : xs.drop n = List.replicate (xs.length - n) 0 := by
    apply List.ext_getElem
    · simp
    · intro j h1 h2
      have := hz (n + j) (by omega) (by simp at h1; omega)
      simp at h1
      rw [List.getElem_drop, List.getElem_replicate]
      simpa [List.getElem?_eq_getElem (show n + j < xs.length by omega)] using this
  rw [e, this, val_zeros]
  simp
theorem val_nil_iff {xs : List Int} (h : inR .u64 xs) : val xs = 0 ↔ ∀ j, j < xs.length → xs.getD j 0 = 0 := by
  constructor
  · intro hv j _
    rw [getD_val h, hv]
    simp
  · intro hz
    have := wlen_take (n := 0) (Nat.zero_le _) (fun j _ hj => hz j hj)
    simpa [val] using this
def cmpI (a b : Nat) : Int := if a < b then -1 else if b < a then 1 else 0
theorem cmpI_range (a b : Nat) : -1 ≤ cmpI a b ∧ cmpI a b ≤ 1 := by
  unfold cmpI
  split
  · omega
  · split <;> omega
theorem val_drop_cons (xs : List Int) (j : Nat) : val (xs.drop j) = (xs.getD j 0).toNat + 18446744073709551616 * val (xs.drop (j + 1)) := by
  by_cases hj : j < xs.length
  · rw [List.drop_eq_getElem_cons hj]
    simp [val, List.getElem?_eq_getElem hj]
  · rw [List.drop_eq_nil_of_le (by omega), List.drop_eq_nil_of_le (by omega), List.getD_eq_getElem?_getD, List.getElem?_eq_none (by omega)]
    simp [val]
theorem val_split {xs : List Int} (h : inR .u64 xs) (j : Nat) : val xs = val (xs.take j) + 18446744073709551616 ^ j * val (xs.drop j) := by
  rw [val_take h, val_drop h, Nat.mod_add_div]
theorem lt_of_high {a a' b q r q' r' : Nat} (h : a = r + b * q) (hr : r < b) (h' : a' = r' + b * q') (hlt : q < q') : a < a' := by
  subst h h'
  have : b * (q + 1) ≤ b * q' := Nat.mul_le_mul_left b hlt
  rw [Nat.mul_add] at this
  omega
theorem val_lt_of {xs ys : List Int} (h : inR .u64 xs) (h' : inR .u64 ys) (j : Nat) (he : val (xs.drop (j + 1)) = val (ys.drop (j + 1))) (hlt : xs.getD j 0 < ys.getD j 0) : val xs < val ys := by
  have h1 := val_drop_cons xs j
  have h2 := val_drop_cons ys j
  have h3 := inR_at h j
  have hl : val (xs.take j) < 18446744073709551616 ^ j := by rw [val_take h]; exact Nat.mod_lt _ (Nat.pow_pos (by decide))
  refine lt_of_high (val_split h j) hl (val_split h' j) ?_
  rw [h1, h2, he]
  omega
/-- A word of any place. -/
def wordI (xs : List Int) (i : Int) : Int := if i < 0 then 0 else xs.getD i.toNat 0
theorem wordI_nat (xs : List Int) (i : Nat) : wordI xs (i : Int) = xs.getD i 0 := by
  unfold wordI
  rw [if_neg (by omega), Int.toNat_natCast]
theorem mod_step (n i : Nat) : n % 18446744073709551616 ^ (i + 1) = n % 18446744073709551616 ^ i + 18446744073709551616 ^ i * (n / 18446744073709551616 ^ i % 18446744073709551616) := by
  rw [Nat.pow_succ, Nat.mod_mul]
theorem mod_step_at {xs : List Int} (h : inR .u64 xs) (i : Nat) : val xs % 18446744073709551616 ^ (i + 1) = val xs % 18446744073709551616 ^ i + 18446744073709551616 ^ i * (xs.getD i 0).toNat := by
  rw [mod_step, getD_val h, Int.toNat_natCast]
theorem take_set_succ {xs : List Int} {i : Nat} (h : i < xs.length) (v : Int) : (xs.set i v).take (i + 1) = xs.take i ++ [v] := by
  rw [List.take_add_one, List.take_set_of_le (Nat.le_refl _), List.getElem?_set_self h]
  rfl
theorem val_take_set {xs : List Int} {i : Nat} (h : i < xs.length) (v : Int) : val ((xs.set i v).take (i + 1)) = val (xs.take i) + 18446744073709551616 ^ i * v.toNat := by
  rw [take_set_succ h, val_append, List.length_take, Nat.min_eq_left (by omega)]
  simp [val]
theorem carry_step {A P c X Y s c' x y : Nat} (h : A + P * c = X + Y) (hs : s + 18446744073709551616 * c' = x + y + c) : A + P * s + P * 18446744073709551616 * c' = X + P * x + (Y + P * y) := by
  have e : P * (s + 18446744073709551616 * c') = P * (x + y + c) := by rw [hs]
  rw [Nat.mul_add, Nat.mul_add, Nat.mul_add, ← Nat.mul_assoc] at e
  omega
theorem borrow_step {A P b X Y s b' x y : Nat} (h : A + Y = X + P * b) (hs : s + y + b = x + 18446744073709551616 * b') : A + P * s + (Y + P * y) = X + P * x + P * 18446744073709551616 * b' := by
  have e : P * (s + y + b) = P * (x + 18446744073709551616 * b') := by rw [hs]
  rw [Nat.mul_add, Nat.mul_add, Nat.mul_add, ← Nat.mul_assoc] at e
  omega
end Go.Vm
