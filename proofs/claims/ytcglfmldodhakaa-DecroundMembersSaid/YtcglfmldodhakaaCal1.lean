/-
  Words of 64 bits as numbers; contracts out of lists; shifts and masks; a law's arguments. Plain lemmas: no statement is proved here.
-/
import Derived.Test.YtcglfmldodhakaaVm1
import Derived.Laws.BitsAllLaws
import Derived.Test.YtcglfmldodhakaaVm2
import Derived.Laws.Externs
import Derived.KernelRfl
import Derived.Lib.Mul64
import Derived.OpenShut
import Derived.ChangeOld
import Derived.SizedLaws
import Derived.Carry

namespace Go.Vm

def val : List Int → Nat
  | [] => 0
  | x :: xs => x.toNat + 18446744073709551616 * val xs
def wordsN : Nat → Nat → List Int
  | 0, _ => []
  | k + 1, n => ((n % 18446744073709551616 : Nat) : Int) :: wordsN k (n / 18446744073709551616)
def bitlen (n : Nat) : Nat := if n = 0 then 0 else n.log2 + 1
/-- How many words. -/
def wlen (n : Nat) : Nat := (bitlen n + 63) / 64
def words (n : Nat) : List Int := wordsN (wlen n) n

theorem u64_iff {x : Int} : wfB (.int .u64 x) = true ↔ 0 ≤ x ∧ x < 18446744073709551616 := by
  simp [wfB, IntKind.min, IntKind.max, IntKind.signed, IntKind.bits]
  omega
theorem i64_iff {x : Int} : wfB (.int .i64 x) = true ↔ -9223372036854775808 ≤ x ∧ x < 9223372036854775808 := by
  simp [wfB, IntKind.min, IntKind.max, IntKind.signed, IntKind.bits]
  omega
theorem u64_wrap {x : Int} (h0 : 0 ≤ x) (h : x < 18446744073709551616) : IntKind.u64.wrap x = x := by
  simp [IntKind.wrap, IntKind.signed, IntKind.bits]
  exact Int.emod_eq_of_lt h0 h
theorem u64_wrap_mod (x : Int) : IntKind.u64.wrap x = x % 18446744073709551616 := by
  simp [IntKind.wrap, IntKind.signed, IntKind.bits]
theorem i64_wrap {x : Int} (h0 : -9223372036854775808 ≤ x) (h : x < 9223372036854775808) : IntKind.i64.wrap x = x := by
  simp [IntKind.wrap, IntKind.signed, IntKind.bits]
  split <;> omega

theorem inR_cons {x : Int} {xs : List Int} (h : inR .u64 (x :: xs)) : (0 ≤ x ∧ x < 18446744073709551616) ∧ inR .u64 xs :=
  ⟨u64_iff.1 (h x (by simp)), fun y hy => h y (by simp [hy])⟩
theorem inR_at {xs : List Int} (h : inR .u64 xs) (i : Nat) : 0 ≤ xs.getD i 0 ∧ xs.getD i 0 < 18446744073709551616 := by
  by_cases hi : i < xs.length
  · have : xs.getD i 0 ∈ xs := by simp [List.getElem?_eq_getElem hi]
    exact u64_iff.1 (h _ this)
  · rw [List.getD_eq_getElem?_getD, List.getElem?_eq_none (by omega)]
    simp
theorem inR_set {xs : List Int} (h : inR .u64 xs) (i : Nat) {v : Int} (h0 : 0 ≤ v) (h1 : v < 18446744073709551616) : inR .u64 (xs.set i v) := by
  intro x hx
  rcases List.mem_or_eq_of_mem_set hx with hx | rfl
  · exact h x hx
  · exact u64_iff.2 ⟨h0, h1⟩
theorem inR_rep (n : Nat) : inR .u64 (List.replicate n 0) := by
  intro x hx
  obtain ⟨_, rfl⟩ := List.mem_replicate.1 hx
  decide
theorem inR_take {xs : List Int} (h : inR .u64 xs) (i : Nat) : inR .u64 (xs.take i) := fun x hx => h x (List.mem_of_mem_take hx)
theorem inR_drop {xs : List Int} (h : inR .u64 xs) (i : Nat) : inR .u64 (xs.drop i) := fun x hx => h x (List.mem_of_mem_drop hx)
theorem inR_append {xs ys : List Int} (h : inR .u64 xs) (h' : inR .u64 ys) : inR .u64 (xs ++ ys) := fun x hx => (List.mem_append.1 hx).elim (h x) (h' x)

theorem val_lt : ∀ {xs : List Int}, inR .u64 xs → val xs < 18446744073709551616 ^ xs.length
  | [], _ => by simp [val]
  | x :: xs, h => by
    obtain ⟨⟨h0, h1⟩, h2⟩ := inR_cons h
    have ih := val_lt h2
    simp only [val, List.length_cons, Nat.pow_succ]
    have : x.toNat < 18446744073709551616 := by omega
    generalize 18446744073709551616 ^ xs.length = q at *
    omega
theorem val_append : ∀ (xs ys : List Int), val (xs ++ ys) = val xs + 18446744073709551616 ^ xs.length * val ys
  | [], ys => by simp [val]
  | x :: xs, ys => by
    simp only [List.cons_append, val, val_append xs ys, List.length_cons, Nat.pow_succ, Nat.mul_add]
    rw [Nat.mul_comm (18446744073709551616 ^ xs.length) 18446744073709551616, Nat.mul_assoc]
    omega
theorem val_zeros (n : Nat) : val (List.replicate n 0) = 0 := by
  induction n with
  | zero => rfl
  | succ n ih => simp [List.replicate_succ, val, ih]
theorem val_take {xs : List Int} (h : inR .u64 xs) (i : Nat) : val (xs.take i) = val xs % 18446744073709551616 ^ i := by
  by_cases hi : i ≤ xs.length
  · have e := val_append (xs.take i) (xs.drop i)
    rw [List.take_append_drop, List.length_take, Nat.min_eq_left hi] at e
    have hl := val_lt (inR_take h i)
    rw [List.length_take, Nat.min_eq_left hi] at hl
    rw [e, Nat.add_mul_mod_self_left, Nat.mod_eq_of_lt hl]
  · rw [List.take_of_length_le (by omega), Nat.mod_eq_of_lt]
    exact Nat.lt_of_lt_of_le (val_lt h) (Nat.pow_le_pow_right (by decide) (by omega))
theorem val_drop {xs : List Int} (h : inR .u64 xs) (i : Nat) : val (xs.drop i) = val xs / 18446744073709551616 ^ i := by
  by_cases hi : i ≤ xs.length
  · have e := val_append (xs.take i) (xs.drop i)
    rw [List.take_append_drop, List.length_take, Nat.min_eq_left hi] at e
    have hl := val_lt (inR_take h i)
    rw [List.length_take, Nat.min_eq_left hi] at hl
    rw [e, Nat.add_mul_div_left _ _ (Nat.pow_pos (by decide)), Nat.div_eq_of_lt hl, Nat.zero_add]
  · rw [List.drop_eq_nil_of_le (by omega), Nat.div_eq_of_lt]
    · rfl
    · exact Nat.lt_of_lt_of_le (val_lt h) (Nat.pow_le_pow_right (by decide) (by omega))
theorem getD_val {xs : List Int} (h : inR .u64 xs) (i : Nat) : xs.getD i 0 = ((val xs / 18446744073709551616 ^ i % 18446744073709551616 : Nat) : Int) := by
  rw [← val_drop h]
  by_cases hi : i < xs.length
  · rw [List.drop_eq_getElem_cons hi]
    have h1 : xs.getD i 0 = xs[i] := by simp [List.getElem?_eq_getElem hi]
    have := inR_at h i
    rw [h1] at this ⊢
    simp only [val]
    omega
  · rw [List.drop_eq_nil_of_le (by omega), List.getD_eq_getElem?_getD, List.getElem?_eq_none (by omega)]
    rfl
theorem val_take_succ {xs : List Int} {i : Nat} (hi : i < xs.length) : val (xs.take (i + 1)) = val (xs.take i) + 18446744073709551616 ^ i * (xs.getD i 0).toNat := by
  rw [List.take_add_one, val_append, List.length_take, Nat.min_eq_left (by omega), List.getElem?_eq_getElem hi]
  simp [val, List.getElem?_eq_getElem hi]

theorem length_wordsN : ∀ (k n : Nat), (wordsN k n).length = k
  | 0, _ => rfl
  | k + 1, n => by simp [wordsN, length_wordsN k]
theorem inR_wordsN : ∀ (k n : Nat), inR .u64 (wordsN k n)
  | 0, _ => fun _ h => by cases h
  | k + 1, n => by
    intro x hx
    rcases List.mem_cons.1 hx with rfl | hx
    · exact u64_iff.2 ⟨by omega, by omega⟩
    · exact inR_wordsN k _ x hx
theorem val_wordsN : ∀ (k n : Nat), val (wordsN k n) = n % 18446744073709551616 ^ k
  | 0, n => by simp [wordsN, val, Nat.mod_one]
  | k + 1, n => by
    simp only [wordsN, val, val_wordsN k, Int.toNat_natCast]
    rw [Nat.pow_succ, Nat.mul_comm (18446744073709551616 ^ k), Nat.mod_mul]
theorem wordsN_val : ∀ {xs : List Int}, inR .u64 xs → wordsN xs.length (val xs) = xs
  | [], _ => rfl
  | x :: xs, h => by
    obtain ⟨⟨h0, h1⟩, h2⟩ := inR_cons h
    have ih := wordsN_val h2
    simp only [List.length_cons, wordsN, val]
    have e1 : (((x.toNat + 18446744073709551616 * val xs) % 18446744073709551616 : Nat) : Int) = x := by omega
    have e2 : (x.toNat + 18446744073709551616 * val xs) / 18446744073709551616 = val xs := by omega
    rw [e1, e2, ih]
theorem wordsN_eq {xs : List Int} {k n : Nat} (h : inR .u64 xs) (hl : xs.length = k) (hv : val xs = n) : xs = wordsN k n := by rw [← hl, ← hv, wordsN_val h]
theorem wordsN_mod (k n : Nat) : wordsN k (n % 18446744073709551616 ^ k) = wordsN k n := by
  refine (wordsN_eq (inR_wordsN k n) (length_wordsN k n) (val_wordsN k n)).symm
theorem val_inj {xs ys : List Int} (h : inR .u64 xs) (h' : inR .u64 ys) (hl : xs.length = ys.length) (hv : val xs = val ys) : xs = ys := by
  rw [← wordsN_val h, ← wordsN_val h', hl, hv]
theorem wordsN_inj {k a b : Nat} (ha : a < 18446744073709551616 ^ k) (hb : b < 18446744073709551616 ^ k) : wordsN k a = wordsN k b ↔ a = b := by
  constructor
  · intro h
    have := congrArg val h
    rwa [val_wordsN, val_wordsN, Nat.mod_eq_of_lt ha, Nat.mod_eq_of_lt hb] at this
  · rintro rfl; rfl
theorem val_set : ∀ {xs : List Int} {i : Nat} (_ : i < xs.length) (v : Int), val (xs.set i v) + 18446744073709551616 ^ i * (xs.getD i 0).toNat = val xs + 18446744073709551616 ^ i * v.toNat
  | [], _, h, _ => by cases h
  | x :: xs, 0, _, v => by simp [val]; omega
  | x :: xs, i + 1, h, v => by
    have ih := val_set (xs := xs) (i := i) (by simpa using h) v
    simp only [List.set_cons_succ, val, List.getD_cons_succ, Nat.pow_succ]
    rw [Nat.mul_comm (18446744073709551616 ^ i) 18446744073709551616, Nat.mul_assoc, Nat.mul_assoc]
    omega

theorem lt_two_pow_iff (n k : Nat) : n < 2 ^ k ↔ bitlen n ≤ k := by
  unfold bitlen
  split
  · rename_i h; subst h; simp [Nat.two_pow_pos]
  · rename_i h; rw [← Nat.log2_lt h]; omega
theorem pow64 (k : Nat) : (18446744073709551616 : Nat) ^ k = 2 ^ (64 * k) := by rw [Nat.pow_mul]
theorem wlen_le (n k : Nat) : wlen n ≤ k ↔ n < 18446744073709551616 ^ k := by
  rw [pow64, lt_two_pow_iff]
  unfold wlen
  omega
theorem lt_wlen (n : Nat) : n < 18446744073709551616 ^ wlen n := (wlen_le n _).1 (Nat.le_refl _)
theorem wlen_zero : wlen 0 = 0 := by decide
theorem words_zero : words 0 = [] := rfl
theorem wlen_eq_zero {n : Nat} : wlen n = 0 ↔ n = 0 := by
  constructor
  · intro h
    have := lt_wlen n
    rw [h] at this
    simp at this
    exact this
  · rintro rfl; exact wlen_zero
theorem length_words (n : Nat) : (words n).length = wlen n := length_wordsN _ _
theorem inR_words (n : Nat) : inR .u64 (words n) := inR_wordsN _ _
theorem val_words (n : Nat) : val (words n) = n := by
  unfold words
  rw [val_wordsN, Nat.mod_eq_of_lt (lt_wlen n)]
theorem words_inj {a b : Nat} : words a = words b ↔ a = b := ⟨fun h => by rw [← val_words a, h, val_words], fun h => by rw [h]⟩
theorem words_eq {xs : List Int} {n : Nat} (h : inR .u64 xs) (hv : val xs = n) (hl : xs.length = wlen n) : xs = words n := wordsN_eq h hl hv
theorem wlen_val {xs : List Int} (h : inR .u64 xs) : wlen (val xs) ≤ xs.length := (wlen_le _ _).2 (val_lt h)
theorem wlen_mono {a b : Nat} (h : a ≤ b) : wlen a ≤ wlen b := (wlen_le a _).2 (Nat.lt_of_le_of_lt h (lt_wlen b))
theorem wlen_ge {n k : Nat} (h : 18446744073709551616 ^ k ≤ n) : k < wlen n := by
  rcases Nat.lt_or_ge k (wlen n) with h1 | h1
  · exact h1
  · have := (wlen_le n k).1 h1; omega
theorem wlen_add {a b k : Nat} (ha : wlen a ≤ k) (hb : wlen b ≤ k) : wlen (a + b) ≤ k + 1 := by
  rw [wlen_le] at ha hb ⊢
  rw [Nat.pow_succ]
  omega
theorem wlen_mul {a b i j : Nat} (ha : wlen a ≤ i) (hb : wlen b ≤ j) : wlen (a * b) ≤ i + j := by
  rw [wlen_le] at ha hb ⊢
  rw [Nat.pow_add]
  exact Nat.mul_lt_mul'' ha hb
/-- The list without noughts at its end. -/
theorem take_words {xs : List Int} (h : inR .u64 xs) : xs.take (wlen (val xs)) = words (val xs) := by
  have hl := wlen_val h
  refine words_eq (inR_take h _) ?_ (by simp; omega)
  rw [val_take h, Nat.mod_eq_of_lt (lt_wlen _)]
theorem wlen_top {xs : List Int} (h : inR .u64 xs) (hx : xs.getD (xs.length - 1) 0 ≠ 0) : wlen (val xs) = xs.length := by
  rcases Nat.eq_zero_or_pos xs.length with h0 | h0
  · have := List.eq_nil_of_length_eq_zero h0
    subst this
    rfl
  · refine Nat.le_antisymm (wlen_val h) ?_
    have h1 : 18446744073709551616 ^ (xs.length - 1) ≤ val xs := by
      rw [getD_val h] at hx
      rcases Nat.lt_or_ge (val xs) (18446744073709551616 ^ (xs.length - 1)) with h2 | h2
      · rw [Nat.div_eq_of_lt h2] at hx; exact absurd rfl hx
      · exact h2
    have := wlen_ge h1
    omega
theorem wlen_take {xs : List Int} {n : Nat} (hn : n ≤ xs.length) (hz : ∀ j, n ≤ j → j < xs.length → xs.getD j 0 = 0) : val xs = val (xs.take n) := by
  have e := val_append (xs.take n) (xs.drop n)
  rw [List.take_append_drop] at e
  have : xs.drop n = List.replicate (xs.length - n) 0 := by
    apply List.ext_getElem
    · simp
    · intro j h1 h2
      have := hz (n + j) (by omega) (by simp at h1; omega)
      simp at h1
      rw [List.getElem_drop, List.getElem_replicate]
      simpa [List.getElem?_eq_getElem (show n + j < xs.length by omega)] using this
  rw [e, this, val_zeros]
  simp
theorem val_nil_iff {xs : List Int} (h : inR .u64 xs) : val xs = 0 ↔ ∀ j, j < xs.length → xs.getD j 0 = 0 := by
  constructor
  · intro hv j _
    rw [getD_val h, hv]
    simp
  · intro hz
    have := wlen_take (n := 0) (Nat.zero_le _) (fun j _ hj => hz j hj)
    simpa [val] using this
def cmpI (a b : Nat) : Int := if a < b then -1 else if b < a then 1 else 0
theorem cmpI_range (a b : Nat) : -1 ≤ cmpI a b ∧ cmpI a b ≤ 1 := by
  unfold cmpI
  split
  · omega
  · split <;> omega
theorem val_drop_cons (xs : List Int) (j : Nat) : val (xs.drop j) = (xs.getD j 0).toNat + 18446744073709551616 * val (xs.drop (j + 1)) := by
  by_cases hj : j < xs.length
  · rw [List.drop_eq_getElem_cons hj]
    simp [val, List.getElem?_eq_getElem hj]
  · rw [List.drop_eq_nil_of_le (by omega), List.drop_eq_nil_of_le (by omega), List.getD_eq_getElem?_getD, List.getElem?_eq_none (by omega)]
    simp [val]
theorem val_split {xs : List Int} (h : inR .u64 xs) (j : Nat) : val xs = val (xs.take j) + 18446744073709551616 ^ j * val (xs.drop j) := by
  rw [val_take h, val_drop h, Nat.mod_add_div]
theorem lt_of_high {a a' b q r q' r' : Nat} (h : a = r + b * q) (hr : r < b) (h' : a' = r' + b * q') (hlt : q < q') : a < a' := by
  subst h h'
  have : b * (q + 1) ≤ b * q' := Nat.mul_le_mul_left b hlt
  rw [Nat.mul_add] at this
  omega
theorem val_lt_of {xs ys : List Int} (h : inR .u64 xs) (h' : inR .u64 ys) (j : Nat) (he : val (xs.drop (j + 1)) = val (ys.drop (j + 1))) (hlt : xs.getD j 0 < ys.getD j 0) : val xs < val ys := by
  have h1 := val_drop_cons xs j
  have h2 := val_drop_cons ys j
  have h3 := inR_at h j
  have hl : val (xs.take j) < 18446744073709551616 ^ j := by rw [val_take h]; exact Nat.mod_lt _ (Nat.pow_pos (by decide))
  refine lt_of_high (val_split h j) hl (val_split h' j) ?_
  rw [h1, h2, he]
  omega
/-- A word of any place. -/
def wordI (xs : List Int) (i : Int) : Int := if i < 0 then 0 else xs.getD i.toNat 0
theorem wordI_nat (xs : List Int) (i : Nat) : wordI xs (i : Int) = xs.getD i 0 := by
  unfold wordI
  rw [if_neg (by omega), Int.toNat_natCast]
theorem mod_step (n i : Nat) : n % 18446744073709551616 ^ (i + 1) = n % 18446744073709551616 ^ i + 18446744073709551616 ^ i * (n / 18446744073709551616 ^ i % 18446744073709551616) := by
  rw [Nat.pow_succ, Nat.mod_mul]
theorem mod_step_at {xs : List Int} (h : inR .u64 xs) (i : Nat) : val xs % 18446744073709551616 ^ (i + 1) = val xs % 18446744073709551616 ^ i + 18446744073709551616 ^ i * (xs.getD i 0).toNat := by
  rw [mod_step, getD_val h, Int.toNat_natCast]
theorem take_set_succ {xs : List Int} {i : Nat} (h : i < xs.length) (v : Int) : (xs.set i v).take (i + 1) = xs.take i ++ [v] := by
  rw [List.take_add_one, List.take_set_of_le (Nat.le_refl _), List.getElem?_set_self h]
  rfl
theorem val_take_set {xs : List Int} {i : Nat} (h : i < xs.length) (v : Int) : val ((xs.set i v).take (i + 1)) = val (xs.take i) + 18446744073709551616 ^ i * v.toNat := by
  rw [take_set_succ h, val_append, List.length_take, Nat.min_eq_left (by omega)]
  simp [val]
theorem carry_step {A P c X Y s c' x y : Nat} (h : A + P * c = X + Y) (hs : s + 18446744073709551616 * c' = x + y + c) : A + P * s + P * 18446744073709551616 * c' = X + P * x + (Y + P * y) := by
  have e : P * (s + 18446744073709551616 * c') = P * (x + y + c) := by rw [hs]
  rw [Nat.mul_add, Nat.mul_add, Nat.mul_add, ← Nat.mul_assoc] at e
  omega
theorem borrow_step {A P b X Y s b' x y : Nat} (h : A + Y = X + P * b) (hs : s + y + b = x + 18446744073709551616 * b') : A + P * s + (Y + P * y) = X + P * x + P * 18446744073709551616 * b' := by
  have e : P * (s + y + b) = P * (x + 18446744073709551616 * b') := by rw [hs]
  rw [Nat.mul_add, Nat.mul_add, Nat.mul_add, ← Nat.mul_assoc] at e
  omega
end Go.Vm

namespace Go.Vm
variable {P : Program}

abbrev FnC := List D → (List (Own × D) → R) → R
abbrev LpC := List V → Mem → (X → List V → Mem → R) → R
def look {α : Type} : List (Nat × α) → Nat → Option α
  | [], _ => none
  | (j, F) :: l, k => bif j == k then some F else look l k
structure Tys (P : Program) where
  ty : TypeId → Option Ty
  td : ∀ t td, ty t = some td → TdOK P t td
  eq : ∀ t td, ty t = some td → EqOK P t td
/-- An environment: contracts of functions, of loops; what is live at a loop's head, and behind it. -/
def mkE (ty : TypeId → Option Ty) (fns : List (FuncId × FnC)) (lps : List (Nat × LpC)) (live out : List (Nat × List Nat)) (fuel : Nat := 0) (give : FuncId → Bool := fun _ => false) : Env :=
  { ty := ty, fn := look fns, live := fun b => (look live b).getD [], fuel := fuel, lp := look lps, out := fun b => (look out b).getD [], give := give }
def FnsOK (P : Program) : List (FuncId × FnC) → Prop
  | [] => True
  | p :: l => FnOK P p.1 p.2 ∧ FnsOK P l
theorem FnsOK.look {k : Nat} {F : FnC} : ∀ {l : List (FuncId × FnC)}, FnsOK P l → Vm.look l k = some F → FnOK P k F
  | [], _, h => by cases h
  | (j, G) :: l, h, e => by
    simp only [Vm.look] at e
    cases hj : (j == k) <;> rw [hj] at e
    · exact FnsOK.look h.2 e
    · cases e
      have : j = k := by simpa using hj
      subst this
      exact h.1
theorem envOK_mk (T : Tys P) {fns : List (FuncId × FnC)} {lps : List (Nat × LpC)} {live out : List (Nat × List Nat)} {fuel : Nat} {give : FuncId → Bool} (h : FnsOK P fns) : EnvOK P (mkE T.ty fns lps live out fuel give) :=
  ⟨T.td, T.eq, fun _ _ hF => h.look hF⟩

/-- The loop in block b of a function. -/
def lbody (f : Func) (b : Nat) : Code := (((loopsOf 0 (f.body.getD .skip)).find? (·.1 == b)).map (·.2)).getD .skip
def distinct : List Nat → Bool
  | [] => true
  | a :: l => !l.contains a && distinct l
def sideB (f : Func) : Bool := !(f.name == "runtime.NumGoroutine") && f.results.size == f.resultTypes.size && distinct ((loopsOf 0 (f.body.getD .skip)).map (·.1))
theorem find_distinct : ∀ (l : List (Nat × Code)) (q : Nat × Code), distinct (l.map (·.1)) = true → q ∈ l → l.find? (·.1 == q.1) = some q
  | [], _, _, h => by cases h
  | p :: l, q, hd, h => by
    simp only [List.map_cons, distinct, Bool.and_eq_true, Bool.not_eq_true'] at hd
    rcases List.mem_cons.1 h with rfl | h
    · simp
    · have hne : (p.1 == q.1) = false := by
        cases hc : (p.1 == q.1)
        · rfl
        · exfalso
          have e : p.1 = q.1 := by simpa using hc
          have : (l.map (·.1)).contains p.1 = true := by simp; exact ⟨q.2, by rw [e]; exact h⟩
          rw [this] at hd
          cases hd.1
      rw [List.find?_cons_of_neg (by simpa using hne)]
      exact find_distinct l q hd.2 h
def LpsOK (E : Env) (f : Func) : List (Nat × LpC) → Prop
  | [] => True
  | p :: l => LoopOK E p.1 (lbody f p.1) p.2 ∧ LpsOK E f l
theorem LpsOK.look {E : Env} {f : Func} {b : Nat} {F : LpC} : ∀ {l : List (Nat × LpC)}, LpsOK E f l → Vm.look l b = some F → LoopOK E b (lbody f b) F
  | [], _, h => by cases h
  | (j, G) :: l, h, e => by
    simp only [Vm.look] at e
    cases hj : (j == b) <;> rw [hj] at e
    · exact LpsOK.look h.2 e
    · cases e
      have : j = b := by simpa using hj
      subst this
      exact h.1

/-- A contract by evaluation. -/
theorem fnOK_mk (T : Tys P) (hm : P.follows .mixedOrders = true) {k : FuncId} {f : Func} (hf : P.funcs[k]? = some f) (hs : sideB f = true) {fns : List (FuncId × FnC)} {lps : List (Nat × LpC)} {live out : List (Nat × List Nat)} {fuel : Nat} {give : FuncId → Bool}
    (h : FnsOK P fns) (hl : LpsOK (mkE T.ty fns lps live out fuel give) f lps) {F : FnC}
    (he : ∀ ds κ r, (∀ d ∈ ds, d.wf) → F ds κ = some r → ∃ res, κ res = some r ∧ evFn (mkE T.ty fns lps live out fuel give) f ds = some res) : FnOK P k F := by
  unfold sideB at hs
  simp only [Bool.and_eq_true, Bool.not_eq_true', beq_iff_eq] at hs
  refine fnOK_ev (envOK_mk T h) hm hf hs.1.1 hs.1.2 (fun c hc q hq G hG => ?_) he
  have hd := hs.2
  rw [hc] at hd
  have h1 := find_distinct (loopsOf 0 c) q hd hq
  have h2 : lbody f q.1 = q.2 := by unfold lbody; rw [hc]; simp [h1]
  rw [← h2]
  exact hl.look hG

abbrev CallTo (P : Program) (k : FuncId) (w : World) (vs : List Value) (res : List (Own × D)) : Prop :=
  (callFunc k vs.toArray).run P w = .ok (.enter k vs.toArray) w ∧ Calls P k vs.toArray w fun e w' => ∃ rv, e = .returned rv ∧ Go.RowKit.Below w.heap.size w w' ∧ ∃ rs, rv = tupleOf rs ∧ all2 (ResOK w w' vs (res.length = 1)) res rs
/-- A call, evaluated. -/
theorem call_mk (T : Tys P) (hm : P.follows .mixedOrders = true) {k : FuncId} {f : Func} (hf : P.funcs[k]? = some f) (hs : sideB f = true) {fns : List (FuncId × FnC)} {lps : List (Nat × LpC)} {live out : List (Nat × List Nat)} {fuel : Nat} {give : FuncId → Bool}
    (h : FnsOK P fns) (hl : LpsOK (mkE T.ty fns lps live out fuel give) f lps) {w : World} {ds : List D} {vs : List Value} {res : List (Own × D)} (hds : all2 (DR w) ds vs) (he : evFn (mkE T.ty fns lps live out fuel give) f ds = some res) :
    CallTo P k w vs res := by
  unfold sideB at hs
  simp only [Bool.and_eq_true, Bool.not_eq_true', beq_iff_eq] at hs
  refine fn_calls (envOK_mk T h) hm hf hs.1.1 hs.1.2 (fun c hc q hq G hG => ?_) he w vs hds
  have hd := hs.2
  rw [hc] at hd
  have h1 := find_distinct (loopsOf 0 c) q hd hq
  have h2 : lbody f q.1 = q.2 := by unfold lbody; rw [hc]; simp [h1]
  rw [← h2]
  exact hl.look hG
/-- A contract that is the evaluation itself. -/
noncomputable def evC (E : Env) (f : Func) : FnC := fun ds κ => match evFn E f ds with
  | some res => κ res
  | none => none
theorem evC_he {E : Env} {f : Func} : ∀ ds κ r, (∀ d ∈ ds, D.wf d) → evC E f ds κ = some r → ∃ res, κ res = some r ∧ evFn E f ds = some res := fun ds κ r _ h => by
  unfold evC at h
  split at h
  · exact ⟨_, h, by assumption⟩
  · cases h

/-- A call that runs here and now. -/
theorem fnOK_run {k : FuncId} {F : FnC} (h : ∀ ds κ r, (∀ d ∈ ds, d.wf) → F ds κ = some r → ∃ res, κ res = some r ∧ ∀ (w : World) (vs : List Value), all2 (DR w) ds vs → ∃ rv, (callFunc k vs.toArray).run P w = .ok (.value rv) w ∧ ∃ rs, rv = tupleOf rs ∧ all2 (ResOK w w vs (res.length = 1)) res rs) : FnOK P k F := by
  intro ds κ r hw hF
  obtain ⟨res, h1, h2⟩ := h ds κ r hw hF
  refine ⟨res, h1, fun w vs hv => .inl ?_⟩
  obtain ⟨rv, h3, h4⟩ := h2 w vs hv
  exact ⟨rv, w, h3, Go.RowKit.Below.refl _ _, h4⟩

/-- math/bits.Add64, Sub64: the carry is 0 or 1. -/
def add64C : FnC := fun ds κ => match ds with
  | [.p (.int .u64 x), .p (.int .u64 y), .p (.int .u64 c)] => cond (decide (c ≤ 1)) (κ [(.mine, .p (.int .u64 ((x + y + c) % 18446744073709551616))), (.mine, .p (.int .u64 ((x + y + c) / 18446744073709551616)))]) none
  | _ => none
def sub64C : FnC := fun ds κ => match ds with
  | [.p (.int .u64 x), .p (.int .u64 y), .p (.int .u64 c)] => cond (decide (c ≤ 1)) (κ [(.mine, .p (.int .u64 ((x - y - c) % 18446744073709551616))), (.mine, .p (.int .u64 (-((x - y - c) / 18446744073709551616))))]) none
  | _ => none
def sub64E : Array Value → Sem Value := fun args => do
  let (x, y, b) ← Extern.MathBitsCarry.three "Sub64" args
  pure (Extern.MathBitsCarry.pair ((x + Extern.MathBitsCarry.m64 - y - b) % Extern.MathBitsCarry.m64) (if x < y + b then 1 else 0))
theorem run_sub64E (x y b : Nat) (hb : b ≤ 1) (w : World) :
    (sub64E #[.int .u64 x, .int .u64 y, .int .u64 b]).run P w =
      .ok (.tuple #[.int .u64 (((x + 18446744073709551616 - y - b) % 18446744073709551616 : Nat) : Int), .int .u64 ((if x < y + b then 1 else 0 : Nat) : Int)]) w := by
  have : b = 0 ∨ b = 1 := by omega
  rcases this with rfl | rfl <;> rfl
theorem add64_ok {k : FuncId} {f : Func} (hf : P.funcs[k]? = some f) (hname : (f.name == "runtime.NumGoroutine") = false) (hb : f.body.isNone = true) (hn : Extern.findNext f = none) (he : Extern.find f = some add64Entry) : FnOK P k add64C := by
  refine fnOK_run fun ds κ r hw hF => ?_
  unfold add64C at hF
  split at hF
  case h_2 => cases hF
  rename_i x y c
  obtain ⟨hc, hF⟩ := cond_none hF
  have hc := of_decide_eq_true hc
  have hx := u64_iff.1 (hw (.p (.int .u64 x)) (by simp))
  have hy := u64_iff.1 (hw (.p (.int .u64 y)) (by simp))
  have hz := u64_iff.1 (hw (.p (.int .u64 c)) (by simp))
  refine ⟨_, hF, fun w vs hv => ?_⟩
  match vs, hv with
  | [a, b, d], ⟨⟨e1, _⟩, ⟨e2, _⟩, ⟨e3, _⟩, _⟩ =>
    subst e1 e2 e3
    refine ⟨_, ?_, [_, _], rfl, ⟨⟨rfl, u64_iff.2 ?_⟩, fun h => by cases h⟩, ⟨⟨rfl, u64_iff.2 ?_⟩, fun h => by cases h⟩, trivial⟩
    · rw [run_callFunc_extern hf hname hb hn he, run_add64 x y c hx.1 hy.1 hz.1 hc]
      rfl
    · omega
    · omega
theorem sub64_ok {k : FuncId} {f : Func} (hf : P.funcs[k]? = some f) (hname : (f.name == "runtime.NumGoroutine") = false) (hb : f.body.isNone = true) (hn : Extern.findNext f = none) (he : Extern.find f = some sub64E) : FnOK P k sub64C := by
  refine fnOK_run fun ds κ r hw hF => ?_
  unfold sub64C at hF
  split at hF
  case h_2 => cases hF
  rename_i x y c
  obtain ⟨hc, hF⟩ := cond_none hF
  have hc := of_decide_eq_true hc
  have hx := u64_iff.1 (hw (.p (.int .u64 x)) (by simp))
  have hy := u64_iff.1 (hw (.p (.int .u64 y)) (by simp))
  have hz := u64_iff.1 (hw (.p (.int .u64 c)) (by simp))
  refine ⟨_, hF, fun w vs hv => ?_⟩
  match vs, hv with
  | [a, b, d], ⟨⟨e1, _⟩, ⟨e2, _⟩, ⟨e3, _⟩, _⟩ =>
    subst e1 e2 e3
    refine ⟨_, ?_, [_, _], rfl, ⟨⟨rfl, u64_iff.2 ?_⟩, fun h => by cases h⟩, ⟨⟨rfl, u64_iff.2 ?_⟩, fun h => by cases h⟩, trivial⟩
    · obtain ⟨X, rfl⟩ := Int.eq_ofNat_of_zero_le hx.1
      obtain ⟨Y, rfl⟩ := Int.eq_ofNat_of_zero_le hy.1
      obtain ⟨C, rfl⟩ := Int.eq_ofNat_of_zero_le hz.1
      rw [run_callFunc_extern hf hname hb hn he]
      show ((sub64E #[.int .u64 X, .int .u64 Y, .int .u64 C]).run P w).andThen _ = _
      rw [run_sub64E X Y C (by omega)]
      simp only [Result.andThen_ok]
      have e1 : (((X + 18446744073709551616 - Y - C) % 18446744073709551616 : Nat) : Int) = ((X : Int) - Y - C) % 18446744073709551616 := by omega
      have e2 : ((if X < Y + C then 1 else 0 : Nat) : Int) = -(((X : Int) - Y - C) / 18446744073709551616) := by split <;> omega
      rw [e1, e2]
      rfl
    · omega
    · omega
/-- A function's loop, round by round. -/
noncomputable def lx (E : Env) (f : Func) (b : Nat) : Nat → List V → Mem → (X → List V → Mem → R) → R := loopX (E.live b) (E.out b) (fun tm m κ => ev E b (lbody f b) tm m κ)
theorem loopOK_lx {E : Env} {b : Nat} {f : Func} {N : Nat} {use : List Nat} {G : List V → Mem → (X → List V → Mem → R) → R}
    (h : ∀ vs m κ r, (∀ v ∈ vs, v.wf) → memWF m → G vs m κ = some r → ∃ fuel, lx E f b fuel (lay N use vs) m κ = some r) : LoopOK E b (lbody f b) (lpC N use G) := loopOK_lpC h
theorem wfW {ds : List D} (h : ∀ d ∈ ds, d.wf) {xs : List Int} (hm : D.w .u64 xs ∈ ds) : xs.length ≤ 140737488355328 ∧ inR .u64 xs := by
  have := h _ hm
  have h47 : lim = 140737488355328 := by decide
  exact ⟨by rw [← h47]; exact this.1, this.2⟩
theorem wfR {ds : List D} (h : ∀ d ∈ ds, d.wf) {n : Nat} {xs : List Int} (hm : D.r .u64 n xs ∈ ds) : xs.length = n ∧ inR .u64 xs := ⟨(h _ hm).1, (h _ hm).2.2⟩
theorem wfI {ds : List D} (h : ∀ d ∈ ds, d.wf) {x : Int} (hm : D.p (.int .i64 x) ∈ ds) : -9223372036854775808 ≤ x ∧ x < 9223372036854775808 := i64_iff.1 (h _ hm)
theorem wfU {ds : List D} (h : ∀ d ∈ ds, d.wf) {x : Int} (hm : D.p (.int .u64 x) ∈ ds) : 0 ≤ x ∧ x < 18446744073709551616 := u64_iff.1 (h _ hm)
end Go.Vm

namespace Go.Vm

theorem shr_nat (a k : Nat) : shrI .u64 (a : Int) (k : Int) = ((a / 2 ^ (min k 64) : Nat) : Int) := by
  unfold shrI
  rw [Int.toNat_natCast, show IntKind.u64.bits = 64 from rfl]
  rw [Int.fdiv_eq_ediv_of_nonneg _ (Int.le_of_lt (Int.pow_pos (by decide)))]
  simp
theorem shl_nat (a k : Nat) : shlI .u64 (a : Int) (k : Int) = ((a * 2 ^ (min k 64) % 18446744073709551616 : Nat) : Int) := by
  unfold shlI
  rw [Int.toNat_natCast, show IntKind.u64.bits = 64 from rfl, u64_wrap_mod]
  simp
theorem mask32 (a : Nat) (ha : a < 18446744073709551616) : Go.bits .and .u64 (a : Int) 4294967295 = ((a % 4294967296 : Nat) : Int) := by
  have h := u64_and_nat a 4294967295 ha (by omega)
  have e : a &&& 4294967295 = a % 4294967296 := Nat.and_two_pow_sub_one_eq_mod a 32
  rw [e] at h
  exact h
theorem wrapN {a : Nat} (ha : a < 18446744073709551616) : IntKind.u64.wrap (a : Int) = (a : Int) := u64_wrap (by omega) (by omega)
theorem wrapM (a : Nat) : IntKind.u64.wrap (a : Int) = ((a % 18446744073709551616 : Nat) : Int) := by rw [u64_wrap_mod]; omega

theorem bitlen_le_iff (n k : Nat) : bitlen n ≤ k ↔ n < 2 ^ k := (lt_two_pow_iff n k).symm
theorem bitlen_shift (n k : Nat) : bitlen (n / 2 ^ k) = bitlen n - k := by
  have h : ∀ j, bitlen (n / 2 ^ k) ≤ j ↔ bitlen n - k ≤ j := by
    intro j
    rw [bitlen_le_iff, Nat.div_lt_iff_lt_mul (Nat.two_pow_pos k), ← Nat.pow_add, ← bitlen_le_iff]
    omega
  exact Nat.le_antisymm ((h _).2 (Nat.le_refl _)) ((h _).1 (Nat.le_refl _))
theorem bitlen_ge {n k : Nat} (h : 2 ^ k ≤ n) : k < bitlen n := by
  rcases Nat.lt_or_ge k (bitlen n) with h1 | h1
  · exact h1
  · have := (bitlen_le_iff n k).1 h1; omega
theorem bitlen_zero {n : Nat} : bitlen n = 0 ↔ n = 0 := by
  unfold bitlen
  split <;> simp_all
theorem bitlen_top {n : Nat} (h : n ≠ 0) : 2 ^ (bitlen n - 1) ≤ n := by
  rcases Nat.lt_or_ge n (2 ^ (bitlen n - 1)) with h1 | h1
  · have := (bitlen_le_iff n _).2 h1
    have : bitlen n ≠ 0 := fun e => h (bitlen_zero.1 e)
    omega
  · exact h1
theorem bitlen_lt (n : Nat) : n < 2 ^ bitlen n := (bitlen_le_iff n _).1 (Nat.le_refl _)
theorem bitlen_le64 {n : Nat} (h : n < 18446744073709551616) : bitlen n ≤ 64 := (bitlen_le_iff n 64).2 h

theorem wlen_two_pow (n : Nat) : wlen (2 ^ n) ≤ n / 64 + 1 := by
  rw [wlen_le, pow64]
  exact Nat.pow_lt_pow_right (by decide) (by omega)
/-- A product, a word and a carry added. -/
def mulLo (x y o c : Int) : Int := ((x * y % 18446744073709551616 + o + 0) % 18446744073709551616 + c + 0) % 18446744073709551616
def mulHi (x y o c : Int) : Int := IntKind.u64.wrap (IntKind.u64.wrap (x * y / 18446744073709551616 + (x * y % 18446744073709551616 + o + 0) / 18446744073709551616) + ((x * y % 18446744073709551616 + o + 0) % 18446744073709551616 + c + 0) / 18446744073709551616)
theorem word_mul_le {x y : Nat} (hx : x < 18446744073709551616) (hy : y < 18446744073709551616) : x * y ≤ 340282366920938463426481119284349108225 := Nat.mul_le_mul (show x ≤ 18446744073709551615 by omega) (show y ≤ 18446744073709551615 by omega)
theorem mul_parts {x y o c : Nat} (hx : x < 18446744073709551616) (hy : y < 18446744073709551616) (ho : o < 18446744073709551616) (hc : c < 18446744073709551616) :
    mulLo x y o c = (((x * y + o + c) % 18446744073709551616 : Nat) : Int) ∧ mulHi x y o c = (((x * y + o + c) / 18446744073709551616 : Nat) : Int) ∧ (x * y + o + c) / 18446744073709551616 < 18446744073709551616 := by
  have hp := word_mul_le hx hy
  unfold mulLo mulHi
  rw [← Int.natCast_mul]
  generalize x * y = p at *
  refine ⟨by omega, ?_, by omega⟩
  rw [u64_wrap (x := (p : Int) / 18446744073709551616 + _) (by omega) (by omega), u64_wrap (by omega) (by omega)]
  omega
end Go.Vm

namespace Go.Vm
open Go.ChangeShapes Go.WideShapes Go.RowKit
variable {P : Program} {w : World} {r : Reach} {base : Nat}

/-- One cell. -/
theorem cell_int {u : TypeId} {k : IntKind} {v : Value} (hu : P.underlying u = some (.int k)) (h : Cell.okWide P w r base u v) : ∃ n, v = .int k n ∧ wfB (.int k n) = true := by
  simp only [Cell.okWide, hu] at h
  cases v with
  | int k' n =>
    simp only [Cell.ok, hu] at h
    obtain ⟨rfl, h1, h2⟩ := h
    exact ⟨n, rfl, by simp [wfB, h1, h2]⟩
  | _ => simp [Cell.ok, hu] at h
theorem cell_bool {u : TypeId} {v : Value} (hu : P.underlying u = some .bool) (h : Cell.okWide P w r base u v) : ∃ b, v = .bool b := by
  simp only [Cell.okWide, hu] at h
  cases v <;> simp_all [Cell.ok]
theorem arg_int {t : TypeId} {k : IntKind} {v : Value} (ht : P.underlying t = some (.int k)) (h : Value.okWide P w r base t v) : ∃ n, DR w (.p (.int k n)) v := by
  simp only [Value.okWide, ht] at h
  obtain ⟨n, rfl, hw⟩ := cell_int ht h
  exact ⟨n, rfl, hw⟩
theorem arg_bool {t : TypeId} {v : Value} (ht : P.underlying t = some .bool) (h : Value.okWide P w r base t v) : ∃ b, DR w (.p (.bool b)) v := by
  simp only [Value.okWide, ht] at h
  obtain ⟨n, rfl⟩ := cell_bool ht h
  exact ⟨n, rfl, rfl⟩
theorem cells_ints {k : IntKind} : ∀ (l : List Value), (∀ v ∈ l, ∃ n, v = .int k n ∧ wfB (.int k n) = true) → ∃ xs : List Int, l = xs.map (Value.int k) ∧ inR k xs
  | [], _ => ⟨[], rfl, fun _ h => by cases h⟩
  | v :: l, h => by
    obtain ⟨n, rfl, hn⟩ := h v (by simp)
    obtain ⟨xs, rfl, hx⟩ := cells_ints l fun v hv => h v (by simp [hv])
    exact ⟨n :: xs, rfl, fun y hy => by
      rcases List.mem_cons.1 hy with rfl | hy
      · exact hn
      · exact hx y hy⟩
theorem arg_arr {t e : TypeId} {k : IntKind} {n : Nat} {v : Value} (ht : P.underlying t = some (.array n e)) (he : P.underlying e = some (.int k)) (hc : P.cellTypes P.depth t = some (List.replicate n e)) (hs : P.cellsOf t = n) (hn : n ≤ lim)
    (h : Value.okWide P w r base t v) : ∃ xs, DR w (.r k n xs) v := by
  simp only [Value.okWide, ht] at h
  obtain ⟨cs, rfl, hsz, ts, hts, _, hall⟩ := h
  rw [hc] at hts
  cases hts
  obtain ⟨xs, hxs, hR⟩ := cells_ints (k := k) cs.toList fun v hv => by
    obtain ⟨i, hi⟩ := List.getElem?_of_mem hv
    obtain ⟨u, hu, hcell⟩ := hall i v (by simpa using hi)
    have : u = e := by
      have := (List.getElem?_eq_some_iff.1 hu).2
      simpa using this.symm
    subst this
    exact cell_int he hcell
  refine ⟨xs, ?_, ?_, hn, hR⟩
  · rw [← hxs]
  · have := congrArg List.length hxs
    simp at this
    omega
/-- What a law's call comes to: true. -/
theorem res_true {w w' : World} {vs : List Value} {q : Prop} {rs : List Value} (h : all2 (ResOK w w' vs q) [(Own.mine, D.p (.bool true))] rs) : rs = [.bool true] := by
  match rs, h with
  | [x], ⟨⟨⟨h1, _⟩, _⟩, _⟩ => rw [h1]
end Go.Vm
