/-
  Numbers of some width: plain lemmas. No statement is proved here.
-/
import Derived.Test.YtcglfmldodhakaaCalR

namespace Go.Proofs.Ytcglfmldodhakaa.Vm
open Go Go.Vm

theorem add_end {K : Nat} {out : List Int} {A B c : Nat} (hR : inR .u64 out) (hl : out.length = K) (h : val out + 18446744073709551616 ^ K * c = A + B) : out = wordsN K (A + B) ∧ c = (A + B) / 18446744073709551616 ^ K := by
  have hlt := val_lt hR
  rw [hl] at hlt
  constructor
  · rw [← wordsN_mod]
    refine wordsN_eq hR hl ?_
    rw [← h, Nat.add_mul_mod_self_left, Nat.mod_eq_of_lt hlt]
  · rw [← h, Nat.add_mul_div_left _ _ (pow_pos64 K), Nat.div_eq_of_lt hlt, Nat.zero_add]
theorem sub_end {K : Nat} {out : List Int} {A B c : Nat} (hR : inR .u64 out) (hl : out.length = K) (hB : B < 18446744073709551616 ^ K) (hc : c ≤ 1) (h : val out + B = A + 18446744073709551616 ^ K * c) :
    out = wordsN K (A + (18446744073709551616 ^ K - B)) ∧ c = (if A < B then 1 else 0) := by
  have hlt := val_lt hR
  rw [hl] at hlt
  generalize hP : 18446744073709551616 ^ K = P at *
  have h01 : c = 0 ∨ c = 1 := by omega
  constructor
  · rw [← wordsN_mod, hP]
    refine wordsN_eq hR hl ?_
    rcases h01 with rfl | rfl
    · rw [Nat.mul_zero] at h
      have e : A + (P - B) = val out + P := by omega
      rw [e, Nat.add_mod_right, Nat.mod_eq_of_lt hlt]
    · rw [Nat.mul_one] at h
      have e : A + (P - B) = val out := by omega
      rw [e, Nat.mod_eq_of_lt hlt]
  · rcases h01 with rfl | rfl
    · rw [Nat.mul_zero] at h
      rw [if_neg (by omega)]
    · rw [Nat.mul_one] at h
      rw [if_pos (by omega)]
theorem getD_of_drop {out xs : List Int} {i : Nat} (h : out.drop i = xs.drop i) : out.getD i 0 = xs.getD i 0 := by
  have := congrArg (fun l => l.getD 0 0) h
  simpa [List.getD_eq_getElem?_getD, List.getElem?_drop] using this
theorem mul_carry {x y c : Nat} (hx : x < 18446744073709551616) (hy : y < 18446744073709551616) (hc : c < 18446744073709551616) :
    (((x : Int) * (y : Int) % 18446744073709551616 + (c : Int) + 0) % 18446744073709551616 = (((x * y + c) % 18446744073709551616 : Nat) : Int)) ∧
    IntKind.u64.wrap ((x : Int) * (y : Int) / 18446744073709551616 + ((x : Int) * (y : Int) % 18446744073709551616 + (c : Int) + 0) / 18446744073709551616) = (((x * y + c) / 18446744073709551616 : Nat) : Int) ∧ (x * y + c) / 18446744073709551616 < 18446744073709551616 := by
  have hp := word_mul_le hx hy
  rw [← Int.natCast_mul]
  generalize x * y = p at *
  refine ⟨by omega, ?_, by omega⟩
  rw [u64_wrap (by omega) (by omega)]
  omega
theorem top_word {xs : List Int} {j : Nat} (hx : inR .u64 xs) (hj : j < xs.length) (he : val xs = val (xs.take (j + 1))) (h0 : xs.getD j 0 ≠ 0) :
    val xs ≠ 0 ∧ bitlen (val xs) = 64 * j + bitlen (xs.getD j 0).toNat ∧ bitlen (xs.getD j 0).toNat ≤ 64 := by
  have ax := inR_at hx j
  have hw : wlen (val xs) = j + 1 := by
    rw [he]
    have := wlen_top (inR_take hx (j + 1)) (by
      have : (xs.take (j + 1)).length - 1 = j := by simp; omega
      rw [this]
      simpa [List.getElem?_take] using h0)
    rw [this]
    simp
    omega
  have hne : val xs ≠ 0 := fun e => by rw [e, wlen_zero] at hw; omega
  have hb := bitlen_words hne
  have hg : xs.getD j 0 = ((val xs / 18446744073709551616 ^ j : Nat) : Int) := by
    rw [getD_val hx, Nat.mod_eq_of_lt]
    rw [Nat.div_lt_iff_lt_mul (pow_pos64 j), Nat.mul_comm, ← Nat.pow_succ]
    have := lt_wlen (val xs)
    rwa [hw] at this
  refine ⟨hne, ?_, bitlen_le64 (by omega)⟩
  rw [hb, hw, hg]
  rfl
theorem bit_word {xs : List Int} (hx : inR .u64 xs) (n : Nat) : Go.bits .and .u64 (shrI .u64 (xs.getD (n / 64) 0) ((n % 64 : Nat) : Int)) 1 = ((val xs / 2 ^ n % 2 : Nat) : Int) := by
  rw [getD_val hx, shr_nat, Nat.min_eq_left (by omega)]
  have h1 : val xs / 18446744073709551616 ^ (n / 64) % 18446744073709551616 / 2 ^ (n % 64) < 18446744073709551616 := Nat.lt_of_le_of_lt (Nat.div_le_self _ _) (Nat.mod_lt _ (by decide))
  have h2 := u64_and_nat _ 1 h1 (by decide)
  have h3 : ((1 : Nat) : Int) = (1 : Int) := rfl
  rw [h3] at h2
  rw [h2, Nat.and_one_is_mod]
  congr 1
  have hsp := pow64_split (r := n % 64) (by omega)
  have e1 : val xs / 2 ^ n = val xs / 18446744073709551616 ^ (n / 64) / 2 ^ (n % 64) := by rw [Nat.div_div_eq_div_mul, ← two_pow_split]
  rw [e1]
  generalize val xs / 18446744073709551616 ^ (n / 64) = Q
  have hr : n % 64 < 64 := Nat.mod_lt _ (by decide)
  generalize n % 64 = r at *
  have h2 : Q = Q % 18446744073709551616 + 2 ^ r * (2 ^ (64 - r) * (Q / 18446744073709551616)) := by rw [← Nat.mul_assoc, ← hsp, Nat.mod_add_div]
  have h3 : Q / 2 ^ r = (Q % 18446744073709551616 + 2 ^ r * (2 ^ (64 - r) * (Q / 18446744073709551616))) / 2 ^ r := congrArg (· / 2 ^ r) h2
  have h4 : 2 ^ (64 - r) = 2 * 2 ^ (63 - r) := by rw [← Nat.pow_succ', show (63 - r).succ = 64 - r from by omega]
  rw [h3, Nat.add_mul_div_left _ _ (Nat.two_pow_pos r), h4, Nat.mul_assoc, Nat.add_mul_mod_self_left]
end Go.Proofs.Ytcglfmldodhakaa.Vm

namespace Go.Proofs.Ytcglfmldodhakaa.Vm
open Go Go.Vm

theorem shr_range {xs : List Int} (hx : inR .u64 xs) (j r : Nat) : 0 ≤ shrI .u64 (xs.getD j 0) (r : Int) ∧ shrI .u64 (xs.getD j 0) (r : Int) < 18446744073709551616 := by
  have ax := inR_at hx j
  obtain ⟨x, hX⟩ := Int.eq_ofNat_of_zero_le ax.1
  rw [hX, shr_nat]
  have h1 : x / 2 ^ min r 64 ≤ x := Nat.div_le_self _ _
  generalize x / 2 ^ min r 64 = q at *
  omega
theorem or_zero_shift {a : Int} {k : Int} (ha : 0 ≤ a ∧ a < 18446744073709551616) : Go.bits .or .u64 a (shlI .u64 0 k) = a := by
  have h0 : shlI .u64 0 k = 0 := by
    unfold shlI
    rw [Int.zero_mul]
    rfl
  rw [h0]
  obtain ⟨x, rfl⟩ := Int.eq_ofNat_of_zero_le ha.1
  have := u64_or_nat x 0 (by omega) (by decide)
  simpa using this
/-- A word of what is shifted to the right. -/
theorem shr_word {xs : List Int} (hx : inR .u64 xs) (w r i : Nat) (hr : r < 64) :
    (r = 0 → ((val xs / 2 ^ (64 * w + r) / 18446744073709551616 ^ i % 18446744073709551616 : Nat) : Int) = shrI .u64 (xs.getD (i + w) 0) (r : Int)) ∧
    (r ≠ 0 → Go.bits .or .u64 (shrI .u64 (xs.getD (i + w) 0) (r : Int)) (shlI .u64 (xs.getD (i + w + 1) 0) ((64 - r : Nat) : Int)) = ((val xs / 2 ^ (64 * w + r) / 18446744073709551616 ^ i % 18446744073709551616 : Nat) : Int)) := by
  have e0 : val xs / 2 ^ (64 * w + r) / 18446744073709551616 ^ i = val xs / 18446744073709551616 ^ (i + w) / 2 ^ r := by
    rw [Nat.div_div_eq_div_mul, Nat.div_div_eq_div_mul, Nat.pow_add, ← pow64, Nat.mul_right_comm, ← Nat.pow_add, Nat.add_comm w i]
  have e1 : xs.getD (i + w) 0 = ((val xs / 18446744073709551616 ^ (i + w) % 18446744073709551616 : Nat) : Int) := getD_val hx _
  have e2 : xs.getD (i + w + 1) 0 = ((val xs / 18446744073709551616 ^ (i + w) / 18446744073709551616 % 18446744073709551616 : Nat) : Int) := by
    rw [getD_val hx, Nat.div_div_eq_div_mul, Nat.pow_succ]
  rw [e0, e1, e2]
  generalize val xs / 18446744073709551616 ^ (i + w) = Q
  rw [shr_nat, Nat.min_eq_left (Nat.le_of_lt hr)]
  constructor
  · intro h0
    subst h0
    rw [Nat.pow_zero, Nat.div_one, Nat.div_one]
  · intro h0
    have hsp := pow64_split (Nat.le_of_lt hr)
    have hq1 : Q % 18446744073709551616 / 2 ^ r < 2 ^ (64 - r) := by
      rw [Nat.div_lt_iff_lt_mul (Nat.two_pow_pos r), Nat.mul_comm, ← hsp]
      exact Nat.mod_lt _ (by decide)
    obtain ⟨ho, hlt⟩ := or_shift (x := Q / 18446744073709551616 % 18446744073709551616) (show 64 - r < 64 by omega) hq1
    rw [ho]
    have h1 : Q / 2 ^ r = Q % 18446744073709551616 / 2 ^ r + 2 ^ (64 - r) * (Q / 18446744073709551616) := by
      have h2 : Q = Q % 18446744073709551616 + 2 ^ r * (2 ^ (64 - r) * (Q / 18446744073709551616)) := by
        rw [← Nat.mul_assoc, ← hsp, Nat.mod_add_div]
      have h3 : Q / 2 ^ r = (Q % 18446744073709551616 + 2 ^ r * (2 ^ (64 - r) * (Q / 18446744073709551616))) / 2 ^ r := congrArg (· / 2 ^ r) h2
      rw [h3, Nat.add_mul_div_left _ _ (Nat.two_pow_pos r)]
    have h4 : Q / 18446744073709551616 % 18446744073709551616 * 2 ^ (64 - r) % 18446744073709551616 = 2 ^ (64 - r) * (Q / 18446744073709551616) % 18446744073709551616 := by
      rw [Nat.mul_comm, Nat.mul_mod, Nat.mod_mod, ← Nat.mul_mod]
    have h5 : Q / 2 ^ r % 18446744073709551616 = Q % 18446744073709551616 / 2 ^ r + Q / 18446744073709551616 % 18446744073709551616 * 2 ^ (64 - r) % 18446744073709551616 := by
      rw [h4, h1, Nat.add_mod, Nat.mod_eq_of_lt (a := Q % 18446744073709551616 / 2 ^ r) (Nat.lt_of_le_of_lt (Nat.div_le_self _ _) (Nat.mod_lt _ (by decide))), ← h4, Nat.mod_eq_of_lt hlt]
    rw [h5]
theorem shr_set {xs : List Int} {n K i : Nat} (hi : i < K) :
    (wordsN i (val xs / 2 ^ n) ++ List.replicate (K - i) 0).set i ((val xs / 2 ^ n / 18446744073709551616 ^ i % 18446744073709551616 : Nat) : Int) = wordsN (i + 1) (val xs / 2 ^ n) ++ List.replicate (K - (i + 1)) 0 := by
  rw [List.set_append_right _ _ (by rw [length_wordsN]; omega), length_wordsN, Nat.sub_self, show K - i = (K - (i + 1)) + 1 from by omega, List.replicate_succ, List.set_cons_zero, wordsN_succ, List.append_assoc]
  rfl
theorem shr_end {xs : List Int} (hx : inR .u64 xs) {K w r i : Nat} (hl : xs.length = K) (h : K - w ≤ i) (hK : i ≤ K) :
    wordsN i (val xs / 2 ^ (64 * w + r)) ++ List.replicate (K - i) 0 = wordsN K (val xs / 2 ^ (64 * w + r)) := by
  refine wordsN_eq (inR_append (inR_wordsN _ _) (inR_rep _)) (by rw [List.length_append, length_wordsN, List.length_replicate]; omega) ?_
  rw [val_append, val_zeros, Nat.mul_zero, Nat.add_zero, val_wordsN, Nat.mod_eq_of_lt]
  rw [Nat.div_lt_iff_lt_mul (Nat.two_pow_pos _)]
  refine Nat.lt_of_lt_of_le (val_lt hx) ?_
  rw [hl, pow64, pow64, ← Nat.pow_add]
  exact Nat.pow_le_pow_right (by decide) (by omega)
/-- A word of what is shifted to the left. -/
theorem shl_word {xs : List Int} (hx : inR .u64 xs) (w r k : Nat) (hr : r < 64) (hk : w ≤ k) :
    (r = 0 ∨ k = w → ((val xs * 2 ^ (64 * w + r) / 18446744073709551616 ^ k % 18446744073709551616 : Nat) : Int) = shlI .u64 (xs.getD (k - w) 0) (r : Int)) ∧
    (r ≠ 0 → w < k → Go.bits .or .u64 (shlI .u64 (xs.getD (k - w) 0) (r : Int)) (shrI .u64 (xs.getD (k - w - 1) 0) ((64 - r : Nat) : Int)) = ((val xs * 2 ^ (64 * w + r) / 18446744073709551616 ^ k % 18446744073709551616 : Nat) : Int)) := by
  have e0 : val xs * 2 ^ (64 * w + r) / 18446744073709551616 ^ k = val xs * 2 ^ r / 18446744073709551616 ^ (k - w) := by
    have e : 18446744073709551616 ^ k = 18446744073709551616 ^ w * 18446744073709551616 ^ (k - w) := by rw [← Nat.pow_add, show w + (k - w) = k from by omega]
    rw [e, Nat.pow_add, ← pow64, Nat.mul_left_comm, Nat.mul_div_mul_left _ _ (pow_pos64 w)]
  have hsp := pow64_split (Nat.le_of_lt hr)
  have hpr := Nat.two_pow_pos r
  -- the words above
  have e2 : ∀ j, val xs * 2 ^ r / 18446744073709551616 ^ (j + 1) = (val xs / 18446744073709551616 ^ j) * 2 ^ r / 18446744073709551616 := by
    intro j
    rw [Nat.pow_succ, ← Nat.div_div_eq_div_mul]
    have h1 : val xs = val xs % 18446744073709551616 ^ j + 18446744073709551616 ^ j * (val xs / 18446744073709551616 ^ j) := (Nat.mod_add_div _ _).symm
    have h2 : val xs * 2 ^ r / 18446744073709551616 ^ j = (val xs % 18446744073709551616 ^ j * 2 ^ r) / 18446744073709551616 ^ j + (val xs / 18446744073709551616 ^ j) * 2 ^ r := by
      have h3 : val xs * 2 ^ r / 18446744073709551616 ^ j = (val xs % 18446744073709551616 ^ j * 2 ^ r + 18446744073709551616 ^ j * (val xs / 18446744073709551616 ^ j * 2 ^ r)) / 18446744073709551616 ^ j := by
        rw [← Nat.mul_assoc, ← Nat.add_mul, Nat.mod_add_div]
      rw [h3, Nat.add_mul_div_left _ _ (pow_pos64 j)]
    rw [h2]
    have h4 : val xs % 18446744073709551616 ^ j * 2 ^ r / 18446744073709551616 ^ j < 2 ^ r := by
      rw [Nat.div_lt_iff_lt_mul (pow_pos64 j), Nat.mul_comm]
      exact Nat.mul_lt_mul_of_pos_left (Nat.mod_lt _ (pow_pos64 j)) hpr
    generalize val xs % 18446744073709551616 ^ j * 2 ^ r / 18446744073709551616 ^ j = e at *
    generalize val xs / 18446744073709551616 ^ j = Q
    have h5 : ∀ y, y < 2 ^ r → (y + Q * 2 ^ r) / 18446744073709551616 = Q / 2 ^ (64 - r) := by
      intro y hy
      rw [hsp, ← Nat.div_div_eq_div_mul, Nat.add_mul_div_right _ _ hpr, Nat.div_eq_of_lt hy, Nat.zero_add]
    have h6 := h5 0 hpr
    rw [Nat.zero_add] at h6
    rw [h5 e h4, h6]
  have g : ∀ j, xs.getD j 0 = ((val xs / 18446744073709551616 ^ j % 18446744073709551616 : Nat) : Int) := fun j => getD_val hx j
  have hsl : ∀ a : Nat, shlI .u64 (a : Int) (r : Int) = ((a * 2 ^ r % 18446744073709551616 : Nat) : Int) := fun a => by rw [shl_nat, Nat.min_eq_left (Nat.le_of_lt hr)]
  have hmm : ∀ a : Nat, a % 18446744073709551616 * 2 ^ r % 18446744073709551616 = a * 2 ^ r % 18446744073709551616 := fun a => by rw [Nat.mul_mod, Nat.mod_mod, ← Nat.mul_mod]
  rw [e0]
  constructor
  · intro h
    rw [g, hsl, hmm]
    rcases Nat.eq_zero_or_pos (k - w) with hz | hz
    · rw [hz, Nat.pow_zero, Nat.div_one, Nat.div_one]
    · have h0 : r = 0 := h.resolve_right (by omega)
      subst h0
      rw [Nat.pow_zero, Nat.mul_one, Nat.mul_one]
  · intro h0 hlt
    obtain ⟨j, hj⟩ : ∃ j, k - w = j + 1 := ⟨k - w - 1, by omega⟩
    rw [hj, Nat.add_sub_cancel, g, g, hsl, hmm, e2, shr_nat, Nat.min_eq_left (Nat.sub_le _ _), Nat.pow_succ, ← Nat.div_div_eq_div_mul]
    generalize val xs / 18446744073709551616 ^ j = Q
    -- Q / W * 2^r mod W, and Q mod W / 2^(64-r)
    have h1 : Q * 2 ^ r / 18446744073709551616 = Q / 18446744073709551616 * 2 ^ r + Q % 18446744073709551616 / 2 ^ (64 - r) := by
      have h2 : Q * 2 ^ r / 18446744073709551616 = (Q % 18446744073709551616 * 2 ^ r + 18446744073709551616 * (Q / 18446744073709551616 * 2 ^ r)) / 18446744073709551616 := by
        rw [← Nat.mul_assoc, ← Nat.add_mul, Nat.mod_add_div]
      rw [h2, Nat.add_mul_div_left _ _ (by decide), div_shift (Nat.le_of_lt hr), Nat.add_comm]
    have h3 : Q % 18446744073709551616 / 2 ^ (64 - r) < 2 ^ r := by
      rw [Nat.div_lt_iff_lt_mul (Nat.two_pow_pos _), ← hsp]
      exact Nat.mod_lt _ (by decide)
    obtain ⟨ho, hlt2⟩ := or_shift (x := Q / 18446744073709551616) hr h3
    have hco : Go.bits .or .u64 ((Q / 18446744073709551616 * 2 ^ r % 18446744073709551616 : Nat) : Int) ((Q % 18446744073709551616 / 2 ^ (64 - r) : Nat) : Int) = Go.bits .or .u64 ((Q % 18446744073709551616 / 2 ^ (64 - r) : Nat) : Int) ((Q / 18446744073709551616 * 2 ^ r % 18446744073709551616 : Nat) : Int) := by
      rw [u64_or_nat _ _ (Nat.mod_lt _ (by decide)) (by omega), u64_or_nat _ _ (by omega) (Nat.mod_lt _ (by decide)), Nat.or_comm]
    rw [hco, ← hsl, ho, h1, Nat.add_mod, Nat.mod_eq_of_lt (a := Q % 18446744073709551616 / 2 ^ (64 - r)) (by omega), Nat.add_comm (Q / 18446744073709551616 * 2 ^ r % 18446744073709551616), Nat.mod_eq_of_lt hlt2]
theorem word_mod {K k N : Nat} (hk : k < K) : N % 18446744073709551616 ^ K / 18446744073709551616 ^ k % 18446744073709551616 = N / 18446744073709551616 ^ k % 18446744073709551616 := by
  have e : 18446744073709551616 ^ K = 18446744073709551616 ^ k * (18446744073709551616 * 18446744073709551616 ^ (K - k - 1)) := by
    rw [← Nat.pow_succ', ← Nat.pow_add, show k + (K - k - 1).succ = K from by omega]
  rw [e, Nat.mod_mul_right_div_self, Nat.mod_mul_right_mod]
/-- Filled from above, word by word. -/
theorem set_high {N K k : Nat} (hk : k < K) :
    (List.replicate (min (k + 1) K) 0 ++ (wordsN K N).drop (k + 1)).set k ((N / 18446744073709551616 ^ k % 18446744073709551616 : Nat) : Int) = List.replicate (min k K) 0 ++ (wordsN K N).drop k := by
  have hl := length_wordsN K N
  have hd : (wordsN K N).drop k = ((N / 18446744073709551616 ^ k % 18446744073709551616 : Nat) : Int) :: (wordsN K N).drop (k + 1) := by
    rw [List.drop_eq_getElem_cons (by omega)]
    congr 1
    have h1 := getD_val (inR_wordsN K N) k
    rw [List.getD_eq_getElem?_getD, List.getElem?_eq_getElem (by omega)] at h1
    simp only [Option.getD_some] at h1
    rw [h1, val_wordsN, word_mod hk]
  rw [Nat.min_eq_left (by omega), Nat.min_eq_left (by omega), List.replicate_succ', List.append_assoc, List.set_append_right _ _ (by rw [List.length_replicate]; omega), List.length_replicate, Nat.sub_self, hd]
  rfl
theorem shl_set {xs : List Int} {n K k : Nat} (hk : k < K) :
    (List.replicate (min (k + 1) K) 0 ++ (wordsN K (val xs * 2 ^ n)).drop (k + 1)).set k ((val xs * 2 ^ n / 18446744073709551616 ^ k % 18446744073709551616 : Nat) : Int) = List.replicate (min k K) 0 ++ (wordsN K (val xs * 2 ^ n)).drop k := set_high hk
/-- One digit of a quotient by one word. -/
theorem div_step {xs : List Int} (hx : inR .u64 xs) (j : Nat) {n : Nat} (hn : 0 < n) :
    ((val xs / 18446744073709551616 ^ (j + 1) % n) * 18446744073709551616 + (xs.getD j 0).toNat) / n = val xs / n / 18446744073709551616 ^ j % 18446744073709551616 ∧ ((val xs / 18446744073709551616 ^ (j + 1) % n) * 18446744073709551616 + (xs.getD j 0).toNat) % n = val xs / 18446744073709551616 ^ j % n ∧
      ((val xs / 18446744073709551616 ^ (j + 1) % n) * 18446744073709551616 + (xs.getD j 0).toNat) / n < 18446744073709551616 := by
  have hg := getD_val hx j
  have hx1 : (xs.getD j 0).toNat = val xs / 18446744073709551616 ^ j % 18446744073709551616 := by rw [hg, Int.toNat_natCast]
  rw [hx1, Nat.pow_succ, ← Nat.div_div_eq_div_mul, Nat.div_div_eq_div_mul (val xs) n, Nat.mul_comm n, ← Nat.div_div_eq_div_mul]
  generalize val xs / 18446744073709551616 ^ j = A
  have hA : A = A % 18446744073709551616 + 18446744073709551616 * (A / 18446744073709551616) := (Nat.mod_add_div _ _).symm
  have hH : A / 18446744073709551616 = A / 18446744073709551616 % n + n * (A / 18446744073709551616 / n) := (Nat.mod_add_div _ _).symm
  have hlt : (A / 18446744073709551616 % n * 18446744073709551616 + A % 18446744073709551616) / n < 18446744073709551616 := by
    rw [Nat.div_lt_iff_lt_mul hn]
    have h1 : A / 18446744073709551616 % n < n := Nat.mod_lt _ hn
    have h2 : A % 18446744073709551616 < 18446744073709551616 := Nat.mod_lt _ (by decide)
    have h3 : (A / 18446744073709551616 % n + 1) * 18446744073709551616 ≤ n * 18446744073709551616 := Nat.mul_le_mul_right _ h1
    rw [Nat.mul_comm 18446744073709551616 n]
    omega
  have hA2 : A = (A / 18446744073709551616 % n * 18446744073709551616 + A % 18446744073709551616) + n * (A / 18446744073709551616 / n * 18446744073709551616) := by
    have h4 : 18446744073709551616 * (A / 18446744073709551616) = A / 18446744073709551616 % n * 18446744073709551616 + n * (A / 18446744073709551616 / n * 18446744073709551616) := by
      rw [← Nat.mul_assoc, ← Nat.add_mul, ← hH, Nat.mul_comm]
    omega
  refine ⟨?_, ?_, hlt⟩
  · have h5 : A / n = (A / 18446744073709551616 % n * 18446744073709551616 + A % 18446744073709551616) / n + A / 18446744073709551616 / n * 18446744073709551616 := by
      have h6 := congrArg (· / n) hA2
      rw [Nat.add_mul_div_left _ _ hn] at h6
      exact h6
    rw [h5, Nat.add_mul_mod_self_right, Nat.mod_eq_of_lt hlt]
  · have h6 := congrArg (· % n) hA2
    rw [Nat.add_mul_mod_self_left] at h6
    exact h6.symm
theorem shl_low {xs : List Int} {n K k : Nat} (hk : k ≤ K) (hn : 64 * k ≤ n) : List.replicate (min k K) 0 ++ (wordsN K (val xs * 2 ^ n)).drop k = wordsN K (val xs * 2 ^ n) := by
  have hz : (wordsN K (val xs * 2 ^ n)).take k = List.replicate (min k K) 0 := by
    refine val_inj (inR_take (inR_wordsN _ _) k) (inR_rep _) (by rw [List.length_take, length_wordsN, List.length_replicate]) ?_
    rw [val_take (inR_wordsN _ _), val_wordsN, val_zeros, Nat.mod_mod_of_dvd _ (Nat.pow_dvd_pow _ hk), show n = 64 * k + (n - 64 * k) from by omega, Nat.pow_add, ← pow64, Nat.mul_left_comm, Nat.mul_mod_right]
  rw [← hz, List.take_append_drop]
theorem or_one (Q : Nat) : (Q % 2 = 0 → Q ||| 1 = Q + 1) ∧ (Q % 2 = 1 → Q ||| 1 = Q) := by
  have h1 := Nat.or_div_two_pow (a := Q) (b := 1) (n := 1)
  have h2 := Nat.or_mod_two_pow (a := Q) (b := 1) (n := 1)
  rw [Nat.pow_one, show 1 / 2 = 0 from rfl, Nat.or_zero] at h1
  rw [Nat.pow_one, show 1 % 2 = 1 from rfl] at h2
  constructor
  · intro h
    rw [h, show 0 ||| 1 = 1 from rfl] at h2
    omega
  · intro h
    rw [h, show 1 ||| 1 = 1 from rfl] at h2
    omega
theorem or_bit (B k : Nat) : (B / 2 ^ k % 2 = 0 → B ||| 2 ^ k = B + 2 ^ k) ∧ (B / 2 ^ k % 2 = 1 → B ||| 2 ^ k = B) := by
  have h1 := Nat.or_div_two_pow (a := B) (b := 2 ^ k) (n := k)
  have h2 := Nat.or_mod_two_pow (a := B) (b := 2 ^ k) (n := k)
  have hp := Nat.two_pow_pos k
  rw [Nat.mod_self, Nat.or_zero] at h2
  rw [Nat.div_self hp] at h1
  have h3 := Nat.mod_add_div (B ||| 2 ^ k) (2 ^ k)
  have h4 := Nat.mod_add_div B (2 ^ k)
  have h5 := or_one (B / 2 ^ k)
  rw [h2, h1] at h3
  generalize B / 2 ^ k = Q at *
  generalize 2 ^ k = p at *
  constructor
  · intro h
    rw [h5.1 h, Nat.mul_add] at h3
    omega
  · intro h
    rw [h5.2 h] at h3
    omega
end Go.Proofs.Ytcglfmldodhakaa.Vm
