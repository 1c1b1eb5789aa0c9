/-
  Package nat: sizes, sums. No statement is proved here.
-/
import Derived.Test.YthilpmchdeolnaaCalK
namespace Go.Proofs.Ythilpmchdeolnaa.Vm
open Go Go.Vm
noncomputable section
set_option linter.unusedVariables false

/-! ### slices.Clone -/
def cloneC : FnC := fun ds κ => match ds with
  | [.w .u64 xs] => cond (decide (xs.length ≤ 1099511627776)) (κ [(.mine, .w .u64 xs)]) none
  | _ => none
/-! ### size, Trim, Of, Len -/
abbrev nSizeC := sizeC
def nSizeL : LpC := lpC 19 [0, 3] fun vs m κ => match vs, m with
  | [.o (.f 0), .o (.p (.int .i64 i))], [(_, .w .u64 n xs)] => cond (decide (i = (n : Int))) (κ (.exit 0) (lay 19 [3] [.o (.p (.int .i64 ((wlen (val xs) : Nat) : Int)))]) []) none
  | _, _ => none
abbrev nTrimC := trimC
def cut (xs : List Int) : List Int := List.take (((wlen (val xs) : Nat) : Int).toNat - 0) (List.drop 0 xs)
theorem cut_eq {xs : List Int} (h : inR .u64 xs) : cut xs = words (val xs) := by
  unfold cut
  rw [Int.toNat_natCast, Nat.sub_zero, List.drop_zero, take_words h]
theorem cut_bds {xs : List Int} (h : inR .u64 xs) : decide (0 ≤ ((wlen (val xs) : Nat) : Int) ∧ ((wlen (val xs) : Nat) : Int) ≤ (xs.length : Int)) = true := by
  have := wlen_val h
  exact decide_eq_true (by omega)
theorem cut_fit {xs : List Int} (h : inR .u64 xs) : decide (0 + (((wlen (val xs) : Nat) : Int).toNat - 0) ≤ xs.length) = true := by
  have := wlen_val h
  exact decide_eq_true (by omega)
def nOfC : FnC := fun ds κ => match ds with
  | [.p (.int .u64 n)] => κ [(.mine, .w .u64 (words n.toNat))]
  | _ => none
abbrev nLenC := lenC
/-! ### Cmp -/
abbrev nCmpC := cmpC
def nCmpL : LpC := lpC 49 [0, 1, 5] fun vs m κ => match vs, m with
  | [.o (.s 0 0 n), .o (.s 1 0 n'), .o (.p (.int .i64 i))], [(_, .w .u64 n1 xs), (_, .w .u64 n2 ys)] => cond (decide (i + 1 = (n : Int) ∧ n = n' ∧ n ≤ n1 ∧ n' ≤ n2 ∧ n ≤ 281474976710656))
    (cond (decide (val (xs.take n) = val (ys.take n))) (κ (.exit 0) (lay 49 [] []) []) (κ .ret (lay 49 [4] [.o (.p (.int .i64 (cmpI (val (xs.take n)) (val (ys.take n)))))]) [])) none
  | _, _ => none
def nCmpSt (n n' : Nat) (i : Int) : List V := lay 49 [0, 1, 5] [.o (.s 0 0 n), .o (.s 1 0 n'), .o (.p (.int .i64 i))]
theorem at_take {xs : List Int} {n i : Nat} (h : i < n) : xs.getD i 0 = (xs.take n).getD i 0 := by
  simp [List.getD_eq_getElem?_getD, h]
/-! ### Add -/
abbrev nAddC := addC
def nAddL : LpC := lpC 64 [0, 1, 5, 6, 29, 30, 31] fun vs m κ => match vs, m with
  | [.o (.s 0 0 l1), .o (.s 1 0 l2), .o (.f 2), .o (.p (.int .u64 c)), .o (.s 0 0 l1'), .o (.p (.int .i64 n)), .o (.p (.int .i64 i))], [(o, .w .u64 n1 xs), (_, .w .u64 n2 ys), (.mine, .w .u64 n3 out)] =>
    cond (decide (c = 0 ∧ n = (l1 : Int) ∧ l1' = l1 ∧ i = 0 ∧ l2 ≤ l1 ∧ l1 ≤ n1 ∧ l2 ≤ n2 ∧ n3 = l1 + 1 ∧ val out = 0))
      (κ (.exit 0) (lay 64 [0, 5, 6] [.o (.s 0 0 l1), .o (.f 1), .o (.p (.int .u64 (((val (xs.take l1) + val (ys.take l2)) / 18446744073709551616 ^ l1 : Nat) : Int)))]) [(o, .w .u64 n1 xs), (.mine, .w .u64 n3 (wordsN l1 (val (xs.take l1) + val (ys.take l2)) ++ [0]))]) none
  | _, _ => none
def nAddSt (l1 l2 : Nat) (c n i : Int) : List V := lay 64 [0, 1, 5, 6, 29, 30, 31] [.o (.s 0 0 l1), .o (.s 1 0 l2), .o (.f 2), .o (.p (.int .u64 c)), .o (.s 0 0 l1), .o (.p (.int .i64 n)), .o (.p (.int .i64 i))]
theorem set_end {l S : Nat} (h : S < 18446744073709551616 ^ (l + 1)) : (wordsN l S ++ [0]).set l ((S / 18446744073709551616 ^ l : Nat) : Int) = wordsN (l + 1) S := by
  rw [List.set_append_right _ _ (by rw [length_wordsN]; omega), length_wordsN, Nat.sub_self, wordsN_succ, Nat.mod_eq_of_lt (a := S / 18446744073709551616 ^ l)]
  · rfl
  · rw [Nat.div_lt_iff_lt_mul (pow_pos64 _), Nat.mul_comm, ← Nat.pow_succ]
    exact h
def nAddT (l1 l2 : Nat) (xs ys : List Int) : R :=
  let n := IntKind.i64.wrap ((l1 : Int) + 1)
  let L := (wordsN l1 (val (xs.take l1) + val (ys.take l2)) ++ [0]).set ((l1 : Int).toNat) (((val (xs.take l1) + val (ys.take l2)) / 18446744073709551616 ^ l1 : Nat) : Int)
  cond (decide (0 ≤ n ∧ n ≤ n ∧ n ≤ 17592186044416)) (cond (decide ((0 : Int) = 0 ∧ (l1 : Int) = (l1 : Int) ∧ l1 = l1 ∧ (0 : Int) = 0 ∧ l2 ≤ l1 ∧ l1 ≤ xs.length ∧ l2 ≤ ys.length ∧ n.toNat = l1 + 1 ∧ val (List.replicate n.toNat 0) = 0))
    (cond (decide (0 ≤ (l1 : Int) ∧ (l1 : Int) < (n.toNat : Int))) (cond (decide ((l1 : Int).toNat < n.toNat ∧ IntKind.u64 = IntKind.u64 ∧ (Ty.i .u64).size = 1))
      (cond (decide (0 ≤ ((wlen (val L) : Nat) : Int) ∧ ((wlen (val L) : Nat) : Int) ≤ (n.toNat : Int))) (cond (decide (0 + (((wlen (val L) : Nat) : Int).toNat - 0) ≤ n.toNat)) (some [(.mine, .w .u64 (cut L))]) none) none) none) none) none) none
theorem nAddT_eq {l1 l2 : Nat} {xs ys : List Int} (hx : inR .u64 xs) (hy : inR .u64 ys) (h : l2 ≤ l1) (h1 : l1 ≤ xs.length) (h2 : l2 ≤ ys.length) (hl : l1 ≤ 549755813888) : nAddT l1 l2 xs ys = some [(.mine, .w .u64 (words (val (xs.take l1) + val (ys.take l2))))] := by
  have hX : val (xs.take l1) < 18446744073709551616 ^ l1 := Nat.lt_of_lt_of_le (val_lt (inR_take hx l1)) (Nat.pow_le_pow_right (by decide) (by rw [List.length_take]; omega))
  have hY : val (ys.take l2) < 18446744073709551616 ^ l1 := Nat.lt_of_lt_of_le (val_lt (inR_take hy l2)) (Nat.pow_le_pow_right (by decide) (by rw [List.length_take]; omega))
  have hS : val (xs.take l1) + val (ys.take l2) < 18446744073709551616 ^ (l1 + 1) := by rw [Nat.pow_succ]; omega
  unfold nAddT
  dsimp only
  generalize val (xs.take l1) + val (ys.take l2) = S at *
  rw [Int.toNat_natCast, set_end hS, i64_wrap (by omega) (by omega), show ((l1 : Int) + 1).toNat = l1 + 1 by omega, val_zeros]
  have hw := wlen_val (inR_wordsN (l1 + 1) S)
  rw [length_wordsN] at hw
  rw [cut_eq (inR_wordsN _ _), decide_eq_true (by omega), cond_true, decide_eq_true ⟨rfl, rfl, rfl, rfl, h, h1, h2, rfl, rfl⟩, cond_true, decide_eq_true (by omega), cond_true, decide_eq_true ⟨by omega, rfl, rfl⟩, cond_true, decide_eq_true (by omega), cond_true, decide_eq_true (by omega), cond_true, val_wordsN, Nat.mod_eq_of_lt hS]
/-! ### Sub -/
def nSubC : FnC := fun ds κ => match ds with
  | [.w .u64 xs, .w .u64 ys] => cond (decide (xs.length ≤ 549755813888 ∧ ys.length ≤ 549755813888)) (cond (decide (val xs < val ys)) (κ [(.new, .w .u64 []), (.mine, .p (.int .i64 3))]) (κ [(.new, .w .u64 (words (val xs - val ys))), (.mine, .p (.int .i64 0))])) none
  | _ => none
def nSubL : LpC := lpC 47 [1, 6, 7, 17, 18] fun vs m κ => match vs, m with
  | [.o (.f 0), .o (.f 1), .o (.p (.int .u64 c)), .o (.p (.int .i64 n)), .o (.p (.int .i64 i))], [(_, .w .u64 n1 ys), (.mine, .w .u64 n2 out)] =>
    cond (decide (c = 0 ∧ n = (n2 : Int) ∧ i = 0 ∧ val ys ≤ val out)) (κ (.exit 0) (lay 47 [6] [.o (.f 0)]) [(.mine, .w .u64 n2 (wordsN n2 (val out - val ys)))]) none
  | _, _ => none
def nSubSt (c n i : Int) : List V := lay 47 [1, 6, 7, 17, 18] [.o (.f 0), .o (.f 1), .o (.p (.int .u64 c)), .o (.p (.int .i64 n)), .o (.p (.int .i64 i))]
theorem cmpI_neg (a b : Nat) : decide (cmpI a b < 0) = decide (a < b) := by
  unfold cmpI
  by_cases h : a < b
  · simp [h]
  · by_cases h2 : b < a <;> simp [h, h2]
end
end Go.Proofs.Ythilpmchdeolnaa.Vm
