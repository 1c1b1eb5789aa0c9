/-
  Package nat: shifts. No statement is proved here.
-/
import Derived.Test.YthilpmchdeolnaaCalN1
namespace Go.Proofs.Ythilpmchdeolnaa.Vm
open Go Go.Vm
noncomputable section
set_option linter.unusedVariables false

/-! ### Shl -/
def nShlC : FnC := fun ds κ => match ds with
  | [.w .u64 xs, .p (.int .i64 n)] => cond (decide (xs.length ≤ 549755813888)) (cond (decide (n < 0)) (κ [(.new, .w .u64 []), (.mine, .p (.int .i64 1))])
      (cond (decide (n.toNat / 64 > 2000 ∨ wlen (val xs) + (n.toNat + 63) / 64 > 2000)) (κ [(.new, .w .u64 []), (.mine, .p (.int .i64 4))]) (κ [(.new, .w .u64 (words (val xs * 2 ^ n.toNat))), (.mine, .p (.int .i64 0))]))) none
  | _ => none
def nShlL : LpC := lpC 85 [1, 6, 7, 8] fun vs m κ => match vs, m with
  | [.o (.p (.int .i64 n)), .o (.f 0), .o (.p (.int .i64 s)), .o (.p (.int .i64 i))], [(.mine, .w .u64 n1 xs)] =>
    cond (decide (0 ≤ n ∧ 1 ≤ s ∧ s ≤ 63 ∧ i + 1 = (n1 : Int) ∧ n.toNat / 64 < n1)) (κ (.exit 1) (lay 85 [1, 6, 7] [.o (.p (.int .i64 n)), .o (.f 0), .o (.p (.int .i64 s))]) [(.mine, .w .u64 n1 (xs.take (n.toNat / 64 + 1) ++ (wordsN n1 (val xs * 2 ^ s.toNat)).drop (n.toNat / 64 + 1)))]) none
  | _, _ => none
def nShlSt (n s i : Int) : List V := lay 85 [1, 6, 7, 8] [.o (.p (.int .i64 n)), .o (.f 0), .o (.p (.int .i64 s)), .o (.p (.int .i64 i))]
def endT (N : Nat) (Z : List Int) (more : List (Own × D)) : R :=
  cond (decide (0 ≤ ((wlen (val Z) : Nat) : Int) ∧ ((wlen (val Z) : Nat) : Int) ≤ (N : Int))) (cond (decide (0 + (((wlen (val Z) : Nat) : Int).toNat - 0) ≤ N)) (some ((.new, .w .u64 (cut Z)) :: more)) none) none
theorem endT_eq {N : Nat} {Z : List Int} (h : inR .u64 Z) (hl : Z.length = N) (more : List (Own × D)) : endT N Z more = some ((.new, .w .u64 (words (val Z))) :: more) := by
  subst hl
  unfold endT
  rw [cut_bds h, cond_true, cut_fit h, cond_true, cut_eq h]
def nShlT (l : Nat) (xs : List Int) (n : Int) : R :=
  let w := IntKind.i64.wrap (n.tdiv 64)
  let L := IntKind.i64.wrap (IntKind.i64.wrap ((l : Int) + w) + 1)
  let N := L.toNat
  let Z := splice (List.replicate N 0) w.toNat (List.take (N - w.toNat) (List.take l (List.drop 0 xs)))
  let s := n.tmod 64
  let Y := Z.take (n.toNat / 64 + 1) ++ (wordsN N (val Z * 2 ^ s.toNat)).drop (n.toNat / 64 + 1)
  cond (decide (0 ≤ L ∧ L ≤ L ∧ L ≤ 17592186044416)) (cond (decide (0 ≤ w ∧ w ≤ (N : Int))) (cond (decide (0 + l ≤ xs.length)) (cond (decide (IntKind.u64 = IntKind.u64 ∧ w.toNat + (N - w.toNat) ≤ N ∧ some 0 ≠ some 1))
    (cond (decide (s > 0)) (cond (decide (0 ≤ n ∧ 1 ≤ s ∧ s ≤ 63 ∧ IntKind.i64.wrap ((N : Int) - 1) + 1 = (N : Int) ∧ n.toNat / 64 < N))
        (cond (decide (0 ≤ w ∧ w < (N : Int))) (cond (decide (w.toNat < N)) (cond (decide (s < 0)) none (cond (decide (0 ≤ w ∧ w < (N : Int))) (cond (decide (w.toNat < N ∧ IntKind.u64 = IntKind.u64 ∧ (Ty.i .u64).size = 1))
          (endT N (Y.set w.toNat (shlI .u64 (Y.getD w.toNat 0) s)) [(.mine, .p (.int .i64 0))]) none) none)) none) none) none)
      (endT N Z [(.mine, .p (.int .i64 0))])) none) none) none) none
theorem hi_set {L B : List Int} {i : Nat} (h : i < L.length) (v : Int) : (L.take (i + 1) ++ B).set i v = L.take i ++ v :: B := by
  have e : L.take (i + 1) = L.take i ++ [L.getD i 0] := by
    rw [List.take_add_one, List.getElem?_eq_getElem h]
    simp [List.getD_eq_getElem?_getD, h]
  rw [e, List.append_assoc, List.set_append_right _ _ (by rw [List.length_take]; omega), List.length_take, Nat.min_eq_left (by omega), Nat.sub_self]
  rfl
theorem hi_get {L B : List Int} {i j : Nat} (h : i ≤ j) (hj : j < L.length) : (L.take (j + 1) ++ B).getD i 0 = L.getD i 0 := by
  rw [List.getD_eq_getElem?_getD, List.getElem?_append_left (by rw [List.length_take]; omega), List.getElem?_take, if_pos (by omega), ← List.getD_eq_getElem?_getD]
theorem wordsN_cons {K N k : Nat} (hk : k < K) : (wordsN K N).drop k = ((N / 18446744073709551616 ^ k % 18446744073709551616 : Nat) : Int) :: (wordsN K N).drop (k + 1) := by
  have hl := length_wordsN K N
  rw [List.drop_eq_getElem_cons (by omega)]
  congr 1
  have h1 := getD_val (inR_wordsN K N) k
  rw [List.getD_eq_getElem?_getD, List.getElem?_eq_getElem (by omega)] at h1
  simp only [Option.getD_some] at h1
  rw [h1, val_wordsN, word_mod hk]
theorem val_up (w : Nat) (xs ys : List Int) : val (List.replicate w 0 ++ xs ++ ys) = 18446744073709551616 ^ w * val (xs ++ ys) := by
  rw [List.append_assoc, val_append, val_zeros, Nat.zero_add, List.length_replicate]
theorem nShlT_eq {xs : List Int} (hx : inR .u64 xs) {l n : Nat} (hl : l ≤ xs.length) (hn : n / 64 ≤ 2000) (hb : l ≤ 2000) (hz : xs.take l = words (val xs)) :
    nShlT l xs n = some [(.new, .w .u64 (words (val xs * 2 ^ n))), (.mine, .p (.int .i64 0))] := by
  have hll : (words (val xs)).length = l := by rw [← hz, List.length_take]; omega
  unfold nShlT
  dsimp only
  rw [tdiv64, tmod64, i64_wrap (x := ((n / 64 : Nat) : Int)) (by omega) (by omega), i64_wrap (x := (l : Int) + ((n / 64 : Nat) : Int)) (by omega) (by omega), i64_wrap (x := (l : Int) + ((n / 64 : Nat) : Int) + 1) (by omega) (by omega), Int.toNat_natCast, Int.toNat_natCast, Int.toNat_natCast, List.drop_zero, hz,
    show ((l : Int) + ((n / 64 : Nat) : Int) + 1).toNat = l + n / 64 + 1 by omega, show List.take (l + n / 64 + 1 - n / 64) (words (val xs)) = words (val xs) from List.take_of_length_le (by omega)]
  have hsp : splice (List.replicate (l + n / 64 + 1) (0 : Int)) (n / 64) (words (val xs)) = List.replicate (n / 64) 0 ++ words (val xs) ++ [0] := by
    unfold splice
    rw [List.take_replicate, List.drop_replicate, hll, show min (n / 64) (l + n / 64 + 1) = n / 64 by omega, show l + n / 64 + 1 - (n / 64 + l) = 1 by omega]
    rfl
  have hZR : inR .u64 (List.replicate (n / 64) 0 ++ words (val xs) ++ [0]) := inR_append (inR_append (inR_rep _) (inR_words _)) (inR_rep 1)
  have hZl : (List.replicate (n / 64) 0 ++ words (val xs) ++ [0]).length = l + n / 64 + 1 := by
    rw [List.length_append, List.length_append, List.length_replicate, hll, List.length_singleton]; omega
  have hZv : val (List.replicate (n / 64) 0 ++ words (val xs) ++ [0]) = 18446744073709551616 ^ (n / 64) * val xs := by
    rw [val_up, val_append, val_words]
    simp [val]
  rw [hsp]
  generalize hZ : List.replicate (n / 64) 0 ++ words (val xs) ++ [0] = Z at *
  rw [decide_eq_true (show (0 : Int) ≤ (l : Int) + ((n / 64 : Nat) : Int) + 1 ∧ (l : Int) + ((n / 64 : Nat) : Int) + 1 ≤ (l : Int) + ((n / 64 : Nat) : Int) + 1 ∧ (l : Int) + ((n / 64 : Nat) : Int) + 1 ≤ 17592186044416 by omega), cond_true,
    decide_eq_true (show (0 : Int) ≤ ((n / 64 : Nat) : Int) ∧ ((n / 64 : Nat) : Int) ≤ ((l + n / 64 + 1 : Nat) : Int) by omega), cond_true, decide_eq_true (show 0 + l ≤ xs.length by omega), cond_true,
    decide_eq_true (show IntKind.u64 = IntKind.u64 ∧ n / 64 + (l + n / 64 + 1 - n / 64) ≤ l + n / 64 + 1 ∧ some 0 ≠ some 1 from ⟨rfl, by omega, by decide⟩), cond_true]
  have hpow : val xs * 2 ^ n = val Z * 2 ^ (n % 64) := by
    rw [hZv, two_pow_split n]
    simp only [Nat.mul_assoc, Nat.mul_comm]
  by_cases h0 : n % 64 = 0
  · rw [decide_eq_false (show ¬ ((n % 64 : Nat) : Int) > 0 by omega), cond_false, endT_eq hZR hZl, hpow, h0, Nat.pow_zero, Nat.mul_one]
  · rw [decide_eq_true (show ((n % 64 : Nat) : Int) > 0 by omega), cond_true, i64_wrap (by omega) (by omega), decide_eq_true (show (0 : Int) ≤ (n : Int) ∧ (1 : Int) ≤ ((n % 64 : Nat) : Int) ∧ ((n % 64 : Nat) : Int) ≤ 63 ∧ ((l + n / 64 + 1 : Nat) : Int) - 1 + 1 = ((l + n / 64 + 1 : Nat) : Int) ∧ n / 64 < l + n / 64 + 1 by omega), cond_true,
      decide_eq_true (show (0 : Int) ≤ ((n / 64 : Nat) : Int) ∧ ((n / 64 : Nat) : Int) < ((l + n / 64 + 1 : Nat) : Int) by omega), cond_true, decide_eq_true (show n / 64 < l + n / 64 + 1 by omega), cond_true, decide_eq_false (show ¬ ((n % 64 : Nat) : Int) < 0 by omega), cond_false, cond_true,
      decide_eq_true (show n / 64 < l + n / 64 + 1 ∧ IntKind.u64 = IntKind.u64 ∧ (Ty.i .u64).size = 1 from ⟨by omega, rfl, rfl⟩), cond_true, hi_get (Nat.le_refl _) (by omega), hi_set (by omega)]
    have ew : shlI .u64 (Z.getD (n / 64) 0) ((n % 64 : Nat) : Int) = ((val Z * 2 ^ (n % 64) / 18446744073709551616 ^ (n / 64) % 18446744073709551616 : Nat) : Int) := by
      rw [getD_val hZR, shl_nat, Nat.min_eq_left (by omega), hZv, Nat.mul_div_cancel_left _ (pow_pos64 _), Nat.mul_assoc, Nat.mul_div_cancel_left _ (pow_pos64 _), Nat.mul_mod, Nat.mod_mod, ← Nat.mul_mod]
    have el : Z.take (n / 64) = (wordsN (l + n / 64 + 1) (val Z * 2 ^ (n % 64))).take (n / 64) := by
      refine val_inj (inR_take hZR _) (inR_take (inR_wordsN _ _) _) (by rw [List.length_take, List.length_take, length_wordsN, hZl]) ?_
      rw [val_take hZR, val_take (inR_wordsN _ _), val_wordsN, Nat.mod_mod_of_dvd _ (Nat.pow_dvd_pow _ (by omega)), hZv, Nat.mul_mod_right, Nat.mul_assoc, Nat.mul_mod_right]
    rw [ew, ← wordsN_cons (by omega), el, List.take_append_drop, endT_eq (inR_wordsN _ _) (length_wordsN _ _), val_wordsN, Nat.mod_eq_of_lt, hpow]
    rw [hZv, ← hll, length_words]
    have h1 := lt_wlen (val xs)
    have h2 : 2 ^ (n % 64) ≤ 18446744073709551616 := Nat.le_trans (two_pow_le (by omega)) (by decide)
    rw [Nat.pow_succ, Nat.pow_add, Nat.mul_comm (18446744073709551616 ^ wlen (val xs))]
    refine Nat.lt_of_lt_of_le (Nat.mul_lt_mul_of_pos_right (Nat.mul_lt_mul_of_pos_left h1 (pow_pos64 _)) (Nat.two_pow_pos _)) (Nat.mul_le_mul_left _ h2)
/-! ### Shr -/
def nShrC : FnC := fun ds κ => match ds with
  | [.w .u64 xs, .p (.int .i64 n)] => cond (decide (xs.length ≤ 549755813888)) (κ [(.new, .w .u64 (words (val xs / 2 ^ n.toNat))), (.mine, .p (.bool (decide (val xs % 2 ^ n.toNat ≠ 0))))]) none
  | _ => none
def nShrL : LpC := lpC 91 [0, 6, 7, 8, 9, 53, 54] fun vs m κ => match vs, m with
  | [.o (.s 0 0 l1), .o (.p (.int .i64 w)), .o (.p (.int .i64 s)), .o (.p (.bool g)), .o (.f 1), .o (.p (.int .i64 n)), .o (.p (.int .i64 i))], [(o, .w .u64 n1 xs), (.mine, .w .u64 n2 out)] =>
    cond (decide (0 ≤ w ∧ 1 ≤ s ∧ s ≤ 63 ∧ i = 0 ∧ n = (n2 : Int) ∧ l1 ≤ n1 ∧ w + (n2 : Int) = (l1 : Int) ∧ out = (xs.take l1).drop w.toNat))
      (κ (.exit 0) (lay 91 [8, 9] [.o (.p (.bool g)), .o (.f 0)]) [(.mine, .w .u64 n2 (wordsN n2 (val out / 2 ^ s.toNat)))]) none
  | _, _ => none
def nShrSt (l1 : Nat) (w s : Int) (g : Bool) (n i : Int) : List V := lay 91 [0, 6, 7, 8, 9, 53, 54] [.o (.s 0 0 l1), .o (.p (.int .i64 w)), .o (.p (.int .i64 s)), .o (.p (.bool g)), .o (.f 1), .o (.p (.int .i64 n)), .o (.p (.int .i64 i))]
theorem lo_set {A O : List Int} {i : Nat} (hA : A.length = i) (hi : i < O.length) (v : Int) : (A ++ O.drop i).set i v = (A ++ [v]) ++ O.drop (i + 1) := by
  rw [List.set_append_right _ _ (by omega), hA, Nat.sub_self, List.drop_eq_getElem_cons hi, List.append_assoc]
  rfl
theorem lo_get {A O : List Int} {i : Nat} (hA : A.length = i) : (A ++ O.drop i).getD i 0 = O.getD i 0 := by
  rw [List.getD_eq_getElem?_getD, List.getElem?_append_right (by omega), hA, Nat.sub_self, List.getElem?_drop, Nat.add_zero, ← List.getD_eq_getElem?_getD]
theorem lo_last {A O : List Int} {i : Nat} (hA : A.length = i) (v : Int) : ((A ++ [v]) ++ O.drop (i + 1)).getD i 0 = v := by
  rw [List.getD_eq_getElem?_getD, List.getElem?_append_left (by simp; omega), List.getElem?_append_right (by omega), hA, Nat.sub_self]
  rfl
theorem lo_set2 {A O : List Int} {i : Nat} (hA : A.length = i) (u v : Int) : ((A ++ [u]) ++ O.drop (i + 1)).set i v = (A ++ [v]) ++ O.drop (i + 1) := by
  rw [List.append_assoc, List.set_append_right _ _ (by omega), hA, Nat.sub_self, List.append_assoc]
  rfl
def nShrT (l : Nat) (xs : List Int) (w s : Int) (g : Bool) : R :=
  let O := List.take (l - w.toNat) (List.drop (0 + w.toNat) xs)
  cond (decide (0 ≤ w ∧ w ≤ (l : Int))) (cond (decide (0 + w.toNat + (l - w.toNat) ≤ xs.length)) (cond (decide (O.length ≤ 1099511627776))
    (cond (decide (s > 0)) (cond (decide (0 ≤ w ∧ 1 ≤ s ∧ s ≤ 63 ∧ (0 : Int) = 0 ∧ (O.length : Int) = (O.length : Int) ∧ l ≤ xs.length ∧ w + (O.length : Int) = (l : Int) ∧ O = List.drop w.toNat (List.take l xs)))
        (endT O.length (wordsN O.length (val O / 2 ^ s.toNat)) [(.mine, .p (.bool g))]) none) (endT O.length O [(.mine, .p (.bool g))])) none) none) none
theorem nShrT_eq {xs : List Int} (hx : inR .u64 xs) {w s : Nat} (hw : w < wlen (val xs)) (hs : s < 64) (hb : xs.length ≤ 549755813888) (g : Bool) :
    nShrT (wlen (val xs)) xs w s g = some [(.new, .w .u64 (words (val xs / 18446744073709551616 ^ w / 2 ^ s))), (.mine, .p (.bool g))] := by
  have w1 := wlen_val hx
  have hz := take_words hx
  have hO : List.take (wlen (val xs) - w) (List.drop w xs) = List.drop w (words (val xs)) := by rw [← hz, List.drop_take]
  have hOR : inR .u64 (List.drop w (words (val xs))) := inR_drop (inR_words _) w
  have hOl : (List.drop w (words (val xs))).length = wlen (val xs) - w := by rw [List.length_drop, length_words]
  have hOv : val (List.drop w (words (val xs))) = val xs / 18446744073709551616 ^ w := by rw [val_drop (inR_words _), val_words]
  unfold nShrT
  dsimp only
  rw [Int.toNat_natCast, Int.toNat_natCast, Nat.zero_add, hO, hz, decide_eq_true (by omega), cond_true, decide_eq_true (by omega), cond_true, decide_eq_true (by omega), cond_true]
  by_cases h0 : s = 0
  · rw [decide_eq_false (show ¬ (s : Int) > 0 by omega), cond_false, endT_eq hOR rfl, hOv, h0, Nat.pow_zero, Nat.div_one]
  · rw [decide_eq_true (show (s : Int) > 0 by omega), cond_true, decide_eq_true ⟨by omega, by omega, by omega, rfl, rfl, w1, by omega, rfl⟩, cond_true, endT_eq (inR_wordsN _ _) (length_wordsN _ _), val_wordsN, hOv, Nat.mod_eq_of_lt]
    refine Nat.lt_of_le_of_lt (Nat.div_le_self _ _) ?_
    have := val_lt hOR
    rwa [hOv] at this
/-! ### shift -/
def shiftC : FnC := fun ds κ => match ds with
  | [.w .u64 xs, .p (.int .i64 s)] => cond (decide (xs.length ≤ 549755813888 ∧ 0 ≤ s ∧ s < 64)) (κ [(.new, .w .u64 (words (val xs * 2 ^ s.toNat))), (.mine, .p (.bool true))]) none
  | _ => none
def shiftL : LpC := lpC 44 [1, 6, 13, 14, 15] fun vs m κ => match vs, m with
  | [.o (.p (.int .i64 s)), .o (.f 0), .o (.f 1), .o (.p (.int .i64 n)), .o (.p (.int .i64 i))], [(.mine, .w .u64 n2 out), (o, .w .u64 n1 xs)] =>
    cond (decide (0 ≤ s ∧ s < 64 ∧ i = 0 ∧ n = (n1 : Int) ∧ n2 = n1 + 1 ∧ val out = 0)) (κ (.exit 0) (lay 44 [6] [.o (.f 0)]) [(.mine, .w .u64 n2 (wordsN n2 (val xs * 2 ^ s.toNat)))]) none
  | _, _ => none
def shiftSt (s n i : Int) : List V := lay 44 [1, 6, 13, 14, 15] [.o (.p (.int .i64 s)), .o (.f 0), .o (.f 1), .o (.p (.int .i64 n)), .o (.p (.int .i64 i))]
end
end Go.Proofs.Ythilpmchdeolnaa.Vm
