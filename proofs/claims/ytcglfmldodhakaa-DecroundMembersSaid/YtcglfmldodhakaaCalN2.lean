/-
  Package nat: shifts. No statement is proved here.
-/
import Derived.Test.YtcglfmldodhakaaCalN1
namespace Go.Proofs.Ytcglfmldodhakaa.Vm
open Go Go.Vm
noncomputable section
set_option linter.unusedVariables false

/-! ### Shl -/
def nShlC : FnC := fun ds κ => match ds with
  | [.w .u64 xs, .p (.int .i64 n)] => cond (decide (xs.length ≤ 549755813888)) (cond (decide (n < 0)) (κ [(.new, .w .u64 []), (.mine, .p (.int .i64 1))])
      (cond (decide (n.toNat / 64 > 2000 ∨ wlen (val xs) + (n.toNat + 63) / 64 > 2000)) (κ [(.new, .w .u64 []), (.mine, .p (.int .i64 4))]) (κ [(.new, .w .u64 (words (val xs * 2 ^ n.toNat))), (.mine, .p (.int .i64 0))]))) none
  | _ => none
def nShlL : LpC := lpC 85 [1, 6, 7, 8] fun vs m κ => match vs, m with
  | [.o (.p (.int .i64 n)), .o (.f 0), .o (.p (.int .i64 s)), .o (.p (.int .i64 i))], [(.mine, .w .u64 n1 xs)] =>
    cond (decide (0 ≤ n ∧ 1 ≤ s ∧ s ≤ 63 ∧ i + 1 = (n1 : Int) ∧ n.toNat / 64 < n1)) (κ (.exit 1) (lay 85 [1, 6, 7] [.o (.p (.int .i64 n)), .o (.f 0), .o (.p (.int .i64 s))]) [(.mine, .w .u64 n1 (xs.take (n.toNat / 64 + 1) ++ (wordsN n1 (val xs * 2 ^ s.toNat)).drop (n.toNat / 64 + 1)))]) none
  | _, _ => none
def nShlE : Env := mkE ty [(59, nSizeC)] [(1, nShlL)] [(1, [1, 6, 7, 8])] [(1, [1, 6, 7])] 0 (fun _ => false)
def nShlSt (n s i : Int) : List V := lay 85 [1, 6, 7, 8] [.o (.p (.int .i64 n)), .o (.f 0), .o (.p (.int .i64 s)), .o (.p (.int .i64 i))]
theorem nShl_round (n s i : Int) (n1 : Nat) (xs : List Int) (f : Nat) (κ : X → List V → Mem → R) : lx nShlE Try.f65 1 (f + 1) (nShlSt n s i) [(.mine, .w .u64 n1 xs)] κ =
    (cond (decide (i > IntKind.i64.wrap (n.tdiv (64 : Int))))
     (cond (decide ((0 : Int) ≤ i ∧ i < (↑n1 : Int)))
      (cond (decide (i.toNat < n1))
       (cond (decide (s < (0 : Int)))
        none
        (cond (decide ((0 : Int) ≤ IntKind.i64.wrap (i - (1 : Int)) ∧ IntKind.i64.wrap (i - (1 : Int)) < (↑n1 : Int)))
         (cond (decide ((IntKind.i64.wrap (i - (1 : Int))).toNat < n1))
          (cond (decide (IntKind.i64.wrap ((64 : Int) - s) < (0 : Int)))
           none
           (cond (decide ((0 : Int) ≤ i ∧ i < (↑n1 : Int)))
            (cond (decide (i.toNat < n1 ∧ IntKind.u64 = IntKind.u64 ∧ 1 = 1))
             (lx nShlE Try.f65 1 f (lay 85 [1, 6, 7, 8] [.o (.p (.int .i64 (n))), .o (.f 0), .o (.p (.int .i64 (s))), .o (.p (.int .i64 (IntKind.i64.wrap (i - (1 : Int)))))]) [(.mine, .w .u64 (n1) (xs.set i.toNat
      (bits BinOp.or IntKind.u64 (shlI IntKind.u64 (xs.getD i.toNat (0 : Int)) s)
        (shrI IntKind.u64 (xs.getD (IntKind.i64.wrap (i - (1 : Int))).toNat (0 : Int)) (IntKind.i64.wrap ((64 : Int) - s))))))] κ)
             none)
            none))
          none)
         none))
       none)
      none)
     (κ (.exit 1) (lay 85 [1, 6, 7] [.o (.p (.int .i64 (n))), .o (.f 0), .o (.p (.int .i64 (s)))]) [(.mine, .w .u64 (n1) (xs))])) := by kernel_rfl
/-- What is handed back of a block of one's own, beside another result. -/
def endT (N : Nat) (Z : List Int) (more : List (Own × D)) : R :=
  cond (decide (0 ≤ ((wlen (val Z) : Nat) : Int) ∧ ((wlen (val Z) : Nat) : Int) ≤ (N : Int))) (cond (decide (0 + (((wlen (val Z) : Nat) : Int).toNat - 0) ≤ N)) (some ((.new, .w .u64 (cut Z)) :: more)) none) none
theorem endT_eq {N : Nat} {Z : List Int} (h : inR .u64 Z) (hl : Z.length = N) (more : List (Own × D)) : endT N Z more = some ((.new, .w .u64 (words (val Z))) :: more) := by
  subst hl
  unfold endT
  rw [cut_bds h, cond_true, cut_fit h, cond_true, cut_eq h]
def nShlT (l : Nat) (xs : List Int) (n : Int) : R :=
  let w := IntKind.i64.wrap (n.tdiv 64)
  let L := IntKind.i64.wrap (IntKind.i64.wrap ((l : Int) + w) + 1)
  let N := L.toNat
  let Z := splice (List.replicate N 0) w.toNat (List.take (N - w.toNat) (List.take l (List.drop 0 xs)))
  let s := n.tmod 64
  let Y := Z.take (n.toNat / 64 + 1) ++ (wordsN N (val Z * 2 ^ s.toNat)).drop (n.toNat / 64 + 1)
  cond (decide (0 ≤ L ∧ L ≤ L ∧ L ≤ 17592186044416)) (cond (decide (0 ≤ w ∧ w ≤ (N : Int))) (cond (decide (0 + l ≤ xs.length)) (cond (decide (IntKind.u64 = IntKind.u64 ∧ w.toNat + (N - w.toNat) ≤ N ∧ some 0 ≠ some 1))
    (cond (decide (s > 0)) (cond (decide (0 ≤ n ∧ 1 ≤ s ∧ s ≤ 63 ∧ IntKind.i64.wrap ((N : Int) - 1) + 1 = (N : Int) ∧ n.toNat / 64 < N))
        (cond (decide (0 ≤ w ∧ w < (N : Int))) (cond (decide (w.toNat < N)) (cond (decide (s < 0)) none (cond (decide (0 ≤ w ∧ w < (N : Int))) (cond (decide (w.toNat < N ∧ IntKind.u64 = IntKind.u64 ∧ (Ty.i .u64).size = 1))
          (endT N (Y.set w.toNat (shlI .u64 (Y.getD w.toNat 0) s)) [(.mine, .p (.int .i64 0))]) none) none)) none) none) none)
      (endT N Z [(.mine, .p (.int .i64 0))])) none) none) none) none
theorem nShl_ev (xs : List Int) (n : Int) : evFn nShlE Try.f65 [.w .u64 xs, .p (.int .i64 n)] =
    cond (decide (0 ≤ ((wlen (val xs) : Nat) : Int) ∧ ((wlen (val xs) : Nat) : Int) ≤ (xs.length : Int)))
      (cond (decide (n < 0)) (some [(.new, .w .u64 []), (.mine, .p (.int .i64 1))])
        (cond (decide (IntKind.i64.wrap (n.tdiv 64) > 2000)) (some [(.new, .w .u64 []), (.mine, .p (.int .i64 4))])
          (cond (decide (IntKind.i64.wrap (((((wlen (val xs) : Nat) : Int).toNat - 0 : Nat) : Int) + IntKind.i64.wrap ((IntKind.i64.wrap (n + 63)).tdiv 64)) > 2000)) (some [(.new, .w .u64 []), (.mine, .p (.int .i64 4))])
            (nShlT (((wlen (val xs) : Nat) : Int).toNat - 0) xs n)))) none := by kernel_rfl

theorem hi_set {L B : List Int} {i : Nat} (h : i < L.length) (v : Int) : (L.take (i + 1) ++ B).set i v = L.take i ++ v :: B := by
  have e : L.take (i + 1) = L.take i ++ [L.getD i 0] := by
    rw [List.take_add_one, List.getElem?_eq_getElem h]
    simp [List.getD_eq_getElem?_getD, h]
  rw [e, List.append_assoc, List.set_append_right _ _ (by rw [List.length_take]; omega), List.length_take, Nat.min_eq_left (by omega), Nat.sub_self]
  rfl
theorem hi_get {L B : List Int} {i j : Nat} (h : i ≤ j) (hj : j < L.length) : (L.take (j + 1) ++ B).getD i 0 = L.getD i 0 := by
  rw [List.getD_eq_getElem?_getD, List.getElem?_append_left (by rw [List.length_take]; omega), List.getElem?_take, if_pos (by omega), ← List.getD_eq_getElem?_getD]
theorem wordsN_cons {K N k : Nat} (hk : k < K) : (wordsN K N).drop k = ((N / 18446744073709551616 ^ k % 18446744073709551616 : Nat) : Int) :: (wordsN K N).drop (k + 1) := by
  have hl := length_wordsN K N
  rw [List.drop_eq_getElem_cons (by omega)]
  congr 1
  have h1 := getD_val (inR_wordsN K N) k
  rw [List.getD_eq_getElem?_getD, List.getElem?_eq_getElem (by omega)] at h1
  simp only [Option.getD_some] at h1
  rw [h1, val_wordsN, word_mod hk]
theorem nShl_loop (L : List Int) (hL : inR .u64 L) (n s : Nat) (hn : n < 9223372036854775808) (hs : 1 ≤ s ∧ s ≤ 63) (n1 : Nat) (hl : L.length = n1) (hb : n1 ≤ 140737488355328) (κ : X → List V → Mem → R) : ∀ (k : Nat), n / 64 + k < n1 →
    lx nShlE Try.f65 1 (k + 1) (nShlSt n s ((n / 64 + k : Nat) : Int)) [(.mine, .w .u64 n1 (L.take (n / 64 + k + 1) ++ (wordsN n1 (val L * 2 ^ s)).drop (n / 64 + k + 1)))] κ =
      κ (.exit 1) (lay 85 [1, 6, 7] [.o (.p (.int .i64 n)), .o (.f 0), .o (.p (.int .i64 s))]) [(.mine, .w .u64 n1 (L.take (n / 64 + 1) ++ (wordsN n1 (val L * 2 ^ s)).drop (n / 64 + 1)))] := by
  intro k
  induction k with
  | zero =>
    intro _
    rw [nShl_round, tdiv64, i64_wrap (by omega) (by omega), decide_eq_false (by omega), cond_false]
  | succ k ih =>
    intro hk
    rw [nShl_round, tdiv64, i64_wrap (x := ((n / 64 : Nat) : Int)) (by omega) (by omega), Int.toNat_natCast]
    have e1 : ((n / 64 + (k + 1) : Nat) : Int) - 1 = ((n / 64 + k : Nat) : Int) := by omega
    rw [e1, i64_wrap (x := ((n / 64 + k : Nat) : Int)) (by omega) (by omega), i64_wrap (x := (64 : Int) - (s : Int)) (by omega) (by omega), Int.toNat_natCast, show (64 : Int) - (s : Int) = ((64 - s : Nat) : Int) by omega]
    rw [decide_eq_true (show ((n / 64 + (k + 1) : Nat) : Int) > ((n / 64 : Nat) : Int) by omega), cond_true, decide_eq_true (show (0 : Int) ≤ ((n / 64 + (k + 1) : Nat) : Int) ∧ ((n / 64 + (k + 1) : Nat) : Int) < (n1 : Int) by omega), cond_true, cond_true, decide_eq_true (show n / 64 + (k + 1) < n1 by omega), cond_true,
      decide_eq_false (show ¬ (s : Int) < 0 by omega), cond_false, decide_eq_true (show (0 : Int) ≤ ((n / 64 + k : Nat) : Int) ∧ ((n / 64 + k : Nat) : Int) < (n1 : Int) by omega), cond_true, decide_eq_true (show n / 64 + k < n1 by omega), cond_true, decide_eq_false (show ¬ ((64 - s : Nat) : Int) < 0 by omega), cond_false,
      decide_eq_true (show n / 64 + (k + 1) < n1 ∧ IntKind.u64 = IntKind.u64 ∧ 1 = 1 from ⟨by omega, rfl, rfl⟩), cond_true]
    rw [hi_get (Nat.le_refl _) (by omega), hi_get (by omega) (by omega), hi_set (by omega)]
    have hw := (shl_word hL 0 s (n / 64 + (k + 1)) (by omega) (Nat.zero_le _)).2 (by omega) (by omega)
    rw [Nat.sub_zero, show n / 64 + (k + 1) - 1 = n / 64 + k by omega, Nat.mul_zero, Nat.zero_add] at hw
    rw [hw, ← wordsN_cons (by omega)]
    exact ih (by omega)
theorem nShlL_ok : LoopOK nShlE 1 (lbody Try.f65 1) nShlL := loopOK_lx fun vs m κ r hv hm h => by
  split at h
  case h_2 => cases h
  rename_i n s i n1 xs
  replace h := cond_none h
  obtain ⟨hc, h⟩ := h
  obtain ⟨h1, h2, h3, h4, h5⟩ := of_decide_eq_true hc
  have hx := hm 0 _ _ rfl
  have hn := i64_iff.1 (hv (.o (.p (.int .i64 n))) (by simp))
  have h47 : lim = 140737488355328 := by decide
  obtain ⟨n, rfl⟩ := Int.eq_ofNat_of_zero_le h1
  obtain ⟨s, rfl⟩ := Int.eq_ofNat_of_zero_le (show 0 ≤ s by omega)
  rw [Int.toNat_natCast] at h5
  have key := nShl_loop xs hx.2.2 n s (by omega) (by omega) n1 hx.1 (by have := hx.2.1; omega) κ (n1 - 1 - n / 64) (by omega)
  rw [show n / 64 + (n1 - 1 - n / 64) = n1 - 1 by omega, show n1 - 1 + 1 = n1 by omega, show ((n1 - 1 : Nat) : Int) = i by omega, List.take_of_length_le (by have := hx.1; omega), List.drop_eq_nil_of_le (by rw [length_wordsN]; omega), List.append_nil] at key
  rw [Int.toNat_natCast, Int.toNat_natCast] at h
  exact ⟨_, key.trans h⟩
theorem val_up (w : Nat) (xs ys : List Int) : val (List.replicate w 0 ++ xs ++ ys) = 18446744073709551616 ^ w * val (xs ++ ys) := by
  rw [List.append_assoc, val_append, val_zeros, Nat.zero_add, List.length_replicate]
theorem nShlT_eq {xs : List Int} (hx : inR .u64 xs) {l n : Nat} (hl : l ≤ xs.length) (hn : n / 64 ≤ 2000) (hb : l ≤ 2000) (hz : xs.take l = words (val xs)) :
    nShlT l xs n = some [(.new, .w .u64 (words (val xs * 2 ^ n))), (.mine, .p (.int .i64 0))] := by
  have hll : (words (val xs)).length = l := by rw [← hz, List.length_take]; omega
  unfold nShlT
  dsimp only
  rw [tdiv64, tmod64, i64_wrap (x := ((n / 64 : Nat) : Int)) (by omega) (by omega), i64_wrap (x := (l : Int) + ((n / 64 : Nat) : Int)) (by omega) (by omega), i64_wrap (x := (l : Int) + ((n / 64 : Nat) : Int) + 1) (by omega) (by omega), Int.toNat_natCast, Int.toNat_natCast, Int.toNat_natCast, List.drop_zero, hz,
    show ((l : Int) + ((n / 64 : Nat) : Int) + 1).toNat = l + n / 64 + 1 by omega, show List.take (l + n / 64 + 1 - n / 64) (words (val xs)) = words (val xs) from List.take_of_length_le (by omega)]
  have hsp : splice (List.replicate (l + n / 64 + 1) (0 : Int)) (n / 64) (words (val xs)) = List.replicate (n / 64) 0 ++ words (val xs) ++ [0] := by
    unfold splice
    rw [List.take_replicate, List.drop_replicate, hll, show min (n / 64) (l + n / 64 + 1) = n / 64 by omega, show l + n / 64 + 1 - (n / 64 + l) = 1 by omega]
    rfl
  have hZR : inR .u64 (List.replicate (n / 64) 0 ++ words (val xs) ++ [0]) := inR_append (inR_append (inR_rep _) (inR_words _)) (inR_rep 1)
  have hZl : (List.replicate (n / 64) 0 ++ words (val xs) ++ [0]).length = l + n / 64 + 1 := by
    rw [List.length_append, List.length_append, List.length_replicate, hll, List.length_singleton]; omega
  have hZv : val (List.replicate (n / 64) 0 ++ words (val xs) ++ [0]) = 18446744073709551616 ^ (n / 64) * val xs := by
    rw [val_up, val_append, val_words]
    simp [val]
  rw [hsp]
  generalize hZ : List.replicate (n / 64) 0 ++ words (val xs) ++ [0] = Z at *
  rw [decide_eq_true (show (0 : Int) ≤ (l : Int) + ((n / 64 : Nat) : Int) + 1 ∧ (l : Int) + ((n / 64 : Nat) : Int) + 1 ≤ (l : Int) + ((n / 64 : Nat) : Int) + 1 ∧ (l : Int) + ((n / 64 : Nat) : Int) + 1 ≤ 17592186044416 by omega), cond_true,
    decide_eq_true (show (0 : Int) ≤ ((n / 64 : Nat) : Int) ∧ ((n / 64 : Nat) : Int) ≤ ((l + n / 64 + 1 : Nat) : Int) by omega), cond_true, decide_eq_true (show 0 + l ≤ xs.length by omega), cond_true,
    decide_eq_true (show IntKind.u64 = IntKind.u64 ∧ n / 64 + (l + n / 64 + 1 - n / 64) ≤ l + n / 64 + 1 ∧ some 0 ≠ some 1 from ⟨rfl, by omega, by decide⟩), cond_true]
  have hpow : val xs * 2 ^ n = val Z * 2 ^ (n % 64) := by
    rw [hZv, two_pow_split n]
    simp only [Nat.mul_assoc, Nat.mul_comm]
  by_cases h0 : n % 64 = 0
  · rw [decide_eq_false (show ¬ ((n % 64 : Nat) : Int) > 0 by omega), cond_false, endT_eq hZR hZl, hpow, h0, Nat.pow_zero, Nat.mul_one]
  · rw [decide_eq_true (show ((n % 64 : Nat) : Int) > 0 by omega), cond_true, i64_wrap (by omega) (by omega), decide_eq_true (show (0 : Int) ≤ (n : Int) ∧ (1 : Int) ≤ ((n % 64 : Nat) : Int) ∧ ((n % 64 : Nat) : Int) ≤ 63 ∧ ((l + n / 64 + 1 : Nat) : Int) - 1 + 1 = ((l + n / 64 + 1 : Nat) : Int) ∧ n / 64 < l + n / 64 + 1 by omega), cond_true,
      decide_eq_true (show (0 : Int) ≤ ((n / 64 : Nat) : Int) ∧ ((n / 64 : Nat) : Int) < ((l + n / 64 + 1 : Nat) : Int) by omega), cond_true, decide_eq_true (show n / 64 < l + n / 64 + 1 by omega), cond_true, decide_eq_false (show ¬ ((n % 64 : Nat) : Int) < 0 by omega), cond_false, cond_true,
      decide_eq_true (show n / 64 < l + n / 64 + 1 ∧ IntKind.u64 = IntKind.u64 ∧ (Ty.i .u64).size = 1 from ⟨by omega, rfl, rfl⟩), cond_true, hi_get (Nat.le_refl _) (by omega), hi_set (by omega)]
    have ew : shlI .u64 (Z.getD (n / 64) 0) ((n % 64 : Nat) : Int) = ((val Z * 2 ^ (n % 64) / 18446744073709551616 ^ (n / 64) % 18446744073709551616 : Nat) : Int) := by
      rw [getD_val hZR, shl_nat, Nat.min_eq_left (by omega), hZv, Nat.mul_div_cancel_left _ (pow_pos64 _), Nat.mul_assoc, Nat.mul_div_cancel_left _ (pow_pos64 _), Nat.mul_mod, Nat.mod_mod, ← Nat.mul_mod]
    have el : Z.take (n / 64) = (wordsN (l + n / 64 + 1) (val Z * 2 ^ (n % 64))).take (n / 64) := by
      refine val_inj (inR_take hZR _) (inR_take (inR_wordsN _ _) _) (by rw [List.length_take, List.length_take, length_wordsN, hZl]) ?_
      rw [val_take hZR, val_take (inR_wordsN _ _), val_wordsN, Nat.mod_mod_of_dvd _ (Nat.pow_dvd_pow _ (by omega)), hZv, Nat.mul_mod_right, Nat.mul_assoc, Nat.mul_mod_right]
    rw [ew, ← wordsN_cons (by omega), el, List.take_append_drop, endT_eq (inR_wordsN _ _) (length_wordsN _ _), val_wordsN, Nat.mod_eq_of_lt, hpow]
    rw [hZv, ← hll, length_words]
    have h1 := lt_wlen (val xs)
    have h2 : 2 ^ (n % 64) ≤ 18446744073709551616 := Nat.le_trans (two_pow_le (by omega)) (by decide)
    rw [Nat.pow_succ, Nat.pow_add, Nat.mul_comm (18446744073709551616 ^ wlen (val xs))]
    refine Nat.lt_of_lt_of_le (Nat.mul_lt_mul_of_pos_right (Nat.mul_lt_mul_of_pos_left h1 (pow_pos64 _)) (Nat.two_pow_pos _)) (Nat.mul_le_mul_left _ h2)
theorem nShl_he : ∀ ds κ r, (∀ d ∈ ds, d.wf) → nShlC ds κ = some r → ∃ res, κ res = some r ∧ evFn nShlE Try.f65 ds = some res := fun ds κ r hw h => by
  unfold nShlC at h
  split at h
  case h_2 => cases h
  rename_i xs n
  replace h := cond_none h
  obtain ⟨hc, h⟩ := h
  have hc := of_decide_eq_true hc
  obtain ⟨_, hx⟩ := wfW hw (xs := xs) (by simp)
  have hn := wfI hw (x := n) (by simp)
  have w1 := wlen_val hx
  rw [nShl_ev, cut_bds hx, cond_true]
  by_cases h0 : n < 0
  · rw [decide_eq_true h0, cond_true] at h ⊢
    exact ⟨_, h, rfl⟩
  · rw [decide_eq_false h0, cond_false] at h ⊢
    obtain ⟨n, rfl⟩ := Int.eq_ofNat_of_zero_le (show 0 ≤ n by omega)
    rw [Int.toNat_natCast] at h
    rw [Int.toNat_natCast, Nat.sub_zero, tdiv64, i64_wrap (x := ((n / 64 : Nat) : Int)) (by omega) (by omega)]
    by_cases h1 : n / 64 > 2000
    · rw [decide_eq_true (show ((n / 64 : Nat) : Int) > 2000 by omega), cond_true]
      rw [decide_eq_true (Or.inl h1), cond_true] at h
      exact ⟨_, h, rfl⟩
    · rw [decide_eq_false (show ¬ ((n / 64 : Nat) : Int) > 2000 by omega), cond_false, i64_wrap (x := (n : Int) + 63) (by omega) (by omega), show ((n : Int) + 63).tdiv 64 = (((n + 63) / 64 : Nat) : Int) from rfl, i64_wrap (x := (((n + 63) / 64 : Nat) : Int)) (by omega) (by omega), i64_wrap (by omega) (by omega)]
      by_cases h2 : wlen (val xs) + (n + 63) / 64 > 2000
      · rw [decide_eq_true (show ((wlen (val xs) : Nat) : Int) + (((n + 63) / 64 : Nat) : Int) > 2000 by omega), cond_true]
        rw [decide_eq_true (Or.inr h2), cond_true] at h
        exact ⟨_, h, rfl⟩
      · rw [decide_eq_false (show ¬ ((wlen (val xs) : Nat) : Int) + (((n + 63) / 64 : Nat) : Int) > 2000 by omega), cond_false]
        rw [decide_eq_false (fun e => e.elim h1 h2), cond_false] at h
        exact ⟨_, h, nShlT_eq hx w1 (by omega) (by omega) (take_words hx)⟩
theorem nShl_fn : FnOK Try.prog 65 nShlC := fnOK_mk T mixed Try.func65 (by kernel_rfl) (fns := [(59, nSizeC)]) (lps := [(1, nShlL)]) (live := [(1, [1, 6, 7, 8])]) (out := [(1, [1, 6, 7])]) (fuel := 0) (give := (fun _ => false)) ⟨nSize_fn, trivial⟩ ⟨nShlL_ok, trivial⟩ nShl_he

/-! ### Shr -/
def nShrC : FnC := fun ds κ => match ds with
  | [.w .u64 xs, .p (.int .i64 n)] => cond (decide (xs.length ≤ 549755813888)) (κ [(.new, .w .u64 (words (val xs / 2 ^ n.toNat))), (.mine, .p (.bool (decide (val xs % 2 ^ n.toNat ≠ 0))))]) none
  | _ => none
def nShrL : LpC := lpC 91 [0, 6, 7, 8, 9, 53, 54] fun vs m κ => match vs, m with
  | [.o (.s 0 0 l1), .o (.p (.int .i64 w)), .o (.p (.int .i64 s)), .o (.p (.bool g)), .o (.f 1), .o (.p (.int .i64 n)), .o (.p (.int .i64 i))], [(o, .w .u64 n1 xs), (.mine, .w .u64 n2 out)] =>
    cond (decide (0 ≤ w ∧ 1 ≤ s ∧ s ≤ 63 ∧ i = 0 ∧ n = (n2 : Int) ∧ l1 ≤ n1 ∧ w + (n2 : Int) = (l1 : Int) ∧ out = (xs.take l1).drop w.toNat))
      (κ (.exit 0) (lay 91 [8, 9] [.o (.p (.bool g)), .o (.f 0)]) [(.mine, .w .u64 n2 (wordsN n2 (val out / 2 ^ s.toNat)))]) none
  | _, _ => none
def nShrE : Env := mkE ty [(59, nSizeC), (29, nTrimC), (58, cloneC)] [(0, nShrL)] [(0, [0, 6, 7, 8, 9, 53, 54])] [(0, [8, 9])] 0 (fun _ => false)
def nShrSt (l1 : Nat) (w s : Int) (g : Bool) (n i : Int) : List V := lay 91 [0, 6, 7, 8, 9, 53, 54] [.o (.s 0 0 l1), .o (.p (.int .i64 w)), .o (.p (.int .i64 s)), .o (.p (.bool g)), .o (.f 1), .o (.p (.int .i64 n)), .o (.p (.int .i64 i))]
theorem nShr_round (l1 : Nat) (w s : Int) (g : Bool) (n i : Int) (o : Own) (n1 n2 : Nat) (xs out : List Int) (f : Nat) (κ : X → List V → Mem → R) : lx nShrE Try.f91 0 (f + 1) (nShrSt l1 w s g n i) [(o, .w .u64 n1 xs), (.mine, .w .u64 n2 out)] κ =
    (cond (decide (i < n))
     (cond (decide ((0 : Int) ≤ i ∧ i < (↑n2 : Int)))
      (cond (decide (i.toNat < n2))
       (cond (decide (s < (0 : Int)))
        none
        (cond (decide ((0 : Int) ≤ i ∧ i < (↑n2 : Int)))
         (cond (decide (i.toNat < n2 ∧ IntKind.u64 = IntKind.u64 ∧ 1 = 1))
          (cond (decide (IntKind.i64.wrap (i + (1 : Int)) < (↑n2 : Int)))
           (cond (decide ((0 : Int) ≤ i ∧ i < (↑n2 : Int)))
            (cond (decide (i.toNat < n2))
             (cond (decide
      ((0 : Int) ≤ IntKind.i64.wrap (IntKind.i64.wrap (w + i) + (1 : Int)) ∧
        IntKind.i64.wrap (IntKind.i64.wrap (w + i) + (1 : Int)) < (↑l1 : Int)))
              (cond (decide (0 + (IntKind.i64.wrap (IntKind.i64.wrap (w + i) + (1 : Int))).toNat * 1 < n1))
               (cond (decide (IntKind.i64.wrap ((64 : Int) - s) < (0 : Int)))
                none
                (cond (decide ((0 : Int) ≤ i ∧ i < (↑n2 : Int)))
                 (cond (decide (i.toNat < n2 ∧ IntKind.u64 = IntKind.u64 ∧ 1 = 1))
                  (lx nShrE Try.f91 0 f (lay 91 [0, 6, 7, 8, 9, 53, 54] [.o (.s 0 (0) (l1)), .o (.p (.int .i64 (w))), .o (.p (.int .i64 (s))), .o (.p (.bool (g))), .o (.f 1), .o (.p (.int .i64 (n))), .o (.p (.int .i64 (IntKind.i64.wrap (i + (1 : Int)))))]) [(o, .w .u64 (n1) (xs)), (.mine, .w .u64 (n2) ((out.set i.toNat (shrI IntKind.u64 (out.getD i.toNat (0 : Int)) s)).set i.toNat
      (bits BinOp.or IntKind.u64
        ((out.set i.toNat (shrI IntKind.u64 (out.getD i.toNat (0 : Int)) s)).getD i.toNat (0 : Int))
        (shlI IntKind.u64
          (xs.getD (0 + (IntKind.i64.wrap (IntKind.i64.wrap (w + i) + (1 : Int))).toNat * 1) (0 : Int))
          (IntKind.i64.wrap ((64 : Int) - s))))))] κ)
                  none)
                 none))
               none)
              none)
             none)
            none)
           (lx nShrE Try.f91 0 f (lay 91 [0, 6, 7, 8, 9, 53, 54] [.o (.s 0 (0) (l1)), .o (.p (.int .i64 (w))), .o (.p (.int .i64 (s))), .o (.p (.bool (g))), .o (.f 1), .o (.p (.int .i64 (n))), .o (.p (.int .i64 (IntKind.i64.wrap (i + (1 : Int)))))]) [(o, .w .u64 (n1) (xs)), (.mine, .w .u64 (n2) (out.set i.toNat (shrI IntKind.u64 (out.getD i.toNat (0 : Int)) s)))] κ))
          none)
         none))
       none)
      none)
     (κ (.exit 0) (lay 91 [8, 9] [.o (.p (.bool (g))), .o (.f 0)]) [(.mine, .w .u64 (n2) (out))])) := by kernel_rfl
theorem lo_set {A O : List Int} {i : Nat} (hA : A.length = i) (hi : i < O.length) (v : Int) : (A ++ O.drop i).set i v = (A ++ [v]) ++ O.drop (i + 1) := by
  rw [List.set_append_right _ _ (by omega), hA, Nat.sub_self, List.drop_eq_getElem_cons hi, List.append_assoc]
  rfl
theorem lo_get {A O : List Int} {i : Nat} (hA : A.length = i) : (A ++ O.drop i).getD i 0 = O.getD i 0 := by
  rw [List.getD_eq_getElem?_getD, List.getElem?_append_right (by omega), hA, Nat.sub_self, List.getElem?_drop, Nat.add_zero, ← List.getD_eq_getElem?_getD]
theorem lo_last {A O : List Int} {i : Nat} (hA : A.length = i) (v : Int) : ((A ++ [v]) ++ O.drop (i + 1)).getD i 0 = v := by
  rw [List.getD_eq_getElem?_getD, List.getElem?_append_left (by simp; omega), List.getElem?_append_right (by omega), hA, Nat.sub_self]
  rfl
theorem lo_set2 {A O : List Int} {i : Nat} (hA : A.length = i) (u v : Int) : ((A ++ [u]) ++ O.drop (i + 1)).set i v = (A ++ [v]) ++ O.drop (i + 1) := by
  rw [List.append_assoc, List.set_append_right _ _ (by omega), hA, Nat.sub_self, List.append_assoc]
  rfl
theorem nShr_loop (xs O : List Int) (hO : inR .u64 O) (o : Own) (l1 n1 n2 w s : Nat) (g : Bool) (hs : 1 ≤ s ∧ s ≤ 63) (hl1 : l1 ≤ n1) (hw : w + n2 = l1) (hb : l1 ≤ 140737488355328) (hOl : O.length = n2) (hOx : O = (xs.take l1).drop w) (κ : X → List V → Mem → R) :
    ∀ (k i : Nat), i + k = n2 →
    lx nShrE Try.f91 0 (k + 1) (nShrSt l1 w s g n2 i) [(o, .w .u64 n1 xs), (.mine, .w .u64 n2 (wordsN i (val O / 2 ^ s) ++ O.drop i))] κ =
      κ (.exit 0) (lay 91 [8, 9] [.o (.p (.bool g)), .o (.f 0)]) [(.mine, .w .u64 n2 (wordsN n2 (val O / 2 ^ s)))] := by
  intro k
  induction k with
  | zero =>
    intro i hi
    obtain rfl : i = n2 := by omega
    rw [nShr_round, decide_eq_false (by omega), cond_false, List.drop_eq_nil_of_le (by omega), List.append_nil]
  | succ k ih =>
    intro i hi
    have hA := length_wordsN i (val O / 2 ^ s)
    have hg : ∀ j, j < n2 → xs.getD (w + j) 0 = O.getD j 0 := fun j hj => by
      rw [hOx, at_take (xs := xs) (show w + j < l1 by omega), List.getD_eq_getElem?_getD, List.getD_eq_getElem?_getD, List.getElem?_drop]
    rw [nShr_round, Int.toNat_natCast, i64_wrap (x := (i : Int) + 1) (by omega) (by omega), i64_wrap (x := (w : Int) + (i : Int)) (by omega) (by omega), i64_wrap (x := (w : Int) + (i : Int) + 1) (by omega) (by omega), i64_wrap (x := (64 : Int) - (s : Int)) (by omega) (by omega),
      show (64 : Int) - (s : Int) = ((64 - s : Nat) : Int) by omega, show (w : Int) + (i : Int) + 1 = ((w + (i + 1) : Nat) : Int) by omega, Int.toNat_natCast, Nat.zero_add, Nat.mul_one]
    rw [lo_get hA, lo_set hA (by omega), lo_last hA, lo_set2 hA]
    rw [decide_eq_true (show (i : Int) < (n2 : Int) by omega), cond_true, decide_eq_true (show (0 : Int) ≤ (i : Int) ∧ (i : Int) < (n2 : Int) by omega), cond_true, cond_true, cond_true, cond_true, decide_eq_true (show i < n2 by omega), cond_true, cond_true, decide_eq_false (show ¬ (s : Int) < 0 by omega), cond_false,
      decide_eq_true (show i < n2 ∧ IntKind.u64 = IntKind.u64 ∧ 1 = 1 from ⟨by omega, rfl, rfl⟩), cond_true, cond_true]
    have hw2 := (shr_word hO 0 s i (by omega)).2 (by omega)
    rw [Nat.mul_zero, Nat.zero_add, Nat.add_zero] at hw2
    have next := ih (i + 1) (by omega)
    rw [wordsN_succ] at next
    have e2 : ((i + 1 : Nat) : Int) = (i : Int) + 1 := by omega
    rw [e2] at next
    by_cases h1 : i + 1 < n2
    · rw [decide_eq_true (show (i : Int) + 1 < (n2 : Int) by omega), cond_true, decide_eq_true (show (0 : Int) ≤ ((w + (i + 1) : Nat) : Int) ∧ ((w + (i + 1) : Nat) : Int) < (l1 : Int) by omega), cond_true, decide_eq_true (show w + (i + 1) < n1 by omega), cond_true, decide_eq_false (show ¬ ((64 - s : Nat) : Int) < 0 by omega), cond_false,
        hg (i + 1) h1, hw2]
      exact next
    · have hO1 : O.getD (i + 1) 0 = 0 := by rw [List.getD_eq_getElem?_getD, List.getElem?_eq_none (by omega)]; rfl
      rw [hO1, or_zero_shift (shr_range hO i s)] at hw2
      rw [decide_eq_false (show ¬ (i : Int) + 1 < (n2 : Int) by omega), cond_false, hw2]
      exact next
theorem nShrL_ok : LoopOK nShrE 0 (lbody Try.f91 0) nShrL := loopOK_lx fun vs m κ r hv hm h => by
  split at h
  case h_2 => cases h
  rename_i l1 w s g n i o n1 xs n2 out
  replace h := cond_none h
  obtain ⟨hc, h⟩ := h
  obtain ⟨h1, h2, h3, rfl, rfl, h6, h7, h8⟩ := of_decide_eq_true hc
  have hx := hm 0 _ _ rfl
  have hy := hm 1 _ _ rfl
  have h47 : lim = 140737488355328 := by decide
  obtain ⟨w, rfl⟩ := Int.eq_ofNat_of_zero_le h1
  obtain ⟨s, rfl⟩ := Int.eq_ofNat_of_zero_le (show 0 ≤ s by omega)
  rw [Int.toNat_natCast] at h8 h
  have key := nShr_loop xs out hy.2.2 o l1 n1 n2 w s g (by omega) h6 (by omega) (by have := hx.2.1; omega) hy.1 h8 κ n2 0 (by omega)
  exact ⟨_, key.trans h⟩
def nShrT (l : Nat) (xs : List Int) (w s : Int) (g : Bool) : R :=
  let O := List.take (l - w.toNat) (List.drop (0 + w.toNat) xs)
  cond (decide (0 ≤ w ∧ w ≤ (l : Int))) (cond (decide (0 + w.toNat + (l - w.toNat) ≤ xs.length)) (cond (decide (O.length ≤ 1099511627776))
    (cond (decide (s > 0)) (cond (decide (0 ≤ w ∧ 1 ≤ s ∧ s ≤ 63 ∧ (0 : Int) = 0 ∧ (O.length : Int) = (O.length : Int) ∧ l ≤ xs.length ∧ w + (O.length : Int) = (l : Int) ∧ O = List.drop w.toNat (List.take l xs)))
        (endT O.length (wordsN O.length (val O / 2 ^ s.toNat)) [(.mine, .p (.bool g))]) none) (endT O.length O [(.mine, .p (.bool g))])) none) none) none
theorem nShr_ev (xs : List Int) (n : Int) : evFn nShrE Try.f91 [.w .u64 xs, .p (.int .i64 n)] =
    let l := ((wlen (val xs) : Nat) : Int).toNat - 0
    let w := IntKind.i64.wrap (n.tdiv 64)
    cond (decide (0 ≤ ((wlen (val xs) : Nat) : Int) ∧ ((wlen (val xs) : Nat) : Int) ≤ (xs.length : Int)))
      (cond (decide (n < 1)) (cond (decide (0 + l ≤ xs.length)) (cond (decide ((cut xs).length ≤ 1099511627776)) (some [(.new, .w .u64 (words (val (cut xs)))), (.mine, .p (.bool false))]) none) none)
        (cond (decide (w ≥ (l : Int))) (some [(.new, .w .u64 []), (.mine, .p (.bool (decide ((l : Int) > 0))))])
          (cond (decide (0 ≤ w ∧ w < (l : Int))) (cond (decide (0 + w.toNat * 1 < xs.length)) (cond (decide (n.tmod 64 < 0)) none
            (cond (Go.bits .and .u64 (xs.getD (0 + w.toNat * 1) 0) (IntKind.u64.wrap (shlI .u64 1 (n.tmod 64) - 1)) != 0) (nShrT l xs w (n.tmod 64) true)
              (cond (decide (0 ≤ w ∧ w ≤ (l : Int))) (cond (decide (0 + (w.toNat - 0) ≤ xs.length)) (nShrT l xs w (n.tmod 64) (decide (((wlen (val (List.take (w.toNat - 0) (List.drop 0 xs))) : Nat) : Int) > 0))) none) none))) none) none))) none := by kernel_rfl
theorem nShrT_eq {xs : List Int} (hx : inR .u64 xs) {w s : Nat} (hw : w < wlen (val xs)) (hs : s < 64) (hb : xs.length ≤ 549755813888) (g : Bool) :
    nShrT (wlen (val xs)) xs w s g = some [(.new, .w .u64 (words (val xs / 18446744073709551616 ^ w / 2 ^ s))), (.mine, .p (.bool g))] := by
  have w1 := wlen_val hx
  have hz := take_words hx
  have hO : List.take (wlen (val xs) - w) (List.drop w xs) = List.drop w (words (val xs)) := by rw [← hz, List.drop_take]
  have hOR : inR .u64 (List.drop w (words (val xs))) := inR_drop (inR_words _) w
  have hOl : (List.drop w (words (val xs))).length = wlen (val xs) - w := by rw [List.length_drop, length_words]
  have hOv : val (List.drop w (words (val xs))) = val xs / 18446744073709551616 ^ w := by rw [val_drop (inR_words _), val_words]
  unfold nShrT
  dsimp only
  rw [Int.toNat_natCast, Int.toNat_natCast, Nat.zero_add, hO, hz, decide_eq_true (by omega), cond_true, decide_eq_true (by omega), cond_true, decide_eq_true (by omega), cond_true]
  by_cases h0 : s = 0
  · rw [decide_eq_false (show ¬ (s : Int) > 0 by omega), cond_false, endT_eq hOR rfl, hOv, h0, Nat.pow_zero, Nat.div_one]
  · rw [decide_eq_true (show (s : Int) > 0 by omega), cond_true, decide_eq_true ⟨by omega, by omega, by omega, rfl, rfl, w1, by omega, rfl⟩, cond_true, endT_eq (inR_wordsN _ _) (length_wordsN _ _), val_wordsN, hOv, Nat.mod_eq_of_lt]
    refine Nat.lt_of_le_of_lt (Nat.div_le_self _ _) ?_
    have := val_lt hOR
    rwa [hOv] at this
theorem nShr_he : ∀ ds κ r, (∀ d ∈ ds, d.wf) → nShrC ds κ = some r → ∃ res, κ res = some r ∧ evFn nShrE Try.f91 ds = some res := fun ds κ r hw h => by
  unfold nShrC at h
  split at h
  case h_2 => cases h
  rename_i xs n
  replace h := cond_none h
  obtain ⟨hc, h⟩ := h
  have hc := of_decide_eq_true hc
  obtain ⟨_, hx⟩ := wfW hw (xs := xs) (by simp)
  have hn := wfI hw (x := n) (by simp)
  have w1 := wlen_val hx
  refine ⟨_, h, (nShr_ev xs n).trans ?_⟩
  dsimp only
  rw [cut_bds hx, cond_true, Int.toNat_natCast, Nat.sub_zero]
  by_cases h0 : n < 1
  · rw [decide_eq_true h0, cond_true, decide_eq_true (show 0 + wlen (val xs) ≤ xs.length by omega), cond_true, cut_eq hx, length_words, decide_eq_true (show wlen (val xs) ≤ 1099511627776 by omega), cond_true, val_words, show n.toNat = 0 by omega, Nat.pow_zero, Nat.div_one, Nat.mod_one]
    rfl
  · rw [decide_eq_false h0, cond_false]
    obtain ⟨n, rfl⟩ := Int.eq_ofNat_of_zero_le (show 0 ≤ n by omega)
    rw [tdiv64, tmod64, i64_wrap (x := ((n / 64 : Nat) : Int)) (by omega) (by omega), Int.toNat_natCast, Int.toNat_natCast]
    have hsp := two_pow_split n
    by_cases h1 : n / 64 ≥ wlen (val xs)
    · have hlt : val xs < 2 ^ n := by
        refine Nat.lt_of_lt_of_le (lt_wlen (val xs)) (Nat.le_trans (Nat.pow_le_pow_right (by decide) h1) ?_)
        rw [hsp]
        exact Nat.le_mul_of_pos_right _ (Nat.two_pow_pos _)
      rw [decide_eq_true (show ((n / 64 : Nat) : Int) ≥ ((wlen (val xs) : Nat) : Int) by omega), cond_true, Nat.div_eq_of_lt hlt, Nat.mod_eq_of_lt hlt]
      have e : decide (((wlen (val xs) : Nat) : Int) > 0) = decide (val xs ≠ 0) := decide_eq_decide.2 (by
        constructor
        · intro h2 h3; rw [h3, wlen_zero] at h2; omega
        · intro h2
          have : wlen (val xs) ≠ 0 := fun e => h2 (wlen_eq_zero.1 e)
          omega)
      rw [e]
      rfl
    · have hgone : (val xs / 18446744073709551616 ^ (n / 64) % 18446744073709551616 % 2 ^ (n % 64) ≠ 0 ∨ val xs % 18446744073709551616 ^ (n / 64) ≠ 0) ↔ val xs % 2 ^ n ≠ 0 := by
        have e1 : val xs / 18446744073709551616 ^ (n / 64) % 18446744073709551616 % 2 ^ (n % 64) = val xs / 18446744073709551616 ^ (n / 64) % 2 ^ (n % 64) := by
          have : 18446744073709551616 = 2 ^ (n % 64) * 2 ^ (64 - n % 64) := pow64_split (by omega)
          rw [this, Nat.mod_mul_right_mod]
        rw [e1, hsp, Nat.mod_mul]
        have hp := pow_pos64 (n / 64)
        generalize val xs % 18446744073709551616 ^ (n / 64) = a
        generalize val xs / 18446744073709551616 ^ (n / 64) % 2 ^ (n % 64) = b
        generalize 18446744073709551616 ^ (n / 64) = P at *
        rcases Nat.eq_zero_or_pos b with hb | hb
        · subst hb; simp
        · have : 0 < P * b := Nat.mul_pos hp hb
          omega
      have ht : ∀ g : Bool, g = decide (val xs % 2 ^ n ≠ 0) → nShrT (wlen (val xs)) xs ((n / 64 : Nat) : Int) ((n % 64 : Nat) : Int) g = some [(.new, .w .u64 (words (val xs / 2 ^ n))), (.mine, .p (.bool (decide (val xs % 2 ^ n ≠ 0))))] := fun g hg => by
        rw [nShrT_eq hx (by omega) (by omega) hc, hsp, ← Nat.div_div_eq_div_mul, ← hsp, hg]
      have em : Go.bits .and .u64 (xs.getD (n / 64) 0) (IntKind.u64.wrap (shlI .u64 1 ((n % 64 : Nat) : Int) - 1)) = ((val xs / 18446744073709551616 ^ (n / 64) % 18446744073709551616 % 2 ^ (n % 64) : Nat) : Int) := by
        rw [getD_val hx]
        exact and_mask (Nat.mod_lt _ (by decide)) (by omega)
      rw [decide_eq_false (show ¬ ((n / 64 : Nat) : Int) ≥ ((wlen (val xs) : Nat) : Int) by omega), cond_false, decide_eq_true (show (0 : Int) ≤ ((n / 64 : Nat) : Int) ∧ ((n / 64 : Nat) : Int) < ((wlen (val xs) : Nat) : Int) by omega), cond_true, Nat.zero_add, Nat.mul_one, decide_eq_true (show n / 64 < xs.length by omega), cond_true,
        decide_eq_false (show ¬ ((n % 64 : Nat) : Int) < 0 by omega), cond_false, em]
      by_cases h2 : val xs / 18446744073709551616 ^ (n / 64) % 18446744073709551616 % 2 ^ (n % 64) = 0
      · rw [h2, show (((0 : Nat) : Int) != 0) = false from rfl, cond_false, decide_eq_true (show (0 : Int) ≤ ((n / 64 : Nat) : Int) ∧ ((n / 64 : Nat) : Int) ≤ ((wlen (val xs) : Nat) : Int) by omega), cond_true, decide_eq_true (show 0 + (n / 64 - 0) ≤ xs.length by omega), cond_true]
        refine ht _ ?_
        rw [Nat.sub_zero, List.drop_zero, val_take hx]
        refine decide_eq_decide.2 ⟨fun h3 => hgone.1 (.inr fun e => ?_), fun h3 => ?_⟩
        · rw [e, wlen_zero] at h3; omega
        · rcases hgone.2 h3 with h4 | h4
          · exact absurd h2 h4
          · have : wlen (val xs % 18446744073709551616 ^ (n / 64)) ≠ 0 := fun e => h4 (wlen_eq_zero.1 e)
            omega
      · rw [bne_iff_ne.2 (by omega), cond_true]
        exact ht _ (decide_eq_true (hgone.1 (.inl h2))).symm
theorem nShr_fn : FnOK Try.prog 91 nShrC := fnOK_mk T mixed Try.func91 (by kernel_rfl) (fns := [(59, nSizeC), (29, nTrimC), (58, cloneC)]) (lps := [(0, nShrL)]) (live := [(0, [0, 6, 7, 8, 9, 53, 54])]) (out := [(0, [8, 9])]) (fuel := 0) (give := (fun _ => false)) ⟨nSize_fn, nTrim_fn, clone_fn, trivial⟩ ⟨nShrL_ok, trivial⟩ nShr_he

/-! ### shift -/
def shiftC : FnC := fun ds κ => match ds with
  | [.w .u64 xs, .p (.int .i64 s)] => cond (decide (xs.length ≤ 549755813888 ∧ 0 ≤ s ∧ s < 64)) (κ [(.new, .w .u64 (words (val xs * 2 ^ s.toNat))), (.mine, .p (.bool true))]) none
  | _ => none
def shiftL : LpC := lpC 44 [1, 6, 13, 14, 15] fun vs m κ => match vs, m with
  | [.o (.p (.int .i64 s)), .o (.f 0), .o (.f 1), .o (.p (.int .i64 n)), .o (.p (.int .i64 i))], [(.mine, .w .u64 n2 out), (o, .w .u64 n1 xs)] =>
    cond (decide (0 ≤ s ∧ s < 64 ∧ i = 0 ∧ n = (n1 : Int) ∧ n2 = n1 + 1 ∧ val out = 0)) (κ (.exit 0) (lay 44 [6] [.o (.f 0)]) [(.mine, .w .u64 n2 (wordsN n2 (val xs * 2 ^ s.toNat)))]) none
  | _, _ => none
def shiftE : Env := mkE ty [(59, nSizeC)] [(0, shiftL)] [(0, [1, 6, 13, 14, 15])] [(0, [6])] 0 (fun _ => false)
def shiftSt (s n i : Int) : List V := lay 44 [1, 6, 13, 14, 15] [.o (.p (.int .i64 s)), .o (.f 0), .o (.f 1), .o (.p (.int .i64 n)), .o (.p (.int .i64 i))]
theorem shift_round (s n i : Int) (o : Own) (n1 n2 : Nat) (xs out : List Int) (f : Nat) (κ : X → List V → Mem → R) : lx shiftE Try.f89 0 (f + 1) (shiftSt s n i) [(.mine, .w .u64 n2 out), (o, .w .u64 n1 xs)] κ =
    (cond (decide (i < n))
     (cond (decide ((0 : Int) ≤ i ∧ i < (↑n1 : Int)))
      (cond (decide (i.toNat < n1))
       (cond (decide ((0 : Int) ≤ i ∧ i < (↑n2 : Int)))
        (cond (decide (i.toNat < n2))
         (cond (decide (s < (0 : Int)))
          none
          (cond (decide ((0 : Int) ≤ i ∧ i < (↑n2 : Int)))
           (cond (decide (i.toNat < n2 ∧ IntKind.u64 = IntKind.u64 ∧ 1 = 1))
            (cond (decide (s > (0 : Int)))
             (cond (decide (IntKind.i64.wrap ((64 : Int) - s) < (0 : Int)))
              none
              (cond (decide ((0 : Int) ≤ IntKind.i64.wrap (i + (1 : Int)) ∧ IntKind.i64.wrap (i + (1 : Int)) < (↑n2 : Int)))
               (cond (decide ((IntKind.i64.wrap (i + (1 : Int))).toNat < n2 ∧ IntKind.u64 = IntKind.u64 ∧ 1 = 1))
                (lx shiftE Try.f89 0 f (lay 44 [1, 6, 13, 14, 15] [.o (.p (.int .i64 (s))), .o (.f 0), .o (.f 1), .o (.p (.int .i64 (n))), .o (.p (.int .i64 (IntKind.i64.wrap (i + (1 : Int)))))]) [(.mine, .w .u64 (n2) ((out.set i.toNat
          (bits BinOp.or IntKind.u64 (out.getD i.toNat (0 : Int)) (shlI IntKind.u64 (xs.getD i.toNat (0 : Int)) s))).set
      (IntKind.i64.wrap (i + (1 : Int))).toNat
      (shrI IntKind.u64 (xs.getD i.toNat (0 : Int)) (IntKind.i64.wrap ((64 : Int) - s))))), (o, .w .u64 (n1) (xs))] κ)
                none)
               none))
             (lx shiftE Try.f89 0 f (lay 44 [1, 6, 13, 14, 15] [.o (.p (.int .i64 (s))), .o (.f 0), .o (.f 1), .o (.p (.int .i64 (n))), .o (.p (.int .i64 (IntKind.i64.wrap (i + (1 : Int)))))]) [(.mine, .w .u64 (n2) (out.set i.toNat
      (bits BinOp.or IntKind.u64 (out.getD i.toNat (0 : Int)) (shlI IntKind.u64 (xs.getD i.toNat (0 : Int)) s)))), (o, .w .u64 (n1) (xs))] κ))
            none)
           none))
         none)
        none)
       none)
      none)
     (κ (.exit 0) (lay 44 [6] [.o (.f 0)]) [(.mine, .w .u64 (n2) (out))])) := by kernel_rfl
theorem shift_loop (xs : List Int) (hx : inR .u64 xs) (o : Own) (s n1 n2 : Nat) (hs : s < 64) (h2 : n2 = n1 + 1) (hl : xs.length = n1) (hb : n1 ≤ 140737488355328) (κ : X → List V → Mem → R) :
    ∀ (j i : Nat), i + j = n1 →
    lx shiftE Try.f89 0 (j + 1) (shiftSt s n1 i) [(.mine, .w .u64 n2 (wordsN n2 (val (xs.take i) * 2 ^ s))), (o, .w .u64 n1 xs)] κ =
      κ (.exit 0) (lay 44 [6] [.o (.f 0)]) [(.mine, .w .u64 n2 (wordsN n2 (val xs * 2 ^ s)))] := by
  intro j
  induction j with
  | zero =>
    intro i hi
    rw [shift_round, decide_eq_false (by omega), cond_false, List.take_of_length_le (by omega)]
  | succ j ih =>
    intro i hi
    have ax := inR_at hx i
    have hvx : val (xs.take (i + 1)) = val (xs.take i) + 18446744073709551616 ^ i * (xs.getD i 0).toNat := val_take_succ (by omega)
    obtain ⟨x, hX⟩ := Int.eq_ofNat_of_zero_le ax.1
    rw [hX, Int.toNat_natCast] at hvx
    have hA : val (xs.take i) * 2 ^ s < 18446744073709551616 ^ i * 2 ^ s := by
      have h1 := val_lt (inR_take hx i)
      rw [List.length_take, Nat.min_eq_left (by omega)] at h1
      exact Nat.mul_lt_mul_of_pos_right h1 (Nat.two_pow_pos _)
    obtain ⟨w0, w1⟩ := left_words (n2 := n2) (x := x) hs hA (by omega) (by omega)
    have en : val (xs.take i) * 2 ^ s + 18446744073709551616 ^ i * (x * 2 ^ s) = val (xs.take (i + 1)) * 2 ^ s := by
      rw [hvx, Nat.add_mul, Nat.mul_assoc]
    rw [en] at w0 w1
    rw [shift_round, Int.toNat_natCast, i64_wrap (x := (i : Int) + 1) (by omega) (by omega), i64_wrap (x := (64 : Int) - (s : Int)) (by omega) (by omega), show (64 : Int) - (s : Int) = ((64 - s : Nat) : Int) by omega, hX, show ((i : Int) + 1).toNat = i + 1 by omega]
    rw [decide_eq_true (show (i : Int) < (n1 : Int) by omega), cond_true, decide_eq_true (show (0 : Int) ≤ (i : Int) ∧ (i : Int) < (n1 : Int) by omega), cond_true, decide_eq_true (show i < n1 by omega), cond_true, decide_eq_true (show (0 : Int) ≤ (i : Int) ∧ (i : Int) < (n2 : Int) by omega), cond_true, cond_true, decide_eq_true (show i < n2 by omega), cond_true,
      decide_eq_false (show ¬ (s : Int) < 0 by omega), cond_false, decide_eq_true (show i < n2 ∧ IntKind.u64 = IntKind.u64 ∧ 1 = 1 from ⟨by omega, rfl, rfl⟩), cond_true]
    have next := ih (i + 1) (by omega)
    rw [show ((i + 1 : Nat) : Int) = (i : Int) + 1 by omega] at next
    by_cases hr : s = 0
    · rw [w0 hr, decide_eq_false (show ¬ (s : Int) > 0 by omega), cond_false]
      exact next
    · rw [w1, decide_eq_true (show (s : Int) > 0 by omega), cond_true, decide_eq_false (show ¬ ((64 - s : Nat) : Int) < 0 by omega), cond_false, decide_eq_true (show (0 : Int) ≤ (i : Int) + 1 ∧ (i : Int) + 1 < (n2 : Int) by omega), cond_true, decide_eq_true (show i + 1 < n2 ∧ IntKind.u64 = IntKind.u64 ∧ 1 = 1 from ⟨by omega, rfl, rfl⟩), cond_true]
      exact next
theorem shiftL_ok : LoopOK shiftE 0 (lbody Try.f89 0) shiftL := loopOK_lx fun vs m κ r hv hm h => by
  split at h
  case h_2 => cases h
  rename_i s n i n2 out o n1 xs
  replace h := cond_none h
  obtain ⟨hc, h⟩ := h
  obtain ⟨h1, h2, rfl, rfl, h5, h6⟩ := of_decide_eq_true hc
  have hz := hm 0 _ _ rfl
  have hx := hm 1 _ _ rfl
  have h47 : lim = 140737488355328 := by decide
  obtain ⟨s, rfl⟩ := Int.eq_ofNat_of_zero_le h1
  rw [Int.toNat_natCast] at h
  have key := shift_loop xs hx.2.2 o s n1 n2 (by omega) h5 hx.1 (by have := hx.2.1; omega) κ n1 0 (by omega)
  have e : wordsN n2 (val (xs.take 0) * 2 ^ s) = out := by
    refine (wordsN_eq hz.2.2 hz.1 ?_).symm
    rw [h6]
    simp [val]
  rw [e] at key
  exact ⟨_, key.trans h⟩
theorem shift_ev (xs : List Int) (n : Int) : evFn shiftE Try.f89 [.w .u64 xs, .p (.int .i64 n)] =
    let L := IntKind.i64.wrap ((xs.length : Int) + 1)
    cond (decide (0 ≤ L ∧ L ≤ L ∧ L ≤ 17592186044416)) (cond (decide (0 ≤ n ∧ n < 64 ∧ (0 : Int) = 0 ∧ (xs.length : Int) = (xs.length : Int) ∧ L.toNat = xs.length + 1 ∧ val (List.replicate L.toNat 0) = 0))
      (endT L.toNat (wordsN L.toNat (val xs * 2 ^ n.toNat)) [(.mine, .p (.bool true))]) none) none := by kernel_rfl
theorem shift_he : ∀ ds κ r, (∀ d ∈ ds, d.wf) → shiftC ds κ = some r → ∃ res, κ res = some r ∧ evFn shiftE Try.f89 ds = some res := fun ds κ r hw h => by
  unfold shiftC at h
  split at h
  case h_2 => cases h
  rename_i xs n
  replace h := cond_none h
  obtain ⟨hc, h⟩ := h
  obtain ⟨h1, h2, h3⟩ := of_decide_eq_true hc
  obtain ⟨_, hx⟩ := wfW hw (xs := xs) (by simp)
  refine ⟨_, h, (shift_ev xs n).trans ?_⟩
  obtain ⟨n, rfl⟩ := Int.eq_ofNat_of_zero_le h2
  dsimp only
  rw [i64_wrap (by omega) (by omega), show ((xs.length : Int) + 1).toNat = xs.length + 1 by omega, val_zeros, Int.toNat_natCast, decide_eq_true (by omega), cond_true, decide_eq_true ⟨h2, h3, rfl, rfl, rfl, rfl⟩, cond_true, endT_eq (inR_wordsN _ _) (length_wordsN _ _), val_wordsN, Nat.mod_eq_of_lt]
  rw [Nat.pow_succ]
  have h4 : 2 ^ n ≤ 18446744073709551616 := Nat.le_trans (two_pow_le (by omega)) (by decide)
  exact Nat.lt_of_lt_of_le (Nat.mul_lt_mul_of_pos_right (val_lt hx) (Nat.two_pow_pos _)) (Nat.mul_le_mul_left _ h4)
theorem shift_fn : FnOK Try.prog 89 shiftC := fnOK_mk T mixed Try.func89 (by kernel_rfl) (fns := [(59, nSizeC)]) (lps := [(0, shiftL)]) (live := [(0, [1, 6, 13, 14, 15])]) (out := [(0, [6])]) (fuel := 0) (give := (fun _ => false)) ⟨nSize_fn, trivial⟩ ⟨shiftL_ok, trivial⟩ shift_he
end
end Go.Proofs.Ytcglfmldodhakaa.Vm
