/-
  Products of natural numbers: a walk. No statement is proved here.
-/
import Derived.Test.YtmjbikbakkbajaaCalF
namespace Go.Proofs.Ytmjbikbakkbajaa.Vm
open Go Go.Vm
noncomputable section

/-! ### Times -/
def timesC : FnC := fun ds κ => match ds with
  | [.w .u64 xs, .w .u64 ys] => cond (decide (xs.length ≤ 274877906944 ∧ ys.length ≤ 274877906944)) (κ [(.mine, .w .u64 (words (val xs * val ys)))]) none
  | _ => none
def rowSum (out ys : List Int) (x : Int) (i n2 : Nat) : Nat := val ((out.drop i).take n2) + x.toNat * val ys
def rowOut (out ys : List Int) (x : Int) (i n2 : Nat) : List Int := out.take i ++ (wordsN n2 (rowSum out ys x i n2) ++ (out.drop i).drop n2)
def timesL2 : LpC := lpC 83 [0, 1, 5, 6, 7, 21, 22, 26, 27] fun vs m κ => match vs, m with
  | [.o (.f 0), .o (.f 1), .o (.f 2), .o (.p (.int .i64 i)), .o (.p (.int .u64 c)), .o (.p (.int .i64 n)), .o (.p (.int .i64 z)), .o (.p (.int .i64 lb)), .o (.p (.int .i64 k))], [(o1, .w .u64 n1 xs), (o2, .w .u64 n2 ys), (.mine, .w .u64 n3 out)] =>
    cond (decide (c = 0 ∧ k = 0 ∧ lb = (n2 : Int) ∧ 0 ≤ i ∧ i < (n1 : Int) ∧ i + (n2 : Int) ≤ (n3 : Int)))
      (κ (.exit 2) (lay 83 [0, 1, 5, 6, 7, 21, 22] [.o (.f 0), .o (.f 1), .o (.f 2), .o (.p (.int .i64 i)), .o (.p (.int .u64 ((rowSum out ys (xs.getD i.toNat 0) i.toNat n2 / 18446744073709551616 ^ n2 : Nat) : Int))), .o (.p (.int .i64 n)), .o (.p (.int .i64 z))])
        [(o1, .w .u64 n1 xs), (o2, .w .u64 n2 ys), (.mine, .w .u64 n3 (rowOut out ys (xs.getD i.toNat 0) i.toNat n2))]) none
  | _, _ => none
def timesL : LpC := lpC 83 [0, 1, 5, 21, 22] fun vs m κ => match vs, m with
  | [.o (.f 0), .o (.f 1), .o (.f 2), .o (.p (.int .i64 n)), .o (.p (.int .i64 z))], [(_, .w .u64 n1 xs), (_, .w .u64 n2 ys), (.mine, .w .u64 n3 out)] =>
    cond (decide (n = (n1 : Int) ∧ z = 0 ∧ n3 = n1 + n2 + 1 ∧ n3 ≤ 1099511627776 ∧ val out = 0)) (κ (.exit 0) (lay 83 [5] [.o (.f 0)]) [(.mine, .w .u64 n3 (wordsN n3 (val xs * val ys)))]) none
  | _, _ => none
def timesE : Env := mkE ty [(81, mul64C), (70, add64C), (97, trimC)] [(0, timesL), (2, timesL2)] [(0, [0, 1, 5, 21, 22]), (2, [0, 1, 5, 6, 7, 21, 22, 26, 27])] [(0, [5]), (2, [0, 1, 5, 6, 7, 21, 22])] 0 (fun _ => false)
def timesSt2 (i c n z lb k : Int) : List V := lay 83 [0, 1, 5, 6, 7, 21, 22, 26, 27] [.o (.f 0), .o (.f 1), .o (.f 2), .o (.p (.int .i64 i)), .o (.p (.int .u64 c)), .o (.p (.int .i64 n)), .o (.p (.int .i64 z)), .o (.p (.int .i64 lb)), .o (.p (.int .i64 k))]
theorem times_round2 (i c n z lb k : Int) (o o' : Own) (n1 n2 n3 : Nat) (xs ys out : List Int) (f : Nat) (κ : X → List V → Mem → R) :
    lx timesE Try.f82 2 (f + 1) (timesSt2 i c n z lb k) [(o, .w .u64 n1 xs), (o', .w .u64 n2 ys), (.mine, .w .u64 n3 out)] κ =
      cond (decide (k < lb)) (cond (decide (0 ≤ i ∧ i < (n1 : Int))) (cond (decide (i.toNat < n1)) (cond (decide (0 ≤ k ∧ k < (n2 : Int))) (cond (decide (k.toNat < n2))
        (cond (decide (0 ≤ IntKind.i64.wrap (i + k) ∧ IntKind.i64.wrap (i + k) < (n3 : Int))) (cond (decide ((IntKind.i64.wrap (i + k)).toNat < n3))
        (cond (decide (0 ≤ IntKind.i64.wrap (i + k) ∧ IntKind.i64.wrap (i + k) < (n3 : Int))) (cond (decide ((IntKind.i64.wrap (i + k)).toNat < n3 ∧ IntKind.u64 = IntKind.u64 ∧ (Ty.i .u64).size = 1))
        (lx timesE Try.f82 2 f (timesSt2 i (mulHi (xs.getD i.toNat 0) (ys.getD k.toNat 0) (out.getD (IntKind.i64.wrap (i + k)).toNat 0) c) n z lb (IntKind.i64.wrap (k + 1)))
          [(o, .w .u64 n1 xs), (o', .w .u64 n2 ys), (.mine, .w .u64 n3 (out.set (IntKind.i64.wrap (i + k)).toNat (mulLo (xs.getD i.toNat 0) (ys.getD k.toNat 0) (out.getD (IntKind.i64.wrap (i + k)).toNat 0) c)))] κ)
        none) none) none) none) none) none) none) none)
      (κ (.exit 2) (lay 83 [0, 1, 5, 6, 7, 21, 22] [.o (.f 0), .o (.f 1), .o (.f 2), .o (.p (.int .i64 i)), .o (.p (.int .u64 c)), .o (.p (.int .i64 n)), .o (.p (.int .i64 z))]) [(o, .w .u64 n1 xs), (o', .w .u64 n2 ys), (.mine, .w .u64 n3 out)]) := by kernel_rfl
theorem drop_set_same (q : List Int) (k : Nat) (v : Int) : (q.set k v).drop (k + 1) = q.drop (k + 1) := by
  rw [List.drop_set]
  rw [if_pos (by omega)]
theorem mul_step {A P c Q X s c' x y o Y : Nat} (h : A + P * c = Q + X * Y) (hx : x = X) (hs : s + 18446744073709551616 * c' = x * y + o + c) : A + P * s + P * 18446744073709551616 * c' = Q + P * o + X * (Y + P * y) := by
  subst hx
  have e : P * (s + 18446744073709551616 * c') = P * (x * y + o + c) := by rw [hs]
  rw [Nat.mul_add, Nat.mul_add, Nat.mul_add, ← Nat.mul_assoc] at e
  rw [Nat.mul_add, Nat.mul_left_comm x P y]
  omega
theorem times_loop2 (xs ys p q0 : List Int) (hx : inR .u64 xs) (hy : inR .u64 ys) (o o' : Own) (n1 n2 : Nat) (n z : Int) (hn1 : n1 ≤ 140737488355328) (hyl : ys.length = n2) (hip : p.length < n1) (hpl : n2 ≤ q0.length) (hlim : p.length + q0.length ≤ 140737488355328) (κ : X → List V → Mem → R) :
    ∀ (j k : Nat) (c : Nat) (q : List Int), k + j = n2 → c < 18446744073709551616 → inR .u64 q → q.length = q0.length → q.drop k = q0.drop k → val (q.take k) + 18446744073709551616 ^ k * c = val (q0.take k) + (xs.getD p.length 0).toNat * val (ys.take k) →
    lx timesE Try.f82 2 (j + 1) (timesSt2 p.length c n z n2 k) [(o, .w .u64 n1 xs), (o', .w .u64 n2 ys), (.mine, .w .u64 (p.length + q0.length) (p ++ q))] κ =
      κ (.exit 2) (lay 83 [0, 1, 5, 6, 7, 21, 22] [.o (.f 0), .o (.f 1), .o (.f 2), .o (.p (.int .i64 p.length)), .o (.p (.int .u64 (((val (q0.take n2) + (xs.getD p.length 0).toNat * val ys) / 18446744073709551616 ^ n2 : Nat) : Int))), .o (.p (.int .i64 n)), .o (.p (.int .i64 z))])
        [(o, .w .u64 n1 xs), (o', .w .u64 n2 ys), (.mine, .w .u64 (p.length + q0.length) (p ++ (wordsN n2 (val (q0.take n2) + (xs.getD p.length 0).toNat * val ys) ++ q0.drop n2)))] := by
  intro j
  induction j with
  | zero =>
    intro k c q hk hc hR hl hd hv
    have hk : k = n2 := by omega
    subst hk
    rw [times_round2, decide_eq_false (by omega), cond_false]
    rw [List.take_of_length_le (l := ys) (by omega)] at hv
    have hlt := val_lt (inR_take hR k)
    rw [List.length_take, Nat.min_eq_left (by omega)] at hlt
    have e1 : (val (q0.take k) + (xs.getD p.length 0).toNat * val ys) / 18446744073709551616 ^ k = c := by
      rw [← hv, Nat.add_mul_div_left _ _ (Nat.pow_pos (by decide)), Nat.div_eq_of_lt hlt, Nat.zero_add]
    have e2 : q.take k = wordsN k (val (q0.take k) + (xs.getD p.length 0).toNat * val ys) := by
      rw [← wordsN_mod]
      refine wordsN_eq (inR_take hR k) (by simp; omega) ?_
      rw [← hv, Nat.add_mul_mod_self_left, Nat.mod_eq_of_lt hlt]
    rw [e1, ← e2, ← hd, List.take_append_drop]
  | succ j ih =>
    intro k c q hk hc hR hl hd hv
    have e1 : ((p.length : Nat) : Int) + (k : Int) = ((p.length + k : Nat) : Int) := rfl
    rw [times_round2, decide_eq_true (by omega), cond_true, decide_eq_true (by omega), cond_true, Int.toNat_natCast, decide_eq_true (by omega), cond_true, decide_eq_true (by omega), cond_true, Int.toNat_natCast, decide_eq_true (by omega), cond_true,
      e1, i64_wrap (x := ((p.length + k : Nat) : Int)) (by omega) (by omega), Int.toNat_natCast, decide_eq_true (by omega), cond_true, decide_eq_true (by omega), cond_true, cond_true, decide_eq_true ⟨by omega, rfl, rfl⟩, cond_true,
      i64_wrap (by omega) (by omega)]
    have eo : (p ++ q).getD (p.length + k) 0 = q.getD k 0 := by
      simp [List.getD_eq_getElem?_getD, List.getElem?_append_right]
    have es : ∀ v, (p ++ q).set (p.length + k) v = p ++ q.set k v := by
      intro v
      rw [List.set_append_right _ _ (by omega), Nat.add_sub_cancel_left]
    rw [eo, es]
    have ax := inR_at hx p.length
    have ay := inR_at hy k
    have ao := inR_at hR k
    have hqk : q0.getD k 0 = q.getD k 0 := by
      have := congrArg (fun l => l.getD 0 0) hd
      simpa [List.getD_eq_getElem?_getD, List.getElem?_drop] using this.symm
    have hvy : val (ys.take (k + 1)) = val (ys.take k) + 18446744073709551616 ^ k * (ys.getD k 0).toNat := val_take_succ (by omega)
    have hvq : val (q0.take (k + 1)) = val (q0.take k) + 18446744073709551616 ^ k * (q.getD k 0).toNat := by rw [← hqk]; exact val_take_succ (by omega)
    obtain ⟨x, hX⟩ := Int.eq_ofNat_of_zero_le ax.1
    obtain ⟨y, hY⟩ := Int.eq_ofNat_of_zero_le ay.1
    obtain ⟨w, hW⟩ := Int.eq_ofNat_of_zero_le ao.1
    obtain ⟨m1, m2, m3⟩ := mul_parts (x := x) (y := y) (o := w) (c := c) (by omega) (by omega) (by omega) hc
    rw [← hX, ← hY, ← hW] at m1 m2
    rw [m1, m2]
    refine ih (k + 1) _ _ (by omega) m3 (inR_set hR k (Int.natCast_nonneg _) (Int.ofNat_lt.2 (Nat.mod_lt _ (by decide)))) (by simpa using hl) ?_ ?_
    · rw [drop_set_same, ← List.drop_drop, hd, List.drop_drop]
    · rw [val_take_set (by omega), hvy, hvq, Nat.pow_succ]
      rw [hX] at hv ⊢
      rw [hY, hW]
      simp only [Int.toNat_natCast] at hv ⊢
      exact mul_step hv rfl (Nat.mod_add_div _ _)
theorem timesL2_ok : LoopOK timesE 2 (lbody Try.f82 2) timesL2 := loopOK_lx fun vs m κ r hv hm h => by
  split at h
  case h_2 => cases h
  rename_i i c n z lb k o n1 xs o' n2 ys n3 out
  replace h := cond_none h
  obtain ⟨hc, h⟩ := h
  obtain ⟨rfl, rfl, rfl, h1, h2, h3⟩ := of_decide_eq_true hc
  have hx := hm 0 _ _ rfl
  have hy := hm 1 _ _ rfl
  have hz := hm 2 _ _ rfl
  have h47 : lim = 140737488355328 := by decide
  obtain ⟨i, rfl⟩ := Int.eq_ofNat_of_zero_le h1
  obtain ⟨hx1, hx2, hx3⟩ := hx
  obtain ⟨hy1, hy2, hy3⟩ := hy
  obtain ⟨hz1, hz2, hz3⟩ := hz
  have hp : (out.take i).length = i := by simp; omega
  have key := times_loop2 xs ys (out.take i) (out.drop i) hx3 hy3 o o' n1 n2 n z (by omega) hy1 (by omega) (by simp; omega) (by simp; omega) κ n2 0 0 (out.drop i) (by omega) (by omega) (inR_drop hz3 i) rfl rfl (by simp [val])
  have hn3 : (out.take i).length + (out.drop i).length = n3 := by simp; omega
  rw [hn3, hp, List.take_append_drop] at key
  refine ⟨_, key.trans ?_⟩
  rw [Int.toNat_natCast] at h
  exact h
def timesSt (n z : Int) : List V := lay 83 [0, 1, 5, 21, 22] [.o (.f 0), .o (.f 1), .o (.f 2), .o (.p (.int .i64 n)), .o (.p (.int .i64 z))]
theorem times_round (n z : Int) (o o' : Own) (n1 n2 n3 : Nat) (xs ys out : List Int) (f : Nat) (κ : X → List V → Mem → R) :
    lx timesE Try.f82 0 (f + 1) (timesSt n z) [(o, .w .u64 n1 xs), (o', .w .u64 n2 ys), (.mine, .w .u64 n3 out)] κ =
      cond (decide (z < n)) (cond (decide ((0 : Int) = 0 ∧ (0 : Int) = 0 ∧ (n2 : Int) = (n2 : Int) ∧ 0 ≤ z ∧ z < (n1 : Int) ∧ z + (n2 : Int) ≤ (n3 : Int)))
        (cond (decide (0 ≤ IntKind.i64.wrap (z + (n2 : Int)) ∧ IntKind.i64.wrap (z + (n2 : Int)) < (n3 : Int))) (cond (decide ((IntKind.i64.wrap (z + (n2 : Int))).toNat < n3 ∧ IntKind.u64 = IntKind.u64 ∧ (Ty.i .u64).size = 1))
        (lx timesE Try.f82 0 f (timesSt n (IntKind.i64.wrap (z + 1)))
          [(o, .w .u64 n1 xs), (o', .w .u64 n2 ys), (.mine, .w .u64 n3 ((rowOut out ys (xs.getD z.toNat 0) z.toNat n2).set (IntKind.i64.wrap (z + (n2 : Int))).toNat ((rowSum out ys (xs.getD z.toNat 0) z.toNat n2 / 18446744073709551616 ^ n2 : Nat) : Int)))] κ)
        none) none) none)
      (κ (.exit 0) (lay 83 [5] [.o (.f 0)]) [(.mine, .w .u64 n3 out)]) := by kernel_rfl
/-- One row more. -/
theorem row_val {out ys : List Int} (ho : inR .u64 out) (hy : inR .u64 ys) {x i n3 : Nat} (hx : x < 18446744073709551616) (hl : out.length = n3) (hi : i + ys.length < n3) (hA : val out < 18446744073709551616 ^ (i + ys.length)) :
    (rowOut out ys (x : Int) i ys.length).set (i + ys.length) ((rowSum out ys (x : Int) i ys.length / 18446744073709551616 ^ ys.length : Nat) : Int) = wordsN n3 (val out + x * val ys * 18446744073709551616 ^ i) := by
  have hp : (out.take i).length = i := by simp; omega
  have hw := length_wordsN ys.length (rowSum out ys (x : Int) i ys.length)
  have hS : rowSum out ys (x : Int) i ys.length = val out / 18446744073709551616 ^ i + x * val ys := by
    unfold rowSum
    rw [val_take (inR_drop ho i), val_drop ho, Int.toNat_natCast, Nat.mod_eq_of_lt]
    rw [Nat.div_lt_iff_lt_mul (Nat.pow_pos (by decide)), ← Nat.pow_add, Nat.add_comm ys.length i]
    exact hA
  have hr : val ((out.drop i).drop ys.length) = 0 := by
    rw [List.drop_drop, val_drop ho, Nat.div_eq_of_lt hA]
  have hyl := val_lt hy
  have hAi : val out / 18446744073709551616 ^ i < 18446744073709551616 ^ ys.length := by
    rw [Nat.div_lt_iff_lt_mul (Nat.pow_pos (by decide)), ← Nat.pow_add, Nat.add_comm ys.length i]
    exact hA
  have hcl : rowSum out ys (x : Int) i ys.length / 18446744073709551616 ^ ys.length < 18446744073709551616 := by
    rw [Nat.div_lt_iff_lt_mul (Nat.pow_pos (by decide)), hS]
    have : x * val ys ≤ 18446744073709551615 * 18446744073709551616 ^ ys.length := Nat.mul_le_mul (by omega) (Nat.le_of_lt hyl)
    omega
  have hdl : 0 < ((out.drop i).drop ys.length).length := by simp; omega
  have e1 : (rowOut out ys (x : Int) i ys.length).set (i + ys.length) ((rowSum out ys (x : Int) i ys.length / 18446744073709551616 ^ ys.length : Nat) : Int) =
      out.take i ++ (wordsN ys.length (rowSum out ys (x : Int) i ys.length) ++ ((out.drop i).drop ys.length).set 0 ((rowSum out ys (x : Int) i ys.length / 18446744073709551616 ^ ys.length : Nat) : Int)) := by
    unfold rowOut
    rw [List.set_append_right _ _ (by omega), List.set_append_right _ _ (by omega), hp, hw]
    congr 3
    omega
  rw [e1]
  refine wordsN_eq ?_ ?_ ?_
  · exact inR_append (inR_take ho i) (inR_append (inR_wordsN _ _) (inR_set (inR_drop (inR_drop ho i) _) 0 (Int.natCast_nonneg _) (Int.ofNat_lt.2 hcl)))
  · simp only [List.length_append, hp, hw, List.length_set, List.length_drop]
    omega
  · have hs := val_set hdl ((rowSum out ys (x : Int) i ys.length / 18446744073709551616 ^ ys.length : Nat) : Int)
    rw [hr, Nat.pow_zero, Nat.one_mul, Nat.one_mul, Int.toNat_natCast] at hs
    have h0 : (((out.drop i).drop ys.length).getD 0 0).toNat = 0 := by
      have := val_drop_cons ((out.drop i).drop ys.length) 0
      rw [List.drop_zero, hr] at this
      omega
    rw [h0] at hs
    rw [val_append, val_append, hp, hw, val_wordsN, Nat.add_zero] at *
    rw [hs, Nat.zero_add, Nat.mod_add_div, hS, val_take ho, Nat.mul_add, ← Nat.add_assoc, Nat.mod_add_div, Nat.mul_comm (18446744073709551616 ^ i) (x * val ys)]
theorem times_loop (xs ys : List Int) (hx : inR .u64 xs) (hy : inR .u64 ys) (o o' : Own) (n3 : Nat) (h3 : n3 = xs.length + ys.length + 1) (hlim : n3 ≤ 1099511627776) (κ : X → List V → Mem → R) :
    ∀ (j i : Nat), i + j = xs.length →
    lx timesE Try.f82 0 (j + 1) (timesSt xs.length i) [(o, .w .u64 xs.length xs), (o', .w .u64 ys.length ys), (.mine, .w .u64 n3 (wordsN n3 (val (xs.take i) * val ys)))] κ =
      κ (.exit 0) (lay 83 [5] [.o (.f 0)]) [(.mine, .w .u64 n3 (wordsN n3 (val xs * val ys)))] := by
  intro j
  induction j with
  | zero =>
    intro i hi
    rw [times_round, decide_eq_false (by omega), cond_false, List.take_of_length_le (by omega)]
  | succ j ih =>
    intro i hi
    have ei : ((i : Nat) : Int) + ((ys.length : Nat) : Int) = ((i + ys.length : Nat) : Int) := rfl
    rw [times_round, decide_eq_true (by omega), cond_true, decide_eq_true (by omega), cond_true, ei, i64_wrap (x := ((i + ys.length : Nat) : Int)) (by omega) (by omega), decide_eq_true (by omega), cond_true, Int.toNat_natCast, Int.toNat_natCast, decide_eq_true ⟨by omega, rfl, rfl⟩, cond_true, i64_wrap (by omega) (by omega)]
    have ax := inR_at hx i
    have hvx : val (xs.take (i + 1)) = val (xs.take i) + 18446744073709551616 ^ i * (xs.getD i 0).toNat := val_take_succ (by omega)
    obtain ⟨x, hX⟩ := Int.eq_ofNat_of_zero_le ax.1
    rw [hX] at hvx ⊢
    have hA : val (xs.take i) * val ys < 18446744073709551616 ^ (i + ys.length) := by
      have h1 := val_lt (inR_take hx i)
      have h2 := val_lt hy
      rw [List.length_take, Nat.min_eq_left (by omega)] at h1
      rw [Nat.pow_add]
      exact Nat.mul_lt_mul'' h1 h2
    have hA3 : val (xs.take i) * val ys < 18446744073709551616 ^ n3 := Nat.lt_of_lt_of_le hA (Nat.pow_le_pow_right (by decide) (by omega))
    have hv : val (wordsN n3 (val (xs.take i) * val ys)) = val (xs.take i) * val ys := by rw [val_wordsN, Nat.mod_eq_of_lt hA3]
    rw [row_val (inR_wordsN _ _) hy (x := x) (i := i) (n3 := n3) (by omega) (length_wordsN _ _) (by omega) (by rw [hv]; exact hA), hv]
    have e : val (xs.take i) * val ys + x * val ys * 18446744073709551616 ^ i = val (xs.take (i + 1)) * val ys := by
      rw [hvx, Int.toNat_natCast, Nat.add_mul, Nat.mul_comm (18446744073709551616 ^ i) x, Nat.mul_right_comm]
    rw [e]
    exact ih (i + 1) (by omega)
theorem timesL_ok : LoopOK timesE 0 (lbody Try.f82 0) timesL := loopOK_lx fun vs m κ r hv hm h => by
  split at h
  case h_2 => cases h
  rename_i n z o n1 xs o' n2 ys n3 out
  replace h := cond_none h
  obtain ⟨hc, h⟩ := h
  obtain ⟨rfl, rfl, h3, h4, h5⟩ := of_decide_eq_true hc
  obtain ⟨hx1, hx2, hx3⟩ := hm 0 _ _ rfl
  obtain ⟨hy1, hy2, hy3⟩ := hm 1 _ _ rfl
  obtain ⟨hz1, hz2, hz3⟩ := hm 2 _ _ rfl
  subst hx1 hy1
  have ho : out = wordsN n3 0 := wordsN_eq hz3 hz1 h5
  subst ho
  have key := times_loop xs ys hx3 hy3 o o' n3 h3 h4 κ xs.length 0 (by omega)
  simp only [List.take_zero, val, Nat.zero_mul] at key
  exact ⟨_, key.trans h⟩
theorem times_ev (xs ys : List Int) : evFn timesE Try.f82 [.w .u64 xs, .w .u64 ys] =
    let l := IntKind.i64.wrap (IntKind.i64.wrap ((xs.length : Int) + (ys.length : Int)) + 1)
    cond (decide (0 ≤ l ∧ l ≤ l ∧ l ≤ 17592186044416)) (cond (decide ((xs.length : Int) = (xs.length : Int) ∧ (0 : Int) = 0 ∧ l.toNat = xs.length + ys.length + 1 ∧ l.toNat ≤ 1099511627776 ∧ val (List.replicate l.toNat 0) = 0))
      (cond (decide ((wordsN l.toNat (val xs * val ys)).length ≤ 1099511627776)) (some [(.mine, .w .u64 (words (val (wordsN l.toNat (val xs * val ys)))))]) none) none) none := by kernel_rfl
theorem times_he : ∀ ds κ r, (∀ d ∈ ds, d.wf) → timesC ds κ = some r → ∃ res, κ res = some r ∧ evFn timesE Try.f82 ds = some res := fun ds κ r hw h => by
  unfold timesC at h
  split at h
  case h_2 => cases h
  rename_i xs ys
  obtain ⟨hc, h⟩ := cond_none h
  have hc := of_decide_eq_true hc
  have hx := (wfW hw (xs := xs) (by simp)).2
  have hy := (wfW hw (xs := ys) (by simp)).2
  refine ⟨_, h, (times_ev xs ys).trans ?_⟩
  simp only []
  rw [i64_wrap (x := (xs.length : Int) + (ys.length : Int)) (by omega) (by omega), i64_wrap (by omega) (by omega)]
  have hlt : val xs * val ys < 18446744073709551616 ^ ((xs.length : Int) + (ys.length : Int) + 1).toNat := by
    have h1 := val_lt hx
    have h2 := val_lt hy
    refine Nat.lt_of_lt_of_le (Nat.mul_lt_mul'' h1 h2) ?_
    rw [← Nat.pow_add]
    exact Nat.pow_le_pow_right (by decide) (by omega)
  rw [val_zeros, length_wordsN, val_wordsN, Nat.mod_eq_of_lt hlt, decide_eq_true (by omega), cond_true, decide_eq_true ⟨trivial, trivial, by omega, by omega, rfl⟩, cond_true, decide_eq_true (by omega), cond_true]
theorem times_fn : FnOK Try.prog 82 timesC := fnOK_mk T mixed Try.func82 (by kernel_rfl) (fns := [(81, mul64C), (70, add64C), (97, trimC)]) (lps := [(0, timesL), (2, timesL2)]) (live := [(0, [0, 1, 5, 21, 22]), (2, [0, 1, 5, 6, 7, 21, 22, 26, 27])]) (out := [(0, [5]), (2, [0, 1, 5, 6, 7, 21, 22])]) (fuel := 0) (give := (fun _ => false)) ⟨mul64_fn, add64_fn, trim_fn, trivial⟩ ⟨timesL_ok, timesL2_ok, trivial⟩ times_he
end
end Go.Proofs.Ytmjbikbakkbajaa.Vm
