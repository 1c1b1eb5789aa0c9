/-
  nat.product, Mul, power and Power, evaluated. No statement is proved here.
-/
import Derived.Test.YtcglfmldodhakaaCalN5
namespace Go.Proofs.Ytcglfmldodhakaa.Vm
open Go Go.Vm
noncomputable section
set_option linter.unusedVariables false
/-! ### product -/
def pLo (x y o c : Int) : Int := (o + (x * y % 18446744073709551616 + c + 0) % 18446744073709551616 + 0) % 18446744073709551616
def pHi (x y o c : Int) : Int := IntKind.u64.wrap (IntKind.u64.wrap (x * y / 18446744073709551616 + (x * y % 18446744073709551616 + c + 0) / 18446744073709551616) + (o + (x * y % 18446744073709551616 + c + 0) % 18446744073709551616 + 0) / 18446744073709551616)
theorem p_parts {x y o c : Nat} (hx : x < 18446744073709551616) (hy : y < 18446744073709551616) (ho : o < 18446744073709551616) (hc : c < 18446744073709551616) :
    pLo x y o c = (((x * y + o + c) % 18446744073709551616 : Nat) : Int) ∧ pHi x y o c = (((x * y + o + c) / 18446744073709551616 : Nat) : Int) ∧ (x * y + o + c) / 18446744073709551616 < 18446744073709551616 := by
  have hp := word_mul_le hx hy
  unfold pLo pHi
  rw [← Int.natCast_mul]
  generalize x * y = p at *
  refine ⟨by omega, ?_, by omega⟩
  rw [u64_wrap (x := (p : Int) / 18446744073709551616 + _) (by omega) (by omega), u64_wrap (by omega) (by omega)]
  omega
def prodL2 : LpC := lpC 81 [1, 5, 6, 7, 8, 20, 21, 22, 27, 28, 29] fun vs m κ => match vs, m with
  | [.o (.f 0), .o (.f 1), .o (.p (.int .i64 i)), .o (.p (.int .u64 x)), .o (.p (.int .u64 c)), .o (.f 2), .o (.p (.int .i64 n)), .o (.p (.int .i64 z)), .o (.f 0), .o (.p (.int .i64 lb)), .o (.p (.int .i64 k))], [(o2, .w .u64 n2 ys), (.mine, .w .u64 n3 out), (o1, .w .u64 n1 xs)] =>
    cond (decide (c = 0 ∧ k = 0 ∧ lb = (n2 : Int) ∧ 0 ≤ i ∧ i + (n2 : Int) ≤ (n3 : Int)))
      (κ (.exit 2) (lay 81 [1, 5, 6, 8, 20, 21, 22] [.o (.f 0), .o (.f 1), .o (.p (.int .i64 i)), .o (.p (.int .u64 ((rowSum out ys x i.toNat n2 / 18446744073709551616 ^ n2 : Nat) : Int))), .o (.f 2), .o (.p (.int .i64 n)), .o (.p (.int .i64 z))])
        [(o2, .w .u64 n2 ys), (.mine, .w .u64 n3 (rowOut out ys x i.toNat n2)), (o1, .w .u64 n1 xs)]) none
  | _, _ => none
def prodL : LpC := lpC 81 [1, 5, 20, 21, 22] fun vs m κ => match vs, m with
  | [.o (.f 0), .o (.f 1), .o (.f 2), .o (.p (.int .i64 n)), .o (.p (.int .i64 z))], [(_, .w .u64 n2 ys), (.mine, .w .u64 n3 out), (_, .w .u64 n1 xs)] =>
    cond (decide (n = (n1 : Int) ∧ z = 0 ∧ n3 = n1 + n2 ∧ n3 ≤ 1099511627776 ∧ val out = 0)) (κ (.exit 0) (lay 81 [5] [.o (.f 0)]) [(.mine, .w .u64 n3 (wordsN n3 (val xs * val ys)))]) none
  | _, _ => none
def prodE : Env := mkE ty [(47, mul64C), (48, add64C), (59, nSizeC)] [(0, prodL), (2, prodL2)] [(0, [1, 5, 20, 21, 22]), (2, [1, 5, 6, 7, 8, 20, 21, 22, 27, 28, 29])] [(0, [5]), (2, [1, 5, 6, 8, 20, 21, 22])] 0 (fun _ => false)
def prodSt2 (i x c n z lb k : Int) : List V := lay 81 [1, 5, 6, 7, 8, 20, 21, 22, 27, 28, 29] [.o (.f 0), .o (.f 1), .o (.p (.int .i64 i)), .o (.p (.int .u64 x)), .o (.p (.int .u64 c)), .o (.f 2), .o (.p (.int .i64 n)), .o (.p (.int .i64 z)), .o (.f 0), .o (.p (.int .i64 lb)), .o (.p (.int .i64 k))]
theorem prod_round2 (i x c n z lb k : Int) (o o' : Own) (n1 n2 n3 : Nat) (xs ys out : List Int) (f : Nat) (κ : X → List V → Mem → R) :
    lx prodE Try.f86 2 (f + 1) (prodSt2 i x c n z lb k) [(o', .w .u64 n2 ys), (.mine, .w .u64 n3 out), (o, .w .u64 n1 xs)] κ =
      cond (decide (k < lb)) (cond (decide (0 ≤ k ∧ k < (n2 : Int))) (cond (decide (k.toNat < n2))
        (cond (decide (0 ≤ IntKind.i64.wrap (i + k) ∧ IntKind.i64.wrap (i + k) < (n3 : Int))) (cond (decide ((IntKind.i64.wrap (i + k)).toNat < n3))
        (cond (decide (0 ≤ IntKind.i64.wrap (i + k) ∧ IntKind.i64.wrap (i + k) < (n3 : Int))) (cond (decide ((IntKind.i64.wrap (i + k)).toNat < n3 ∧ IntKind.u64 = IntKind.u64 ∧ (Ty.i .u64).size = 1))
        (lx prodE Try.f86 2 f (prodSt2 i x (pHi x (ys.getD k.toNat 0) (out.getD (IntKind.i64.wrap (i + k)).toNat 0) c) n z lb (IntKind.i64.wrap (k + 1)))
          [(o', .w .u64 n2 ys), (.mine, .w .u64 n3 (out.set (IntKind.i64.wrap (i + k)).toNat (pLo x (ys.getD k.toNat 0) (out.getD (IntKind.i64.wrap (i + k)).toNat 0) c))), (o, .w .u64 n1 xs)] κ)
        none) none) none) none) none) none)
      (κ (.exit 2) (lay 81 [1, 5, 6, 8, 20, 21, 22] [.o (.f 0), .o (.f 1), .o (.p (.int .i64 i)), .o (.p (.int .u64 c)), .o (.f 2), .o (.p (.int .i64 n)), .o (.p (.int .i64 z))]) [(o', .w .u64 n2 ys), (.mine, .w .u64 n3 out), (o, .w .u64 n1 xs)]) := by kernel_rfl
theorem prod_loop2 (U : Nat) (hU : U < 18446744073709551616) (xs ys p q0 : List Int) (hy : inR .u64 ys) (o o' : Own) (n1 n2 : Nat) (n z : Int) (hyl : ys.length = n2) (hpl : n2 ≤ q0.length) (hlim : p.length + q0.length ≤ 140737488355328) (κ : X → List V → Mem → R) :
    ∀ (j k : Nat) (c : Nat) (q : List Int), k + j = n2 → c < 18446744073709551616 → inR .u64 q → q.length = q0.length → q.drop k = q0.drop k → val (q.take k) + 18446744073709551616 ^ k * c = val (q0.take k) + U * val (ys.take k) →
    lx prodE Try.f86 2 (j + 1) (prodSt2 p.length (U : Int) c n z n2 k) [(o', .w .u64 n2 ys), (.mine, .w .u64 (p.length + q0.length) (p ++ q)), (o, .w .u64 n1 xs)] κ =
      κ (.exit 2) (lay 81 [1, 5, 6, 8, 20, 21, 22] [.o (.f 0), .o (.f 1), .o (.p (.int .i64 p.length)), .o (.p (.int .u64 (((val (q0.take n2) + U * val ys) / 18446744073709551616 ^ n2 : Nat) : Int))), .o (.f 2), .o (.p (.int .i64 n)), .o (.p (.int .i64 z))])
        [(o', .w .u64 n2 ys), (.mine, .w .u64 (p.length + q0.length) (p ++ (wordsN n2 (val (q0.take n2) + U * val ys) ++ q0.drop n2))), (o, .w .u64 n1 xs)] := by
  intro j
  induction j with
  | zero =>
    intro k c q hk hc hR hl hd hv
    have hk : k = n2 := by omega
    subst hk
    rw [prod_round2, decide_eq_false (by omega), cond_false]
    rw [List.take_of_length_le (l := ys) (by omega)] at hv
    have hlt := val_lt (inR_take hR k)
    rw [List.length_take, Nat.min_eq_left (by omega)] at hlt
    have e1 : (val (q0.take k) + U * val ys) / 18446744073709551616 ^ k = c := by
      rw [← hv, Nat.add_mul_div_left _ _ (Nat.pow_pos (by decide)), Nat.div_eq_of_lt hlt, Nat.zero_add]
    have e2 : q.take k = wordsN k (val (q0.take k) + U * val ys) := by
      rw [← wordsN_mod]
      refine wordsN_eq (inR_take hR k) (by simp; omega) ?_
      rw [← hv, Nat.add_mul_mod_self_left, Nat.mod_eq_of_lt hlt]
    rw [e1, ← e2, ← hd, List.take_append_drop]
  | succ j ih =>
    intro k c q hk hc hR hl hd hv
    have e1 : ((p.length : Nat) : Int) + (k : Int) = ((p.length + k : Nat) : Int) := rfl
    rw [prod_round2, decide_eq_true (by omega), cond_true, decide_eq_true (by omega), cond_true, Int.toNat_natCast, decide_eq_true (by omega), cond_true,
      e1, i64_wrap (x := ((p.length + k : Nat) : Int)) (by omega) (by omega), Int.toNat_natCast, decide_eq_true (by omega), cond_true, decide_eq_true (by omega), cond_true, cond_true, decide_eq_true ⟨by omega, rfl, rfl⟩, cond_true,
      i64_wrap (by omega) (by omega)]
    have eo : (p ++ q).getD (p.length + k) 0 = q.getD k 0 := by
      simp [List.getD_eq_getElem?_getD, List.getElem?_append_right]
    have es : ∀ v, (p ++ q).set (p.length + k) v = p ++ q.set k v := by
      intro v
      rw [List.set_append_right _ _ (by omega), Nat.add_sub_cancel_left]
    rw [eo, es]
    have ay := inR_at hy k
    have ao := inR_at hR k
    have hqk : q0.getD k 0 = q.getD k 0 := by
      have := congrArg (fun l => l.getD 0 0) hd
      simpa [List.getD_eq_getElem?_getD, List.getElem?_drop] using this.symm
    have hvy : val (ys.take (k + 1)) = val (ys.take k) + 18446744073709551616 ^ k * (ys.getD k 0).toNat := val_take_succ (by omega)
    have hvq : val (q0.take (k + 1)) = val (q0.take k) + 18446744073709551616 ^ k * (q.getD k 0).toNat := by rw [← hqk]; exact val_take_succ (by omega)
    obtain ⟨y, hY⟩ := Int.eq_ofNat_of_zero_le ay.1
    obtain ⟨w, hW⟩ := Int.eq_ofNat_of_zero_le ao.1
    obtain ⟨m1, m2, m3⟩ := p_parts (x := U) (y := y) (o := w) (c := c) hU (by omega) (by omega) hc
    rw [← hY, ← hW] at m1 m2
    rw [m1, m2]
    refine ih (k + 1) _ _ (by omega) m3 (inR_set hR k (Int.natCast_nonneg _) (Int.ofNat_lt.2 (Nat.mod_lt _ (by decide)))) (by simpa using hl) ?_ ?_
    · rw [drop_set_same, ← List.drop_drop, hd, List.drop_drop]
    · rw [val_take_set (by omega), hvy, hvq, Nat.pow_succ]
      rw [hY, hW]
      simp only [Int.toNat_natCast]
      exact mul_step hv rfl (Nat.mod_add_div _ _)
theorem prodL2_ok : LoopOK prodE 2 (lbody Try.f86 2) prodL2 := loopOK_lx fun vs m κ r hv hm h => by
  split at h
  case h_2 => cases h
  rename_i i x c n z lb k o' n2 ys n3 out o n1 xs
  replace h := cond_none h
  obtain ⟨hc, h⟩ := h
  obtain ⟨rfl, rfl, rfl, h1, h3⟩ := of_decide_eq_true hc
  have hy := hm 0 _ _ rfl
  have hz := hm 1 _ _ rfl
  have h47 : lim = 140737488355328 := by decide
  have hxw : 0 ≤ x ∧ x < 18446744073709551616 := by
    have := hv (.o (.p (.int .u64 x))) (by simp)
    have : 0 ≤ x ∧ x ≤ 18446744073709551615 := by simpa [V.wf, V0.wf, wfB, IntKind.min, IntKind.max, IntKind.signed, IntKind.bits] using this
    omega
  obtain ⟨i, rfl⟩ := Int.eq_ofNat_of_zero_le h1
  obtain ⟨X, rfl⟩ := Int.eq_ofNat_of_zero_le hxw.1
  obtain ⟨hy1, hy2, hy3⟩ := hy
  obtain ⟨hz1, hz2, hz3⟩ := hz
  have hp : (out.take i).length = i := by simp; omega
  have key := prod_loop2 X (by omega) xs ys (out.take i) (out.drop i) hy3 o o' n1 n2 n z hy1 (by simp; omega) (by simp; omega) κ n2 0 0 (out.drop i) (by omega) (by omega) (inR_drop hz3 i) rfl rfl (by simp [val])
  have hn3 : (out.take i).length + (out.drop i).length = n3 := by simp; omega
  rw [hn3, hp, List.take_append_drop] at key
  refine ⟨_, key.trans ?_⟩
  unfold rowOut rowSum at h
  simp only [Int.toNat_natCast] at h
  exact h
def prodSt (n z : Int) : List V := lay 81 [1, 5, 20, 21, 22] [.o (.f 0), .o (.f 1), .o (.f 2), .o (.p (.int .i64 n)), .o (.p (.int .i64 z))]
theorem prod_round (n z : Int) (o o' : Own) (n1 n2 n3 : Nat) (xs ys out : List Int) (f : Nat) (κ : X → List V → Mem → R) :
    lx prodE Try.f86 0 (f + 1) (prodSt n z) [(o', .w .u64 n2 ys), (.mine, .w .u64 n3 out), (o, .w .u64 n1 xs)] κ =
      cond (decide (z < n)) (cond (decide (0 ≤ z ∧ z < (n1 : Int))) (cond (decide (z.toNat < n1)) (cond (decide ((0 : Int) = 0 ∧ (0 : Int) = 0 ∧ (n2 : Int) = (n2 : Int) ∧ 0 ≤ z ∧ z + (n2 : Int) ≤ (n3 : Int)))
        (cond (decide (0 ≤ IntKind.i64.wrap (z + (n2 : Int)) ∧ IntKind.i64.wrap (z + (n2 : Int)) < (n3 : Int))) (cond (decide ((IntKind.i64.wrap (z + (n2 : Int))).toNat < n3 ∧ IntKind.u64 = IntKind.u64 ∧ (Ty.i .u64).size = 1))
        (lx prodE Try.f86 0 f (prodSt n (IntKind.i64.wrap (z + 1)))
          [(o', .w .u64 n2 ys), (.mine, .w .u64 n3 ((rowOut out ys (xs.getD z.toNat 0) z.toNat n2).set (IntKind.i64.wrap (z + (n2 : Int))).toNat ((rowSum out ys (xs.getD z.toNat 0) z.toNat n2 / 18446744073709551616 ^ n2 : Nat) : Int))), (o, .w .u64 n1 xs)] κ)
        none) none) none) none) none)
      (κ (.exit 0) (lay 81 [5] [.o (.f 0)]) [(.mine, .w .u64 n3 out)]) := by kernel_rfl
theorem prod_loop (xs ys : List Int) (hx : inR .u64 xs) (hy : inR .u64 ys) (o o' : Own) (n3 : Nat) (h3 : n3 = xs.length + ys.length) (hlim : n3 ≤ 1099511627776) (κ : X → List V → Mem → R) :
    ∀ (j i : Nat), i + j = xs.length →
    lx prodE Try.f86 0 (j + 1) (prodSt xs.length i) [(o', .w .u64 ys.length ys), (.mine, .w .u64 n3 (wordsN n3 (val (xs.take i) * val ys))), (o, .w .u64 xs.length xs)] κ =
      κ (.exit 0) (lay 81 [5] [.o (.f 0)]) [(.mine, .w .u64 n3 (wordsN n3 (val xs * val ys)))] := by
  intro j
  induction j with
  | zero =>
    intro i hi
    rw [prod_round, decide_eq_false (by omega), cond_false, List.take_of_length_le (by omega)]
  | succ j ih =>
    intro i hi
    have ei : ((i : Nat) : Int) + ((ys.length : Nat) : Int) = ((i + ys.length : Nat) : Int) := rfl
    rw [prod_round, decide_eq_true (by omega), cond_true, decide_eq_true (by omega), cond_true, Int.toNat_natCast, decide_eq_true (by omega), cond_true, decide_eq_true (by omega), cond_true, ei, i64_wrap (x := ((i + ys.length : Nat) : Int)) (by omega) (by omega), decide_eq_true (by omega), cond_true, Int.toNat_natCast, decide_eq_true ⟨by omega, rfl, rfl⟩, cond_true, i64_wrap (by omega) (by omega)]
    have ax := inR_at hx i
    have hvx : val (xs.take (i + 1)) = val (xs.take i) + 18446744073709551616 ^ i * (xs.getD i 0).toNat := val_take_succ (by omega)
    obtain ⟨x, hX⟩ := Int.eq_ofNat_of_zero_le ax.1
    rw [hX] at hvx ⊢
    have hA : val (xs.take i) * val ys < 18446744073709551616 ^ (i + ys.length) := by
      have h1 := val_lt (inR_take hx i)
      have h2 := val_lt hy
      rw [List.length_take, Nat.min_eq_left (by omega)] at h1
      rw [Nat.pow_add]
      exact Nat.mul_lt_mul'' h1 h2
    have hA3 : val (xs.take i) * val ys < 18446744073709551616 ^ n3 := Nat.lt_of_lt_of_le hA (Nat.pow_le_pow_right (by decide) (by omega))
    have hv : val (wordsN n3 (val (xs.take i) * val ys)) = val (xs.take i) * val ys := by rw [val_wordsN, Nat.mod_eq_of_lt hA3]
    rw [row_val (inR_wordsN _ _) hy (x := x) (i := i) (n3 := n3) (by omega) (length_wordsN _ _) (by omega) (by rw [hv]; exact hA), hv]
    have e : val (xs.take i) * val ys + x * val ys * 18446744073709551616 ^ i = val (xs.take (i + 1)) * val ys := by
      rw [hvx, Int.toNat_natCast, Nat.add_mul, Nat.mul_comm (18446744073709551616 ^ i) x, Nat.mul_right_comm]
    rw [e]
    exact ih (i + 1) (by omega)
theorem prodL_ok : LoopOK prodE 0 (lbody Try.f86 0) prodL := loopOK_lx fun vs m κ r hv hm h => by
  split at h
  case h_2 => cases h
  rename_i n z o' n2 ys n3 out o n1 xs
  replace h := cond_none h
  obtain ⟨hc, h⟩ := h
  obtain ⟨rfl, rfl, h3, h4, h5⟩ := of_decide_eq_true hc
  obtain ⟨hy1, hy2, hy3⟩ := hm 0 _ _ rfl
  obtain ⟨hz1, hz2, hz3⟩ := hm 1 _ _ rfl
  obtain ⟨hx1, hx2, hx3⟩ := hm 2 _ _ rfl
  subst hx1 hy1
  have ho : out = wordsN n3 0 := wordsN_eq hz3 hz1 h5
  subst ho
  have key := prod_loop xs ys hx3 hy3 o o' n3 h3 h4 κ xs.length 0 (by omega)
  simp only [List.take_zero, val, Nat.zero_mul] at key
  exact ⟨_, key.trans h⟩
theorem prod_ev (xs ys : List Int) : evFn prodE Try.f86 [.w .u64 xs, .w .u64 ys] =
    (cond (decide
      ((0 : Int) ≤ IntKind.i64.wrap ((↑xs.length : Int) + (↑ys.length : Int)) ∧
        IntKind.i64.wrap ((↑xs.length : Int) + (↑ys.length : Int)) ≤
            IntKind.i64.wrap ((↑xs.length : Int) + (↑ys.length : Int)) ∧
          IntKind.i64.wrap ((↑xs.length : Int) + (↑ys.length : Int)) ≤ (17592186044416 : Int)))
     (cond (decide
      ((↑xs.length : Int) = (↑xs.length : Int) ∧
        (0 : Int) = (0 : Int) ∧
          (IntKind.i64.wrap ((↑xs.length : Int) + (↑ys.length : Int))).toNat = xs.length + ys.length ∧
            (IntKind.i64.wrap ((↑xs.length : Int) + (↑ys.length : Int))).toNat ≤ 1099511627776 ∧
              val (List.replicate (IntKind.i64.wrap ((↑xs.length : Int) + (↑ys.length : Int))).toNat (0 : Int)) = 0))
      (cond (decide
      ((0 : Int) ≤
          (↑(wlen (val (wordsN (IntKind.i64.wrap ((↑xs.length : Int) + (↑ys.length : Int))).toNat (val xs * val ys)))) :
            Int) ∧
        (↑(wlen (val (wordsN (IntKind.i64.wrap ((↑xs.length : Int) + (↑ys.length : Int))).toNat (val xs * val ys)))) :
            Int) ≤
          (↑(IntKind.i64.wrap ((↑xs.length : Int) + (↑ys.length : Int))).toNat : Int)))
       (cond (decide
      (0 +
          ((↑(wlen (val (wordsN (IntKind.i64.wrap ((↑xs.length : Int) + (↑ys.length : Int))).toNat (val xs * val ys)))) :
                Int).toNat -
            0) ≤
        (IntKind.i64.wrap ((↑xs.length : Int) + (↑ys.length : Int))).toNat))
        (some [(.mine, .w .u64 (List.take
      ((↑(wlen (val (wordsN (IntKind.i64.wrap ((↑xs.length : Int) + (↑ys.length : Int))).toNat (val xs * val ys)))) :
            Int).toNat -
        0)
      (List.drop 0 (wordsN (IntKind.i64.wrap ((↑xs.length : Int) + (↑ys.length : Int))).toNat (val xs * val ys)))))])
        none)
       none)
      none)
     none) := by kernel_rfl
def prodC : FnC := fun ds κ => match ds with
  | [.w .u64 xs, .w .u64 ys] => cond (decide (xs.length ≤ 274877906944 ∧ ys.length ≤ 274877906944)) (κ [(.mine, .w .u64 (words (val xs * val ys)))]) none
  | _ => none
theorem prod_he : ∀ ds κ r, (∀ d ∈ ds, d.wf) → prodC ds κ = some r → ∃ res, κ res = some r ∧ evFn prodE Try.f86 ds = some res := fun ds κ r hw h => by
  unfold prodC at h
  split at h
  case h_2 => cases h
  rename_i xs ys
  obtain ⟨hc, h⟩ := cond_none h
  have hc := of_decide_eq_true hc
  have hx := (wfW hw (xs := xs) (by simp)).2
  have hy := (wfW hw (xs := ys) (by simp)).2
  refine ⟨_, h, (prod_ev xs ys).trans ?_⟩
  rw [i64_wrap (x := (xs.length : Int) + (ys.length : Int)) (by omega) (by omega)]
  have hlt : val xs * val ys < 18446744073709551616 ^ ((xs.length : Int) + (ys.length : Int)).toNat := by
    have h1 := val_lt hx
    have h2 := val_lt hy
    refine Nat.lt_of_lt_of_le (Nat.mul_lt_mul'' h1 h2) ?_
    rw [← Nat.pow_add]
    exact Nat.pow_le_pow_right (by decide) (by omega)
  have hv : val (wordsN ((xs.length : Int) + (ys.length : Int)).toNat (val xs * val ys)) = val xs * val ys := by rw [val_wordsN, Nat.mod_eq_of_lt hlt]
  have hl : wlen (val xs * val ys) ≤ ((xs.length : Int) + (ys.length : Int)).toNat := (wlen_le _ _).2 hlt
  have ht := take_words (inR_wordsN ((xs.length : Int) + (ys.length : Int)).toNat (val xs * val ys))
  rw [hv] at ht
  rw [val_zeros, hv, decide_eq_true (by omega), cond_true, decide_eq_true ⟨rfl, rfl, by omega, by omega, rfl⟩, cond_true, decide_eq_true (by omega), cond_true, decide_eq_true (by omega), cond_true, List.drop_zero, Int.toNat_natCast, Nat.sub_zero, ht]
theorem prod_fn : FnOK Try.prog 86 prodC := fnOK_mk T mixed Try.func86 (by kernel_rfl) (fns := [(47, mul64C), (48, add64C), (59, nSizeC)]) (lps := [(0, prodL), (2, prodL2)]) (live := [(0, [1, 5, 20, 21, 22]), (2, [1, 5, 6, 7, 8, 20, 21, 22, 27, 28, 29])]) (out := [(0, [5]), (2, [1, 5, 6, 8, 20, 21, 22])]) (fuel := 0) (give := (fun _ => false)) ⟨mul64_fn, add64_fn, nSize_fn, trivial⟩ ⟨prodL_ok, prodL2_ok, trivial⟩ prod_he
/-! ### Mul -/
def nMulC : FnC := fun ds κ => match ds with
  | [.w .u64 xs, .w .u64 ys] => cond (decide (xs.length ≤ 274877906944 ∧ ys.length ≤ 274877906944 ∧ wlen (val xs) + wlen (val ys) ≤ 2000)) (κ [(.new, .w .u64 (words (val xs * val ys))), (.mine, .p (.int .i64 0))]) none
  | _ => none
def nMulE : Env := mkE ty [(59, nSizeC), (86, prodC)] [] [] [] 0 (fun _ => false)
theorem nMul_ev (xs ys : List Int) : evFn nMulE Try.f62 [.w .u64 xs, .w .u64 ys] =
    (cond (decide ((0 : Int) ≤ (↑(wlen (val xs)) : Int) ∧ (↑(wlen (val xs)) : Int) ≤ (↑xs.length : Int)))
     (cond (decide ((0 : Int) ≤ (↑(wlen (val ys)) : Int) ∧ (↑(wlen (val ys)) : Int) ≤ (↑ys.length : Int)))
      (cond (decide
      (IntKind.i64.wrap
          ((↑((↑(wlen (val xs)) : Int).toNat - 0) : Int) + (↑((↑(wlen (val ys)) : Int).toNat - 0) : Int)) >
        (2000 : Int)))
       (some [(.new, .w .u64 []), (.mine, .p (.int .i64 (4)))])
       (cond (decide (0 + ((↑(wlen (val xs)) : Int).toNat - 0) ≤ xs.length))
        (cond (decide (0 + ((↑(wlen (val ys)) : Int).toNat - 0) ≤ ys.length))
         (cond (decide
      ((List.take ((↑(wlen (val xs)) : Int).toNat - 0) (List.drop 0 xs)).length ≤ 274877906944 ∧
        (List.take ((↑(wlen (val ys)) : Int).toNat - 0) (List.drop 0 ys)).length ≤ 274877906944))
          (some [(.new, .w .u64 (words
      (val (List.take ((↑(wlen (val xs)) : Int).toNat - 0) (List.drop 0 xs)) *
        val (List.take ((↑(wlen (val ys)) : Int).toNat - 0) (List.drop 0 ys))))), (.mine, .p (.int .i64 (0)))])
          none)
         none)
        none))
      none)
     none) := by kernel_rfl
theorem nMul_he : ∀ ds κ r, (∀ d ∈ ds, d.wf) → nMulC ds κ = some r → ∃ res, κ res = some r ∧ evFn nMulE Try.f62 ds = some res := fun ds κ r hw h => by
  unfold nMulC at h
  split at h
  case h_2 => cases h
  rename_i xs ys
  obtain ⟨hc, h⟩ := cond_none h
  have hc := of_decide_eq_true hc
  have hx := (wfW hw (xs := xs) (by simp)).2
  have hy := (wfW hw (xs := ys) (by simp)).2
  have w1 := wlen_val hx
  have w2 := wlen_val hy
  refine ⟨_, h, (nMul_ev xs ys).trans ?_⟩
  rw [cut_bds hx, cond_true, cut_bds hy, cond_true, Int.toNat_natCast, Int.toNat_natCast, Nat.sub_zero, Nat.sub_zero, i64_wrap (by omega) (by omega), decide_eq_false (by omega), cond_false, decide_eq_true (by omega), cond_true, decide_eq_true (by omega), cond_true, List.drop_zero, List.drop_zero, take_words hx, take_words hy, length_words, length_words, decide_eq_true (by omega), cond_true, val_words, val_words]
theorem nMul_fn : FnOK Try.prog 62 nMulC := fnOK_mk T mixed Try.func62 (by kernel_rfl) (fns := [(59, nSizeC), (86, prodC)]) (lps := []) (live := []) (out := []) (fuel := 0) (give := (fun _ => false)) ⟨nSize_fn, prod_fn, trivial⟩ trivial nMul_he
/-! ### power: of five, by halves -/
def npowC (N : Nat) : FnC := fun ds κ => match ds with
  | [.p (.int .u64 b), .p (.int .i64 n)] => cond (decide (b = 5 ∧ 0 ≤ n ∧ n < (N : Int) ∧ n ≤ 12000)) (κ [(.mine, .w .u64 (words (5 ^ n.toNat)))]) none
  | _ => none
def npowE (N : Nat) : Env := mkE ty [(32, nOfC), (66, npowC N), (86, prodC)] [] [] [] 0 (fun _ => false)
theorem npow_ev (N : Nat) (n : Int) : evFn (npowE N) Try.f66 [.p (.int .u64 5), .p (.int .i64 n)] =
    cond (n == 0) (some [(.mine, .w .u64 (words (1 : Int).toNat))])
      (cond (decide ((5 : Int) = 5 ∧ 0 ≤ IntKind.i64.wrap (n.tdiv 2) ∧ IntKind.i64.wrap (n.tdiv 2) < (N : Int) ∧ IntKind.i64.wrap (n.tdiv 2) ≤ 12000))
        (cond (decide ((words (5 ^ (IntKind.i64.wrap (n.tdiv 2)).toNat)).length ≤ 274877906944 ∧ (words (5 ^ (IntKind.i64.wrap (n.tdiv 2)).toNat)).length ≤ 274877906944))
          (cond (n.tmod 2 == 1)
            (cond (decide ((words (val (words (5 ^ (IntKind.i64.wrap (n.tdiv 2)).toNat)) * val (words (5 ^ (IntKind.i64.wrap (n.tdiv 2)).toNat)))).length ≤ 274877906944 ∧ [(5 : Int)].length ≤ 274877906944))
              (some [(.mine, .w .u64 (words (val (words (val (words (5 ^ (IntKind.i64.wrap (n.tdiv 2)).toNat)) * val (words (5 ^ (IntKind.i64.wrap (n.tdiv 2)).toNat)))) * val [(5 : Int)])))]) none)
            (some [(.mine, .w .u64 (words (val (words (5 ^ (IntKind.i64.wrap (n.tdiv 2)).toNat)) * val (words (5 ^ (IntKind.i64.wrap (n.tdiv 2)).toNat)))))])) none) none) := by kernel_rfl
theorem pow5_le (k : Nat) : wlen (5 ^ k) ≤ 3 * k / 64 + 1 := by
  rw [wlen_le, pow64]
  have h1 : 5 ^ k ≤ 2 ^ (3 * k) := by rw [Nat.pow_mul]; exact Nat.pow_le_pow_left (by decide) k
  exact Nat.lt_of_le_of_lt h1 (Nat.pow_lt_pow_right (by decide) (by omega))
theorem npow_he (N : Nat) : ∀ ds κ r, (∀ d ∈ ds, d.wf) → npowC (N + 1) ds κ = some r → ∃ res, κ res = some r ∧ evFn (npowE N) Try.f66 ds = some res := fun ds κ r hw h => by
  unfold npowC at h
  split at h
  case h_2 => cases h
  rename_i b n
  replace h := cond_none h
  obtain ⟨hc, h⟩ := h
  obtain ⟨rfl, h1, h2, h3⟩ := of_decide_eq_true hc
  obtain ⟨k, rfl⟩ := Int.eq_ofNat_of_zero_le h1
  refine ⟨_, h, (npow_ev N _).trans ?_⟩
  by_cases h0 : k = 0
  · subst h0
    rfl
  · have e1 : ((k : Int)).tdiv 2 = ((k / 2 : Nat) : Int) := rfl
    have e2 : ((k : Int)).tmod 2 = ((k % 2 : Nat) : Int) := rfl
    have p1 := pow5_le (k / 2)
    have p2 := wlen_mul p1 p1
    rw [beq_eq_false_iff_ne.2 (show (k : Int) ≠ 0 by omega), cond_false, e1, e2, i64_wrap (by omega) (by omega), decide_eq_true (by omega), cond_true, Int.toNat_natCast, Int.toNat_natCast, length_words, length_words, val_words, val_words, decide_eq_true (by omega), cond_true]
    by_cases h5 : k % 2 = 1
    · rw [h5, show (((1 : Nat) : Int) == 1) = true from rfl, cond_true, decide_eq_true ⟨by omega, (by decide : 1 ≤ 274877906944)⟩, cond_true, show val [(5 : Int)] = 5 from rfl]
      have : 5 ^ k = 5 ^ (k / 2) * 5 ^ (k / 2) * 5 := by
        rw [← Nat.pow_add, ← Nat.pow_succ]
        congr 1
        omega
      rw [this]
    · rw [beq_eq_false_iff_ne.2 (show ((k % 2 : Nat) : Int) ≠ 1 by omega), cond_false]
      have : 5 ^ k = 5 ^ (k / 2) * 5 ^ (k / 2) := by
        rw [← Nat.pow_add]
        congr 1
        omega
      rw [this]
theorem npow_fn : ∀ N : Nat, FnOK Try.prog 66 (npowC N)
  | 0 => fun ds κ r _ h => by
    unfold npowC at h
    split at h
    case h_2 => cases h
    obtain ⟨hc, h⟩ := cond_none h
    have := of_decide_eq_true hc
    omega
  | N + 1 => fnOK_mk T mixed Try.func66 (by kernel_rfl) (fns := [(32, nOfC), (66, npowC N), (86, prodC)]) (lps := []) (live := []) (out := []) (fuel := 0) (give := (fun _ => false)) ⟨nOf_fn, npow_fn N, prod_fn, trivial⟩ trivial (npow_he N)
def npow5C : FnC := npowC 12001
theorem npow5_fn : FnOK Try.prog 66 npow5C := npow_fn 12001
/-! ### Power: of ten -/
def nTenC : FnC := fun ds κ => match ds with
  | [.p (.int .i64 b), .p (.int .i64 n)] => cond (decide (b = 10 ∧ 0 ≤ n ∧ n ≤ 12000)) (κ [(.new, .w .u64 (words (10 ^ n.toNat))), (.mine, .p (.int .i64 0))]) none
  | _ => none
def nTenE : Env := mkE ty [(32, nOfC), (65, nShlC), (66, npow5C)] [] [] [] 0 (fun _ => false)
theorem nTen_ev (n : Int) : evFn nTenE Try.f35 [.p (.int .i64 10), .p (.int .i64 n)] =
    (cond (decide (n < (0 : Int)))
     (some [(.new, .w .u64 []), (.mine, .p (.int .i64 (1)))])
     (cond (decide (n > (12000 : Int)))
      (some [(.new, .w .u64 []), (.mine, .p (.int .i64 (4)))])
      (cond (decide ((5 : Int) = (5 : Int) ∧ (0 : Int) ≤ n ∧ n < (↑12001 : Int) ∧ n ≤ (12000 : Int)))
       (cond (decide ((words (5 ^ n.toNat)).length ≤ 549755813888))
        (cond (decide (n < (0 : Int)))
         (some [(.new, .w .u64 []), (.mine, .p (.int .i64 (1)))])
         (cond (decide
      (n.toNat / 64 > 2000 ∨
        wlen (val (words (5 ^ n.toNat))) + (n.toNat + 63) / 64 > 2000))
          (some [(.new, .w .u64 []), (.mine, .p (.int .i64 (4)))])
          (some [(.new, .w .u64 (words (val (words (5 ^ n.toNat)) * 2 ^ n.toNat))), (.mine, .p (.int .i64 (0)))])))
        none)
       none))) := by kernel_rfl
theorem ten_pow (k : Nat) : 5 ^ k * 2 ^ k = 10 ^ k := by rw [← Nat.mul_pow]
theorem nTen_he : ∀ ds κ r, (∀ d ∈ ds, d.wf) → nTenC ds κ = some r → ∃ res, κ res = some r ∧ evFn nTenE Try.f35 ds = some res := fun ds κ r hw h => by
  unfold nTenC at h
  split at h
  case h_2 => cases h
  rename_i b n
  replace h := cond_none h
  obtain ⟨hc, h⟩ := h
  obtain ⟨rfl, h1, h2⟩ := of_decide_eq_true hc
  have p1 := pow5_le n.toNat
  refine ⟨_, h, (nTen_ev n).trans ?_⟩
  rw [decide_eq_false (by omega), cond_false, decide_eq_false (by omega), cond_false, decide_eq_true ⟨rfl, h1, by omega, h2⟩, cond_true, val_words, length_words, decide_eq_true (by omega), cond_true, cond_false, decide_eq_false (by omega), cond_false, ten_pow]
theorem nTen_fn : FnOK Try.prog 35 nTenC := fnOK_mk T mixed Try.func35 (by kernel_rfl) (fns := [(32, nOfC), (65, nShlC), (66, npow5C)]) (lps := []) (live := []) (out := []) (fuel := 0) (give := (fun _ => false)) ⟨nOf_fn, nShl_fn, npow5_fn, trivial⟩ trivial nTen_he
end
end Go.Proofs.Ytcglfmldodhakaa.Vm
