/-
  Package nat: sizes, sums. No statement is proved here.
-/
import Derived.Test.YtcglfmldodhakaaCalK
namespace Go.Proofs.Ytcglfmldodhakaa.Vm
open Go Go.Vm
noncomputable section
set_option linter.unusedVariables false

/-! ### slices.Clone -/
def cloneC : FnC := fun ds κ => match ds with
  | [.w .u64 xs] => cond (decide (xs.length ≤ 1099511627776)) (κ [(.mine, .w .u64 xs)]) none
  | _ => none
def cloneE : Env := mkE ty [] [] [] [] 0 (fun _ => false)
theorem clone_ev (xs : List Int) : evFn cloneE Try.f58 [.w .u64 xs] =
    both (cond (decide (xs.length = 0)) (some [(.mine, .w .u64 [])]) (cond (decide (IntKind.u64 = IntKind.u64 ∧ xs.length ≤ 17592186044416)) (some [(.mine, .w .u64 xs)]) none))
      (cond (decide (IntKind.u64 = IntKind.u64 ∧ xs.length ≤ 17592186044416)) (some [(.mine, .w .u64 xs)]) none) := by kernel_rfl
theorem clone_he : ∀ ds κ r, (∀ d ∈ ds, d.wf) → cloneC ds κ = some r → ∃ res, κ res = some r ∧ evFn cloneE Try.f58 ds = some res := fun ds κ r hw h => by
  unfold cloneC at h
  split at h
  case h_2 => cases h
  rename_i xs
  obtain ⟨hc, h⟩ := cond_none h
  have hc := of_decide_eq_true hc
  refine ⟨_, h, (clone_ev xs).trans ?_⟩
  rw [decide_eq_true (show IntKind.u64 = IntKind.u64 ∧ xs.length ≤ 17592186044416 from ⟨rfl, by omega⟩), cond_true]
  by_cases h0 : xs.length = 0
  · obtain rfl := List.length_eq_zero_iff.1 h0
    exact both_same _
  · rw [decide_eq_false h0, cond_false]
    exact both_same _
theorem clone_fn : FnOK Try.prog 58 cloneC := fnOK_mk T mixed Try.func58 (by kernel_rfl) (fns := []) (lps := []) (live := []) (out := []) (fuel := 0) (give := (fun _ => false)) trivial trivial clone_he

/-! ### size, Trim, Of, Len -/
abbrev nSizeC := sizeC
def nSizeL : LpC := lpC 19 [0, 3] fun vs m κ => match vs, m with
  | [.o (.f 0), .o (.p (.int .i64 i))], [(_, .w .u64 n xs)] => cond (decide (i = (n : Int))) (κ (.exit 0) (lay 19 [3] [.o (.p (.int .i64 ((wlen (val xs) : Nat) : Int)))]) []) none
  | _, _ => none
def nSizeE : Env := mkE ty [] [(0, nSizeL)] [(0, [0, 3])] [(0, [3])] 0 (fun _ => false)
theorem nSize_round (i : Int) (o : Own) (n : Nat) (xs : List Int) (f : Nat) (κ : X → List V → Mem → R) :
    lx nSizeE Try.f59 0 (f + 1) (lay 19 [0, 3] [.o (.f 0), .o (.p (.int .i64 i))]) [(o, .w .u64 n xs)] κ =
      cond (decide (i > 0)) (cond (decide (0 ≤ IntKind.i64.wrap (i - 1) ∧ IntKind.i64.wrap (i - 1) < (n : Int))) (cond (decide ((IntKind.i64.wrap (i - 1)).toNat < n))
        (cond (xs.getD (IntKind.i64.wrap (i - 1)).toNat 0 == 0) (lx nSizeE Try.f59 0 f (lay 19 [0, 3] [.o (.f 0), .o (.p (.int .i64 (IntKind.i64.wrap (i - 1))))]) [(o, .w .u64 n xs)] κ)
          (κ (.exit 0) (lay 19 [3] [.o (.p (.int .i64 i))]) [])) none) none)
        (κ (.exit 0) (lay 19 [3] [.o (.p (.int .i64 i))]) []) := by kernel_rfl
theorem nSize_loop (xs : List Int) (hx : inR .u64 xs) (hl : xs.length ≤ 140737488355328) (o : Own) (κ : X → List V → Mem → R) : ∀ (j : Nat), j ≤ xs.length → val xs = val (xs.take j) →
    lx nSizeE Try.f59 0 (j + 1) (lay 19 [0, 3] [.o (.f 0), .o (.p (.int .i64 (j : Int)))]) [(o, .w .u64 xs.length xs)] κ = κ (.exit 0) (lay 19 [3] [.o (.p (.int .i64 ((wlen (val xs) : Nat) : Int)))]) [] := by
  intro j
  induction j with
  | zero =>
    intro _ he
    rw [nSize_round]
    have : val xs = 0 := by simpa [val] using he
    rw [this]
    rfl
  | succ j ih =>
    intro hj he
    rw [nSize_round]
    have e1 : ((j + 1 : Nat) : Int) - 1 = (j : Int) := by omega
    rw [e1, i64_wrap (by omega) (by omega), decide_eq_true (by omega), cond_true, decide_eq_true (by omega), cond_true, Int.toNat_natCast, decide_eq_true (by omega), cond_true]
    by_cases hz : xs.getD j 0 = 0
    · rw [beq_iff_eq.2 hz, cond_true]
      refine ih (by omega) ?_
      rw [he, val_take_succ (by omega), hz]
      rfl
    · rw [beq_eq_false_iff_ne.2 hz, cond_false]
      have hw := wlen_top (inR_take hx (j + 1)) (by
        have : (xs.take (j + 1)).length - 1 = j := by simp; omega
        rw [this]
        simpa [List.getElem?_take] using hz)
      rw [he, hw, List.length_take, Nat.min_eq_left hj]
theorem nSizeL_ok : LoopOK nSizeE 0 (lbody Try.f59 0) nSizeL := loopOK_lx fun vs m κ r hv hm h => by
  split at h
  case h_2 => cases h
  rename_i i o n xs
  replace h := cond_none h
  obtain ⟨hc, h⟩ := h
  have hc := of_decide_eq_true hc
  have hx := hm 0 _ _ rfl
  obtain ⟨rfl, hl, hR⟩ := hx
  have h47 : lim = 140737488355328 := by decide
  rw [hc]
  exact ⟨_, (nSize_loop xs hR (by omega) o κ xs.length (Nat.le_refl _) (by rw [List.take_length])).trans h⟩
theorem nSize_ev (xs : List Int) : evFn nSizeE Try.f59 [.w .u64 xs] = cond (decide ((xs.length : Int) = (xs.length : Int))) (some [(.mine, .p (.int .i64 ((wlen (val xs) : Nat) : Int)))]) none := by kernel_rfl
theorem nSize_he : ∀ ds κ r, (∀ d ∈ ds, d.wf) → nSizeC ds κ = some r → ∃ res, κ res = some r ∧ evFn nSizeE Try.f59 ds = some res := fun ds κ r hw h => by
  unfold nSizeC sizeC at h
  split at h
  case h_2 => cases h
  rename_i xs
  exact ⟨_, h, (nSize_ev xs).trans (by rw [decide_eq_true rfl, cond_true])⟩
theorem nSize_fn : FnOK Try.prog 59 nSizeC := fnOK_mk T mixed Try.func59 (by kernel_rfl) (fns := []) (lps := [(0, nSizeL)]) (live := [(0, [0, 3])]) (out := [(0, [3])]) (fuel := 0) (give := (fun _ => false)) trivial ⟨nSizeL_ok, trivial⟩ nSize_he
abbrev nTrimC := trimC
def nTrimE : Env := mkE ty [(59, nSizeC), (58, cloneC)] [] [] [] 0 (fun _ => false)
/-- 'a[:size(a)]' of a list, handed on. -/
def cut (xs : List Int) : List Int := List.take (((wlen (val xs) : Nat) : Int).toNat - 0) (List.drop 0 xs)
theorem cut_eq {xs : List Int} (h : inR .u64 xs) : cut xs = words (val xs) := by
  unfold cut
  rw [Int.toNat_natCast, Nat.sub_zero, List.drop_zero, take_words h]
theorem cut_bds {xs : List Int} (h : inR .u64 xs) : decide (0 ≤ ((wlen (val xs) : Nat) : Int) ∧ ((wlen (val xs) : Nat) : Int) ≤ (xs.length : Int)) = true := by
  have := wlen_val h
  exact decide_eq_true (by omega)
theorem cut_fit {xs : List Int} (h : inR .u64 xs) : decide (0 + (((wlen (val xs) : Nat) : Int).toNat - 0) ≤ xs.length) = true := by
  have := wlen_val h
  exact decide_eq_true (by omega)
theorem nTrim_ev (xs : List Int) : evFn nTrimE Try.f29 [.w .u64 xs] = cond (decide (0 ≤ ((wlen (val xs) : Nat) : Int) ∧ ((wlen (val xs) : Nat) : Int) ≤ (xs.length : Int)))
    (cond (decide (0 + (((wlen (val xs) : Nat) : Int).toNat - 0) ≤ xs.length)) (cond (decide ((cut xs).length ≤ 1099511627776)) (some [(.mine, .w .u64 (cut xs))]) none) none) none := by kernel_rfl
theorem nTrim_he : ∀ ds κ r, (∀ d ∈ ds, d.wf) → nTrimC ds κ = some r → ∃ res, κ res = some r ∧ evFn nTrimE Try.f29 ds = some res := fun ds κ r hw h => by
  unfold nTrimC trimC at h
  split at h
  case h_2 => cases h
  rename_i xs
  obtain ⟨hc, h⟩ := cond_none h
  have hc := of_decide_eq_true hc
  have hx := (wfW hw (xs := xs) (by simp)).2
  have hwl := wlen_val hx
  refine ⟨_, h, (nTrim_ev xs).trans ?_⟩
  rw [cut_bds hx, cond_true, cut_fit hx, cond_true, cut_eq hx, decide_eq_true (by rw [length_words]; omega), cond_true]
theorem nTrim_fn : FnOK Try.prog 29 nTrimC := fnOK_mk T mixed Try.func29 (by kernel_rfl) (fns := [(59, nSizeC), (58, cloneC)]) (lps := []) (live := []) (out := []) (fuel := 0) (give := (fun _ => false)) ⟨nSize_fn, clone_fn, trivial⟩ trivial nTrim_he
def nOfC : FnC := fun ds κ => match ds with
  | [.p (.int .u64 n)] => κ [(.mine, .w .u64 (words n.toNat))]
  | _ => none
def nOfE : Env := mkE ty [(29, nTrimC)] [] [] [] 0 (fun _ => false)
theorem nOf_ev (n : Int) : evFn nOfE Try.f32 [.p (.int .u64 n)] = some [(.mine, .w .u64 (words (val [n])))] := by kernel_rfl
theorem nOf_he : ∀ ds κ r, (∀ d ∈ ds, d.wf) → nOfC ds κ = some r → ∃ res, κ res = some r ∧ evFn nOfE Try.f32 ds = some res := fun ds κ r hw h => by
  unfold nOfC at h
  split at h
  case h_2 => cases h
  rename_i n
  exact ⟨_, h, nOf_ev n⟩
theorem nOf_fn : FnOK Try.prog 32 nOfC := fnOK_mk T mixed Try.func32 (by kernel_rfl) (fns := [(29, nTrimC)]) (lps := []) (live := []) (out := []) (fuel := 0) (give := (fun _ => false)) ⟨nTrim_fn, trivial⟩ trivial nOf_he
abbrev nLenC := lenC
def nLenE : Env := mkE ty [(59, nSizeC), (84, len64C)] [] [] [] 0 (fun _ => false)
theorem nLen_ev (xs : List Int) : evFn nLenE Try.f60 [.w .u64 xs] =
    (cond ((↑(wlen (val xs)) : Int) == 0)
     (some [(.mine, .p (.int .i64 (0)))])
     (cond (decide
      (0 ≤ IntKind.i64.wrap ((↑(wlen (val xs)) : Int) - 1) ∧
        IntKind.i64.wrap ((↑(wlen (val xs)) : Int) - 1) < (↑xs.length : Int)))
      (cond (decide ((IntKind.i64.wrap ((↑(wlen (val xs)) : Int) - 1)).toNat < xs.length))
       (some [(.mine, .p (.int .i64 (IntKind.i64.wrap
      (IntKind.i64.wrap (64 * IntKind.i64.wrap ((↑(wlen (val xs)) : Int) - 1)) +
        (↑(bitlen (xs.getD (IntKind.i64.wrap ((↑(wlen (val xs)) : Int) - 1)).toNat 0).toNat) : Int)))))])
       none)
      none)) := by kernel_rfl

theorem nLen_he : ∀ ds κ r, (∀ d ∈ ds, d.wf) → nLenC ds κ = some r → ∃ res, κ res = some r ∧ evFn nLenE Try.f60 ds = some res := fun ds κ r hw h => by
  unfold nLenC lenC at h
  split at h
  case h_2 => cases h
  rename_i xs
  refine ⟨_, h, (nLen_ev xs).trans ?_⟩
  obtain ⟨hl, hx⟩ := wfW hw (xs := xs) (by simp)
  have hwl := wlen_val hx
  by_cases h0 : val xs = 0
  · rw [h0]
    rfl
  · have hn : 0 < wlen (val xs) := Nat.pos_of_ne_zero fun e => h0 (wlen_eq_zero.1 e)
    have hb := bitlen_words h0
    have h64 := bitlen_le64 (n := val xs / 18446744073709551616 ^ (wlen (val xs) - 1)) (by
      rw [Nat.div_lt_iff_lt_mul (pow_pos64 _), Nat.mul_comm, ← Nat.pow_succ, show (wlen (val xs) - 1).succ = wlen (val xs) by omega]
      exact lt_wlen _)
    rw [beq_eq_false_iff_ne.2 (show ((wlen (val xs) : Nat) : Int) ≠ 0 by omega), cond_false, i64_wrap (x := ((wlen (val xs) : Nat) : Int) - 1) (by omega) (by omega), show ((wlen (val xs) : Nat) : Int) - 1 = ((wlen (val xs) - 1 : Nat) : Int) by omega, decide_eq_true (by omega), cond_true, Int.toNat_natCast, decide_eq_true (by omega), cond_true,
      getD_val hx, Int.toNat_natCast, Nat.mod_eq_of_lt (by
        rw [Nat.div_lt_iff_lt_mul (pow_pos64 _), Nat.mul_comm, ← Nat.pow_succ, show (wlen (val xs) - 1).succ = wlen (val xs) by omega]
        exact lt_wlen _)]
    rw [i64_wrap (x := 64 * ((wlen (val xs) - 1 : Nat) : Int)) (by omega) (by omega), i64_wrap (by omega) (by omega)]
    rw [hb]
    congr 4
theorem nLen_fn : FnOK Try.prog 60 nLenC := fnOK_mk T mixed Try.func60 (by kernel_rfl) (fns := [(59, nSizeC), (84, len64C)]) (lps := []) (live := []) (out := []) (fuel := 0) (give := (fun _ => false)) ⟨nSize_fn, len64_fn, trivial⟩ trivial nLen_he

/-! ### Cmp -/
abbrev nCmpC := cmpC
def nCmpL : LpC := lpC 49 [0, 1, 5] fun vs m κ => match vs, m with
  | [.o (.s 0 0 n), .o (.s 1 0 n'), .o (.p (.int .i64 i))], [(_, .w .u64 n1 xs), (_, .w .u64 n2 ys)] => cond (decide (i + 1 = (n : Int) ∧ n = n' ∧ n ≤ n1 ∧ n' ≤ n2 ∧ n ≤ 281474976710656))
    (cond (decide (val (xs.take n) = val (ys.take n))) (κ (.exit 0) (lay 49 [] []) []) (κ .ret (lay 49 [4] [.o (.p (.int .i64 (cmpI (val (xs.take n)) (val (ys.take n)))))]) [])) none
  | _, _ => none
def nCmpE : Env := mkE ty [(59, nSizeC)] [(0, nCmpL)] [(0, [0, 1, 5])] [(0, [4])] 0 (fun _ => false)
def nCmpSt (n n' : Nat) (i : Int) : List V := lay 49 [0, 1, 5] [.o (.s 0 0 n), .o (.s 1 0 n'), .o (.p (.int .i64 i))]
theorem nCmp_round (n n' : Nat) (i : Int) (o o' : Own) (n1 n2 : Nat) (xs ys : List Int) (f : Nat) (κ : X → List V → Mem → R) : lx nCmpE Try.f36 0 (f + 1) (nCmpSt n n' i) [(o, .w .u64 n1 xs), (o', .w .u64 n2 ys)] κ =
    (cond (decide (i ≥ 0))
     (cond (decide (0 ≤ i ∧ i < (↑n : Int)))
      (cond (decide (0 + i.toNat * 1 < n1))
       (cond (decide (0 ≤ i ∧ i < (↑n' : Int)))
        (cond (decide (0 + i.toNat * 1 < n2))
         (cond (xs.getD (0 + i.toNat * 1) 0 != ys.getD (0 + i.toNat * 1) 0)
          (cond (decide (0 ≤ i ∧ i < (↑n : Int)))
           (cond (decide (0 + i.toNat * 1 < n1))
            (cond (decide (0 ≤ i ∧ i < (↑n' : Int)))
             (cond (decide (0 + i.toNat * 1 < n2))
              (cond (decide (xs.getD (0 + i.toNat * 1) 0 < ys.getD (0 + i.toNat * 1) 0))
               (κ .ret (lay 49 [4] [.o (.p (.int .i64 (-1)))]) [])
               (κ .ret (lay 49 [4] [.o (.p (.int .i64 (1)))]) []))
              none)
             none)
            none)
           none)
          (lx nCmpE Try.f36 0 f (lay 49 [0, 1, 5] [.o (.s 0 (0) (n)), .o (.s 1 (0) (n')), .o (.p (.int .i64 (IntKind.i64.wrap (i - 1))))]) [(o, .w .u64 (n1) (xs)), (o', .w .u64 (n2) (ys))] κ))
         none)
        none)
       none)
      none)
     (κ (.exit 0) (lay 49 [] []) [])) := by kernel_rfl
theorem nCmp_ev (xs ys : List Int) : evFn nCmpE Try.f36 [.w .u64 xs, .w .u64 ys] =
    (cond (decide (0 ≤ (↑(wlen (val xs)) : Int) ∧ (↑(wlen (val xs)) : Int) ≤ (↑xs.length : Int)))
     (cond (decide (0 ≤ (↑(wlen (val ys)) : Int) ∧ (↑(wlen (val ys)) : Int) ≤ (↑ys.length : Int)))
      (cond ((↑((↑(wlen (val xs)) : Int).toNat - 0) : Int) != (↑((↑(wlen (val ys)) : Int).toNat - 0) : Int))
       (cond (decide ((↑((↑(wlen (val xs)) : Int).toNat - 0) : Int) < (↑((↑(wlen (val ys)) : Int).toNat - 0) : Int)))
        (some [(.mine, .p (.int .i64 (-1)))])
        (some [(.mine, .p (.int .i64 (1)))]))
       (cond (decide
      (IntKind.i64.wrap ((↑((↑(wlen (val xs)) : Int).toNat - 0) : Int) - 1) + 1 =
          (↑((↑(wlen (val xs)) : Int).toNat - 0) : Int) ∧
        (↑(wlen (val xs)) : Int).toNat - 0 = (↑(wlen (val ys)) : Int).toNat - 0 ∧
          (↑(wlen (val xs)) : Int).toNat - 0 ≤ xs.length ∧
            (↑(wlen (val ys)) : Int).toNat - 0 ≤ ys.length ∧ (↑(wlen (val xs)) : Int).toNat - 0 ≤ 281474976710656))
        (cond (decide
      (val (List.take ((↑(wlen (val xs)) : Int).toNat - 0) xs) = val (List.take ((↑(wlen (val xs)) : Int).toNat - 0) ys)))
         (some [(.mine, .p (.int .i64 (0)))])
         (some [(.mine, .p (.int .i64 (cmpI (val (List.take ((↑(wlen (val xs)) : Int).toNat - 0) xs)) (val (List.take ((↑(wlen (val xs)) : Int).toNat - 0) ys)))))]))
        none))
      none)
     none) := by kernel_rfl

theorem at_take {xs : List Int} {n i : Nat} (h : i < n) : xs.getD i 0 = (xs.take n).getD i 0 := by
  simp [List.getD_eq_getElem?_getD, h]
theorem nCmp_loop (xs ys : List Int) (hx : inR .u64 xs) (hy : inR .u64 ys) (o o' : Own) (n n1 n2 : Nat) (h1 : n ≤ n1) (h2 : n ≤ n2) (κ : X → List V → Mem → R) : ∀ (j : Nat), j ≤ n → j ≤ 281474976710657 → val ((xs.take n).drop j) = val ((ys.take n).drop j) →
    lx nCmpE Try.f36 0 (j + 1) (nCmpSt n n ((j : Int) - 1)) [(o, .w .u64 n1 xs), (o', .w .u64 n2 ys)] κ =
      cond (decide (val (xs.take n) = val (ys.take n))) (κ (.exit 0) (lay 49 [] []) []) (κ .ret (lay 49 [4] [.o (.p (.int .i64 (cmpI (val (xs.take n)) (val (ys.take n)))))]) []) := by
  intro j
  induction j with
  | zero =>
    intro _ _ he
    rw [nCmp_round]
    have : val (xs.take n) = val (ys.take n) := by simpa using he
    simp [this]
  | succ j ih =>
    intro hjn hj he
    rw [nCmp_round]
    have e1 : ((j + 1 : Nat) : Int) - 1 = (j : Int) := by omega
    have hx' := inR_take hx n
    have hy' := inR_take hy n
    rw [e1, Int.toNat_natCast, Nat.zero_add, Nat.mul_one, i64_wrap (by omega) (by omega), at_take (xs := xs) (show j < n by omega), at_take (xs := ys) (show j < n by omega)]
    rw [decide_eq_true (show (j : Int) ≥ 0 by omega), cond_true, decide_eq_true (show (0 : Int) ≤ (j : Int) ∧ (j : Int) < (n : Int) by omega), cond_true, cond_true, cond_true, cond_true, decide_eq_true (show j < n1 by omega), cond_true, cond_true, decide_eq_true (show j < n2 by omega), cond_true, cond_true]
    generalize hX : xs.take n = X at *
    generalize hY : ys.take n = Y at *
    by_cases h3 : X.getD j 0 < Y.getD j 0
    · have h4 := val_lt_of hx' hy' j he h3
      rw [bne_iff_ne.2 (by omega), cond_true, decide_eq_true h3, cond_true, decide_eq_false (show ¬ val X = val Y by omega), cond_false]
      simp [cmpI, h4]
    · by_cases h5 : Y.getD j 0 < X.getD j 0
      · have h4 := val_lt_of hy' hx' j he.symm h5
        rw [bne_iff_ne.2 (by omega), cond_true, decide_eq_false h3, cond_false, decide_eq_false (show ¬ val X = val Y by omega), cond_false]
        have : ¬ val X < val Y := by omega
        simp [cmpI, h4, this]
      · have e : X.getD j 0 = Y.getD j 0 := by omega
        rw [e, bne_self_eq_false, cond_false]
        refine ih (by omega) (by omega) ?_
        rw [val_drop_cons X, val_drop_cons Y, he, e]
theorem nCmpL_ok : LoopOK nCmpE 0 (lbody Try.f36 0) nCmpL := loopOK_lx fun vs m κ r hv hm h => by
  split at h
  case h_2 => cases h
  rename_i n n' i o n1 xs o' n2 ys
  replace h := cond_none h
  obtain ⟨hc, h⟩ := h
  obtain ⟨h1, rfl, h3, h4, h5⟩ := of_decide_eq_true hc
  have hx := hm 0 _ _ rfl
  have hy := hm 1 _ _ rfl
  have key := nCmp_loop xs ys hx.2.2 hy.2.2 o o' n n1 n2 h3 h4 κ n (Nat.le_refl _) (by omega) (by rw [List.drop_eq_nil_of_le (by simp; omega), List.drop_eq_nil_of_le (by simp; omega)])
  have e : (n : Int) - 1 = i := by omega
  rw [e] at key
  exact ⟨_, key.trans h⟩
theorem nCmp_he : ∀ ds κ r, (∀ d ∈ ds, d.wf) → nCmpC ds κ = some r → ∃ res, κ res = some r ∧ evFn nCmpE Try.f36 ds = some res := fun ds κ r hw h => by
  unfold nCmpC cmpC at h
  split at h
  case h_2 => cases h
  rename_i xs ys
  refine ⟨_, h, (nCmp_ev xs ys).trans ?_⟩
  obtain ⟨hl, hx⟩ := wfW hw (xs := xs) (by simp)
  obtain ⟨hl', hy⟩ := wfW hw (xs := ys) (by simp)
  have w1 := wlen_val hx
  have w2 := wlen_val hy
  rw [cut_bds hx, cond_true, cut_bds hy, cond_true, Int.toNat_natCast, Int.toNat_natCast, Nat.sub_zero, Nat.sub_zero]
  have lt_of_wlen : ∀ {a b : Nat}, wlen a < wlen b → a < b := fun {a b} h => by
    rcases Nat.lt_or_ge a b with h1 | h1
    · exact h1
    · have := wlen_mono h1; omega
  by_cases he : wlen (val xs) = wlen (val ys)
  · rw [← he, bne_self_eq_false, cond_false, take_words hx, he, take_words hy, val_words, val_words, decide_eq_true (by
      rw [i64_wrap (by omega) (by omega)]
      refine ⟨by omega, rfl, by omega, by omega, by omega⟩), cond_true]
    by_cases h0 : val xs = val ys
    · rw [decide_eq_true h0, cond_true, h0]
      simp [cmpI]
    · rw [decide_eq_false h0, cond_false]
  · rw [bne_iff_ne.2 (by omega), cond_true]
    by_cases h1 : wlen (val xs) < wlen (val ys)
    · rw [decide_eq_true (by omega), cond_true]
      have := lt_of_wlen h1
      simp [cmpI, this]
    · rw [decide_eq_false (by omega), cond_false]
      have h2 := lt_of_wlen (show wlen (val ys) < wlen (val xs) by omega)
      have h3 : ¬ val xs < val ys := by omega
      simp [cmpI, h2, h3]
theorem nCmp_fn : FnOK Try.prog 36 nCmpC := fnOK_mk T mixed Try.func36 (by kernel_rfl) (fns := [(59, nSizeC)]) (lps := [(0, nCmpL)]) (live := [(0, [0, 1, 5])]) (out := [(0, [4])]) (fuel := 0) (give := (fun _ => false)) ⟨nSize_fn, trivial⟩ ⟨nCmpL_ok, trivial⟩ nCmp_he

/-! ### Add -/
abbrev nAddC := addC
def nAddL : LpC := lpC 64 [0, 1, 5, 6, 29, 30, 31] fun vs m κ => match vs, m with
  | [.o (.s 0 0 l1), .o (.s 1 0 l2), .o (.f 2), .o (.p (.int .u64 c)), .o (.s 0 0 l1'), .o (.p (.int .i64 n)), .o (.p (.int .i64 i))], [(o, .w .u64 n1 xs), (_, .w .u64 n2 ys), (.mine, .w .u64 n3 out)] =>
    cond (decide (c = 0 ∧ n = (l1 : Int) ∧ l1' = l1 ∧ i = 0 ∧ l2 ≤ l1 ∧ l1 ≤ n1 ∧ l2 ≤ n2 ∧ n3 = l1 + 1 ∧ val out = 0))
      (κ (.exit 0) (lay 64 [0, 5, 6] [.o (.s 0 0 l1), .o (.f 1), .o (.p (.int .u64 (((val (xs.take l1) + val (ys.take l2)) / 18446744073709551616 ^ l1 : Nat) : Int)))]) [(o, .w .u64 n1 xs), (.mine, .w .u64 n3 (wordsN l1 (val (xs.take l1) + val (ys.take l2)) ++ [0]))]) none
  | _, _ => none
def nAddE : Env := mkE ty [(59, nSizeC), (48, add64C)] [(0, nAddL)] [(0, [0, 1, 5, 6, 29, 30, 31])] [(0, [0, 5, 6])] 0 (fun _ => false)
def nAddSt (l1 l2 : Nat) (c n i : Int) : List V := lay 64 [0, 1, 5, 6, 29, 30, 31] [.o (.s 0 0 l1), .o (.s 1 0 l2), .o (.f 2), .o (.p (.int .u64 c)), .o (.s 0 0 l1), .o (.p (.int .i64 n)), .o (.p (.int .i64 i))]
theorem nAdd_round (l1 l2 : Nat) (c n i : Int) (o o' : Own) (n1 n2 n3 : Nat) (xs ys out : List Int) (f : Nat) (κ : X → List V → Mem → R) : lx nAddE Try.f64 0 (f + 1) (nAddSt l1 l2 c n i) [(o, .w .u64 n1 xs), (o', .w .u64 n2 ys), (.mine, .w .u64 n3 out)] κ =
    (cond (decide (i < n))
     (cond (decide (0 ≤ i ∧ i < (↑l1 : Int)))
      (cond (decide (0 + i.toNat * 1 < n1))
       (cond (decide (i < (↑l2 : Int)))
        (cond (decide (0 ≤ i ∧ i < (↑l2 : Int)))
         (cond (decide (0 + i.toNat * 1 < n2))
          (cond (decide (c ≤ 1))
           (cond (decide (0 ≤ i ∧ i < (↑n3 : Int)))
            (cond (decide (i.toNat < n3 ∧ IntKind.u64 = IntKind.u64 ∧ 1 = 1))
             (lx nAddE Try.f64 0 f (lay 64 [0, 1, 5, 6, 29, 30, 31] [.o (.s 0 (0) (l1)), .o (.s 1 (0) (l2)), .o (.f 2), .o (.p (.int .u64 ((xs.getD (0 + i.toNat * 1) 0 + ys.getD (0 + i.toNat * 1) 0 + c) / 18446744073709551616))), .o (.s 0 (0) (l1)), .o (.p (.int .i64 (n))), .o (.p (.int .i64 (IntKind.i64.wrap (i + 1))))]) [(o, .w .u64 (n1) (xs)), (o', .w .u64 (n2) (ys)), (.mine, .w .u64 (n3) (out.set i.toNat ((xs.getD (0 + i.toNat * 1) 0 + ys.getD (0 + i.toNat * 1) 0 + c) % 18446744073709551616)))] κ)
             none)
            none)
           none)
          none)
         none)
        (cond (decide (c ≤ 1))
         (cond (decide (0 ≤ i ∧ i < (↑n3 : Int)))
          (cond (decide (i.toNat < n3 ∧ IntKind.u64 = IntKind.u64 ∧ 1 = 1))
           (lx nAddE Try.f64 0 f (lay 64 [0, 1, 5, 6, 29, 30, 31] [.o (.s 0 (0) (l1)), .o (.s 1 (0) (l2)), .o (.f 2), .o (.p (.int .u64 ((xs.getD (0 + i.toNat * 1) 0 + 0 + c) / 18446744073709551616))), .o (.s 0 (0) (l1)), .o (.p (.int .i64 (n))), .o (.p (.int .i64 (IntKind.i64.wrap (i + 1))))]) [(o, .w .u64 (n1) (xs)), (o', .w .u64 (n2) (ys)), (.mine, .w .u64 (n3) (out.set i.toNat ((xs.getD (0 + i.toNat * 1) 0 + 0 + c) % 18446744073709551616)))] κ)
           none)
          none)
         none))
       none)
      none)
     (κ (.exit 0) (lay 64 [0, 5, 6] [.o (.s 0 (0) (l1)), .o (.f 1), .o (.p (.int .u64 (c)))]) [(o, .w .u64 (n1) (xs)), (.mine, .w .u64 (n3) (out))])) := by kernel_rfl
theorem set_end {l S : Nat} (h : S < 18446744073709551616 ^ (l + 1)) : (wordsN l S ++ [0]).set l ((S / 18446744073709551616 ^ l : Nat) : Int) = wordsN (l + 1) S := by
  rw [List.set_append_right _ _ (by rw [length_wordsN]; omega), length_wordsN, Nat.sub_self, wordsN_succ, Nat.mod_eq_of_lt (a := S / 18446744073709551616 ^ l)]
  · rfl
  · rw [Nat.div_lt_iff_lt_mul (pow_pos64 _), Nat.mul_comm, ← Nat.pow_succ]
    exact h
theorem nAdd_loop (xs ys : List Int) (hx : inR .u64 xs) (hy : inR .u64 ys) (o o' : Own) (l1 l2 n1 n2 n3 : Nat) (h3 : n3 = l1 + 1) (hb : l1 ≤ 140737488355328) (h2 : l2 ≤ l1) (g1 : l1 ≤ n1) (g2 : l2 ≤ n2) (κ : X → List V → Mem → R) : ∀ (k i : Nat) (c : Nat) (out : List Int), i + k = l1 → c ≤ 1 → inR .u64 out → out.length = n3 → out.drop i = List.replicate (n3 - i) 0 →
    val (out.take i) + 18446744073709551616 ^ i * c = val (xs.take l1) % 18446744073709551616 ^ i + val (ys.take l2) % 18446744073709551616 ^ i →
    lx nAddE Try.f64 0 (k + 1) (nAddSt l1 l2 c l1 i) [(o, .w .u64 n1 xs), (o', .w .u64 n2 ys), (.mine, .w .u64 n3 out)] κ =
      κ (.exit 0) (lay 64 [0, 5, 6] [.o (.s 0 0 l1), .o (.f 1), .o (.p (.int .u64 (((val (xs.take l1) + val (ys.take l2)) / 18446744073709551616 ^ l1 : Nat) : Int)))]) [(o, .w .u64 n1 xs), (.mine, .w .u64 n3 (wordsN l1 (val (xs.take l1) + val (ys.take l2)) ++ [0]))] := by
  intro k
  induction k with
  | zero =>
    intro i c out hi hc hR hl hd hv
    obtain rfl : i = l1 := by omega
    rw [nAdd_round, decide_eq_false (by omega), cond_false]
    have hX : val (xs.take i) < 18446744073709551616 ^ i := Nat.lt_of_lt_of_le (val_lt (inR_take hx i)) (Nat.pow_le_pow_right (by decide) (by rw [List.length_take]; omega))
    have hY : val (ys.take l2) < 18446744073709551616 ^ i := Nat.lt_of_lt_of_le (val_lt (inR_take hy l2)) (Nat.pow_le_pow_right (by decide) (by rw [List.length_take]; omega))
    rw [Nat.mod_eq_of_lt hX, Nat.mod_eq_of_lt hY] at hv
    obtain ⟨e1, e2⟩ := add_end (inR_take hR i) (by rw [List.length_take]; omega) hv
    have e3 : out = out.take i ++ [0] := by
      have := (List.take_append_drop i out).symm
      rw [hd, h3, show i + 1 - i = 1 by omega] at this
      exact this
    rw [e3, List.take_append_of_le_length (by rw [List.length_take]; omega), List.take_take, Nat.min_self] at e1
    rw [e3, e1, ← e2]
  | succ k ih =>
    intro i c out hi hc hR hl hd hv
    have e1 : ((i : Nat) : Int).toNat = i := Int.toNat_natCast i
    have hx' := inR_take hx l1
    have hy' := inR_take hy l2
    have hd' : (out.drop (i + 1)) = List.replicate (n3 - (i + 1)) 0 := by
      rw [← List.drop_drop, hd, List.drop_replicate]
      congr 1
    rw [nAdd_round, decide_eq_true (show (i : Int) < (l1 : Int) by omega), cond_true, decide_eq_true (show (0 : Int) ≤ (i : Int) ∧ (i : Int) < (l1 : Int) by omega), cond_true, e1, Nat.zero_add, Nat.mul_one, decide_eq_true (show i < n1 by omega), cond_true, at_take (xs := xs) (show i < l1 by omega), i64_wrap (by omega) (by omega)]
    rw [decide_eq_true (show (c : Int) ≤ 1 by omega), cond_true, cond_true, decide_eq_true (show (0 : Int) ≤ (i : Int) ∧ (i : Int) < (n3 : Int) by omega), cond_true, cond_true, decide_eq_true (show i < n3 ∧ IntKind.u64 = IntKind.u64 ∧ 1 = 1 from ⟨by omega, rfl, rfl⟩), cond_true, cond_true]
    have ax := inR_at hx' i
    have ay := inR_at hy' i
    have key : ∀ y : Int, y = (ys.take l2).getD i 0 → lx nAddE Try.f64 0 (k + 1) (nAddSt l1 l2 (((xs.take l1).getD i 0 + y + (c : Int)) / 18446744073709551616) l1 ((i : Int) + 1)) [(o, .w .u64 n1 xs), (o', .w .u64 n2 ys), (.mine, .w .u64 n3 (out.set i (((xs.take l1).getD i 0 + y + (c : Int)) % 18446744073709551616)))] κ =
        κ (.exit 0) (lay 64 [0, 5, 6] [.o (.s 0 0 l1), .o (.f 1), .o (.p (.int .u64 (((val (xs.take l1) + val (ys.take l2)) / 18446744073709551616 ^ l1 : Nat) : Int)))]) [(o, .w .u64 n1 xs), (.mine, .w .u64 n3 (wordsN l1 (val (xs.take l1) + val (ys.take l2)) ++ [0]))] := by
      intro y hY
      rw [← hY] at ay
      generalize hX : (xs.take l1).getD i 0 = x at *
      have ec : (x + y + (c : Int)) / 18446744073709551616 = (((x.toNat + y.toNat + c) / 18446744073709551616 : Nat) : Int) := by omega
      have es : ((x + y + (c : Int)) % 18446744073709551616).toNat = (x.toNat + y.toNat + c) % 18446744073709551616 := by omega
      rw [ec]
      refine ih (i + 1) _ _ (by omega) (by omega) (inR_set hR i (by omega) (by omega)) (by simpa using hl) ?_ ?_
      · rw [List.drop_set_of_lt (by omega)]
        exact hd'
      rw [val_take_set (by omega), es, mod_step_at hx', mod_step_at hy', hX, ← hY, Nat.pow_succ]
      exact carry_step hv (by omega)
    by_cases h5 : i < l2
    · rw [decide_eq_true (show (i : Int) < (l2 : Int) by omega), cond_true, decide_eq_true (show (0 : Int) ≤ (i : Int) ∧ (i : Int) < (l2 : Int) by omega), cond_true, decide_eq_true (show i < n2 by omega), cond_true]
      exact key _ (at_take h5)
    · rw [decide_eq_false (show ¬ (i : Int) < (l2 : Int) by omega), cond_false]
      exact key 0 (by rw [List.getD_eq_getElem?_getD, List.getElem?_eq_none (by rw [List.length_take]; omega)]; rfl)
theorem nAddL_ok : LoopOK nAddE 0 (lbody Try.f64 0) nAddL := loopOK_lx fun vs m κ r hv hm h => by
  split at h
  case h_2 => cases h
  rename_i l1 l2 c l1' n i o n1 xs o' n2 ys n3 out
  replace h := cond_none h
  obtain ⟨hc, h⟩ := h
  obtain ⟨rfl, rfl, rfl, rfl, h2, h3, h4, h5, h6⟩ := of_decide_eq_true hc
  have hx := hm 0 _ _ rfl
  have hy := hm 1 _ _ rfl
  have hz := hm 2 _ _ rfl
  have h47 : lim = 140737488355328 := by decide
  have h7 : out = List.replicate n3 0 := val_inj hz.2.2 (inR_rep n3) (by rw [hz.1, List.length_replicate]) (by rw [h6, val_zeros])
  exact ⟨_, (nAdd_loop xs ys hx.2.2 hy.2.2 o o' _ l2 n1 n2 n3 h5 (by have := hz.2.1; omega) h2 h3 h4 κ _ 0 0 out (Nat.zero_add _) (by omega) hz.2.2 hz.1 (by rw [h7]; rfl) (by simp [val, Nat.mod_one])).trans h⟩
def nAddT (l1 l2 : Nat) (xs ys : List Int) : R :=
  let n := IntKind.i64.wrap ((l1 : Int) + 1)
  let L := (wordsN l1 (val (xs.take l1) + val (ys.take l2)) ++ [0]).set ((l1 : Int).toNat) (((val (xs.take l1) + val (ys.take l2)) / 18446744073709551616 ^ l1 : Nat) : Int)
  cond (decide (0 ≤ n ∧ n ≤ n ∧ n ≤ 17592186044416)) (cond (decide ((0 : Int) = 0 ∧ (l1 : Int) = (l1 : Int) ∧ l1 = l1 ∧ (0 : Int) = 0 ∧ l2 ≤ l1 ∧ l1 ≤ xs.length ∧ l2 ≤ ys.length ∧ n.toNat = l1 + 1 ∧ val (List.replicate n.toNat 0) = 0))
    (cond (decide (0 ≤ (l1 : Int) ∧ (l1 : Int) < (n.toNat : Int))) (cond (decide ((l1 : Int).toNat < n.toNat ∧ IntKind.u64 = IntKind.u64 ∧ (Ty.i .u64).size = 1))
      (cond (decide (0 ≤ ((wlen (val L) : Nat) : Int) ∧ ((wlen (val L) : Nat) : Int) ≤ (n.toNat : Int))) (cond (decide (0 + (((wlen (val L) : Nat) : Int).toNat - 0) ≤ n.toNat)) (some [(.mine, .w .u64 (cut L))]) none) none) none) none) none) none
theorem nAdd_ev (xs ys : List Int) : evFn nAddE Try.f64 [.w .u64 xs, .w .u64 ys] =
    cond (decide (0 ≤ ((wlen (val xs) : Nat) : Int) ∧ ((wlen (val xs) : Nat) : Int) ≤ (xs.length : Int))) (cond (decide (0 ≤ ((wlen (val ys) : Nat) : Int) ∧ ((wlen (val ys) : Nat) : Int) ≤ (ys.length : Int)))
      (cond (decide (((((wlen (val xs) : Nat) : Int).toNat - 0 : Nat) : Int) < ((((wlen (val ys) : Nat) : Int).toNat - 0 : Nat) : Int)))
        (nAddT (((wlen (val ys) : Nat) : Int).toNat - 0) (((wlen (val xs) : Nat) : Int).toNat - 0) ys xs)
        (nAddT (((wlen (val xs) : Nat) : Int).toNat - 0) (((wlen (val ys) : Nat) : Int).toNat - 0) xs ys)) none) none := by kernel_rfl
theorem nAddT_eq {l1 l2 : Nat} {xs ys : List Int} (hx : inR .u64 xs) (hy : inR .u64 ys) (h : l2 ≤ l1) (h1 : l1 ≤ xs.length) (h2 : l2 ≤ ys.length) (hl : l1 ≤ 549755813888) : nAddT l1 l2 xs ys = some [(.mine, .w .u64 (words (val (xs.take l1) + val (ys.take l2))))] := by
  have hX : val (xs.take l1) < 18446744073709551616 ^ l1 := Nat.lt_of_lt_of_le (val_lt (inR_take hx l1)) (Nat.pow_le_pow_right (by decide) (by rw [List.length_take]; omega))
  have hY : val (ys.take l2) < 18446744073709551616 ^ l1 := Nat.lt_of_lt_of_le (val_lt (inR_take hy l2)) (Nat.pow_le_pow_right (by decide) (by rw [List.length_take]; omega))
  have hS : val (xs.take l1) + val (ys.take l2) < 18446744073709551616 ^ (l1 + 1) := by rw [Nat.pow_succ]; omega
  unfold nAddT
  dsimp only
  generalize val (xs.take l1) + val (ys.take l2) = S at *
  rw [Int.toNat_natCast, set_end hS, i64_wrap (by omega) (by omega), show ((l1 : Int) + 1).toNat = l1 + 1 by omega, val_zeros]
  have hw := wlen_val (inR_wordsN (l1 + 1) S)
  rw [length_wordsN] at hw
  rw [cut_eq (inR_wordsN _ _), decide_eq_true (by omega), cond_true, decide_eq_true ⟨rfl, rfl, rfl, rfl, h, h1, h2, rfl, rfl⟩, cond_true, decide_eq_true (by omega), cond_true, decide_eq_true ⟨by omega, rfl, rfl⟩, cond_true, decide_eq_true (by omega), cond_true, decide_eq_true (by omega), cond_true, val_wordsN, Nat.mod_eq_of_lt hS]
theorem nAdd_he : ∀ ds κ r, (∀ d ∈ ds, d.wf) → nAddC ds κ = some r → ∃ res, κ res = some r ∧ evFn nAddE Try.f64 ds = some res := fun ds κ r hw h => by
  unfold nAddC addC at h
  split at h
  case h_2 => cases h
  rename_i xs ys
  obtain ⟨hc, h⟩ := cond_none h
  have hc := of_decide_eq_true hc
  have hx := (wfW hw (xs := xs) (by simp)).2
  have hy := (wfW hw (xs := ys) (by simp)).2
  have w1 := wlen_val hx
  have w2 := wlen_val hy
  refine ⟨_, h, (nAdd_ev xs ys).trans ?_⟩
  rw [cut_bds hx, cond_true, cut_bds hy, cond_true, Int.toNat_natCast, Int.toNat_natCast, Nat.sub_zero, Nat.sub_zero]
  by_cases h1 : wlen (val xs) < wlen (val ys)
  · rw [decide_eq_true (by omega), cond_true, nAddT_eq hy hx (by omega) w2 w1 (by omega), take_words hx, take_words hy, val_words, val_words, Nat.add_comm]
  · rw [decide_eq_false (by omega), cond_false, nAddT_eq hx hy (by omega) w1 w2 (by omega), take_words hx, take_words hy, val_words, val_words]
theorem nAdd_fn : FnOK Try.prog 64 nAddC := fnOK_mk T mixed Try.func64 (by kernel_rfl) (fns := [(59, nSizeC), (48, add64C)]) (lps := [(0, nAddL)]) (live := [(0, [0, 1, 5, 6, 29, 30, 31])]) (out := [(0, [0, 5, 6])]) (fuel := 0) (give := (fun _ => false)) ⟨nSize_fn, add64_fn, trivial⟩ ⟨nAddL_ok, trivial⟩ nAdd_he

/-! ### Sub -/
def nSubC : FnC := fun ds κ => match ds with
  | [.w .u64 xs, .w .u64 ys] => cond (decide (xs.length ≤ 549755813888 ∧ ys.length ≤ 549755813888)) (cond (decide (val xs < val ys)) (κ [(.new, .w .u64 []), (.mine, .p (.int .i64 3))]) (κ [(.new, .w .u64 (words (val xs - val ys))), (.mine, .p (.int .i64 0))])) none
  | _ => none
def nSubL : LpC := lpC 47 [1, 6, 7, 17, 18] fun vs m κ => match vs, m with
  | [.o (.f 0), .o (.f 1), .o (.p (.int .u64 c)), .o (.p (.int .i64 n)), .o (.p (.int .i64 i))], [(_, .w .u64 n1 ys), (.mine, .w .u64 n2 out)] =>
    cond (decide (c = 0 ∧ n = (n2 : Int) ∧ i = 0 ∧ val ys ≤ val out)) (κ (.exit 0) (lay 47 [6] [.o (.f 0)]) [(.mine, .w .u64 n2 (wordsN n2 (val out - val ys)))]) none
  | _, _ => none
def nSubE : Env := mkE ty [(36, nCmpC), (29, nTrimC), (67, sub64C), (59, nSizeC)] [(0, nSubL)] [(0, [1, 6, 7, 17, 18])] [(0, [6])] 0 (fun _ => false)
def nSubSt (c n i : Int) : List V := lay 47 [1, 6, 7, 17, 18] [.o (.f 0), .o (.f 1), .o (.p (.int .u64 c)), .o (.p (.int .i64 n)), .o (.p (.int .i64 i))]
theorem nSub_round (c n i : Int) (o : Own) (n1 n2 : Nat) (ys out : List Int) (f : Nat) (κ : X → List V → Mem → R) : lx nSubE Try.f38 0 (f + 1) (nSubSt c n i) [(o, .w .u64 n1 ys), (.mine, .w .u64 n2 out)] κ =
    (cond (decide (i < n))
     (cond (decide (i < (↑n1 : Int)))
      (cond (decide ((0 : Int) ≤ i ∧ i < (↑n1 : Int)))
       (cond (decide (i.toNat < n1))
        (cond (decide ((0 : Int) ≤ i ∧ i < (↑n2 : Int)))
         (cond (decide (i.toNat < n2))
          (cond (decide (c ≤ (1 : Int)))
           (cond (decide ((0 : Int) ≤ i ∧ i < (↑n2 : Int)))
            (cond (decide (i.toNat < n2 ∧ IntKind.u64 = IntKind.u64 ∧ 1 = 1))
             (lx nSubE Try.f38 0 f (lay 47 [1, 6, 7, 17, 18] [.o (.f 0), .o (.f 1), .o (.p (.int .u64 (-((out.getD i.toNat (0 : Int) - ys.getD i.toNat (0 : Int) - c) / (18446744073709551616 : Int))))), .o (.p (.int .i64 (n))), .o (.p (.int .i64 (IntKind.i64.wrap (i + (1 : Int)))))]) [(o, .w .u64 (n1) (ys)), (.mine, .w .u64 (n2) (out.set i.toNat ((out.getD i.toNat (0 : Int) - ys.getD i.toNat (0 : Int) - c) % (18446744073709551616 : Int))))] κ)
             none)
            none)
           none)
          none)
         none)
        none)
       none)
      (cond (decide ((0 : Int) ≤ i ∧ i < (↑n2 : Int)))
       (cond (decide (i.toNat < n2))
        (cond (decide (c ≤ (1 : Int)))
         (cond (decide ((0 : Int) ≤ i ∧ i < (↑n2 : Int)))
          (cond (decide (i.toNat < n2 ∧ IntKind.u64 = IntKind.u64 ∧ 1 = 1))
           (lx nSubE Try.f38 0 f (lay 47 [1, 6, 7, 17, 18] [.o (.f 0), .o (.f 1), .o (.p (.int .u64 (-((out.getD i.toNat (0 : Int) - (0 : Int) - c) / (18446744073709551616 : Int))))), .o (.p (.int .i64 (n))), .o (.p (.int .i64 (IntKind.i64.wrap (i + (1 : Int)))))]) [(o, .w .u64 (n1) (ys)), (.mine, .w .u64 (n2) (out.set i.toNat ((out.getD i.toNat (0 : Int) - (0 : Int) - c) % (18446744073709551616 : Int))))] κ)
           none)
          none)
         none)
        none)
       none))
     (κ (.exit 0) (lay 47 [6] [.o (.f 0)]) [(.mine, .w .u64 (n2) (out))])) := by kernel_rfl
theorem nSub_loop (ys : List Int) (hy : inR .u64 ys) (o : Own) (n1 n2 A : Nat) (hn1 : ys.length = n1) (h3 : n2 ≤ 140737488355328) (hle : val ys ≤ A) (κ : X → List V → Mem → R) : ∀ (k i : Nat) (c : Nat) (out : List Int), i + k = n2 → c ≤ 1 → inR .u64 out → out.length = n2 → val (out.drop i) = A / 18446744073709551616 ^ i → A < 18446744073709551616 ^ n2 →
    val (out.take i) + val ys % 18446744073709551616 ^ i = A % 18446744073709551616 ^ i + 18446744073709551616 ^ i * c →
    lx nSubE Try.f38 0 (k + 1) (nSubSt c n2 i) [(o, .w .u64 n1 ys), (.mine, .w .u64 n2 out)] κ = κ (.exit 0) (lay 47 [6] [.o (.f 0)]) [(.mine, .w .u64 n2 (wordsN n2 (A - val ys)))] := by
  intro k
  induction k with
  | zero =>
    intro i c out hi hc hR hl hd hA hv
    obtain rfl : i = n2 := by omega
    rw [nSub_round, decide_eq_false (by omega), cond_false]
    have : out = wordsN i (A - val ys) := by
      refine wordsN_eq hR hl ?_
      rw [List.take_of_length_le (by omega)] at hv
      have hlt := val_lt hR
      rw [hl] at hlt
      rw [Nat.mod_eq_of_lt hA, Nat.mod_eq_of_lt (Nat.lt_of_le_of_lt hle hA)] at hv
      have : c = 0 ∨ c = 1 := by omega
      rcases this with rfl | rfl
      · omega
      · omega
    rw [← this]
  | succ k ih =>
    intro i c out hi hc hR hl hd hA hv
    have e1 : ((i : Nat) : Int).toNat = i := Int.toNat_natCast i
    have ax := inR_at hR i
    have ay := inR_at hy i
    have hX : (out.getD i 0).toNat = A / 18446744073709551616 ^ i % 18446744073709551616 := by
      have := val_drop_cons out i
      rw [hd] at this
      omega
    have hd' : val (out.drop (i + 1)) = A / 18446744073709551616 ^ (i + 1) := by
      have := val_drop_cons out i
      rw [hd] at this
      rw [Nat.pow_succ, ← Nat.div_div_eq_div_mul]
      omega
    rw [nSub_round, decide_eq_true (show (i : Int) < (n2 : Int) by omega), cond_true, e1, i64_wrap (by omega) (by omega), decide_eq_true (show (0 : Int) ≤ (i : Int) ∧ (i : Int) < (n2 : Int) by omega), cond_true, cond_true, decide_eq_true (show i < n2 by omega), cond_true, cond_true,
      decide_eq_true (show (c : Int) ≤ 1 by omega), cond_true, cond_true, cond_true, cond_true, decide_eq_true (show i < n2 ∧ IntKind.u64 = IntKind.u64 ∧ 1 = 1 from ⟨by omega, rfl, rfl⟩), cond_true, cond_true]
    have key : ∀ y : Int, y = ys.getD i 0 → lx nSubE Try.f38 0 (k + 1) (nSubSt (-((out.getD i 0 - y - (c : Int)) / 18446744073709551616)) n2 ((i : Int) + 1)) [(o, .w .u64 n1 ys), (.mine, .w .u64 n2 (out.set i ((out.getD i 0 - y - (c : Int)) % 18446744073709551616)))] κ =
        κ (.exit 0) (lay 47 [6] [.o (.f 0)]) [(.mine, .w .u64 n2 (wordsN n2 (A - val ys)))] := by
      intro y hY
      rw [← hY] at ay
      generalize hx0 : out.getD i 0 = x at *
      obtain ⟨b, hb⟩ : ∃ b : Nat, -((x - y - (c : Int)) / 18446744073709551616) = (b : Int) := ⟨(-((x - y - (c : Int)) / 18446744073709551616)).toNat, by omega⟩
      have es : ((x - y - (c : Int)) % 18446744073709551616).toNat + y.toNat + c = x.toNat + 18446744073709551616 * b := by omega
      rw [hb]
      refine ih (i + 1) _ _ (by omega) (by omega) (inR_set hR i (by omega) (by omega)) (by simpa using hl) ?_ hA ?_
      · rw [List.drop_set_of_lt (by omega)]
        exact hd'
      rw [val_take_set (by omega), mod_step A, ← hX, mod_step_at hy, ← hY, Nat.pow_succ]
      exact borrow_step hv es
    by_cases h5 : i < n1
    · rw [decide_eq_true (show (i : Int) < (n1 : Int) by omega), cond_true, decide_eq_true (show (0 : Int) ≤ (i : Int) ∧ (i : Int) < (n1 : Int) by omega), cond_true, decide_eq_true (show i < n1 by omega), cond_true]
      exact key _ rfl
    · rw [decide_eq_false (show ¬ (i : Int) < (n1 : Int) by omega), cond_false]
      exact key 0 (by rw [List.getD_eq_getElem?_getD, List.getElem?_eq_none (by omega)]; rfl)
theorem nSubL_ok : LoopOK nSubE 0 (lbody Try.f38 0) nSubL := loopOK_lx fun vs m κ r hv hm h => by
  split at h
  case h_2 => cases h
  rename_i c n i o n1 ys n2 out
  replace h := cond_none h
  obtain ⟨hc, h⟩ := h
  obtain ⟨rfl, rfl, rfl, hle⟩ := of_decide_eq_true hc
  have hy := hm 0 _ _ rfl
  have hz := hm 1 _ _ rfl
  have h47 : lim = 140737488355328 := by decide
  exact ⟨_, (nSub_loop ys hy.2.2 o n1 n2 (val out) hy.1 (by have := hz.2.1; omega) hle κ n2 0 0 out (by omega) (by omega) hz.2.2 hz.1 (by simp) (by have := val_lt hz.2.2; rwa [hz.1] at this) (by simp [val, Nat.mod_one])).trans h⟩
theorem nSub_ev (xs ys : List Int) : evFn nSubE Try.f38 [.w .u64 xs, .w .u64 ys] =
    (cond (decide (cmpI (val xs) (val ys) < (0 : Int)))
     (some [(.new, .w .u64 []), (.mine, .p (.int .i64 (3)))])
     (cond (decide (xs.length ≤ 1099511627776))
      (cond (decide
      ((0 : Int) = (0 : Int) ∧
        (↑(words (val xs)).length : Int) = (↑(words (val xs)).length : Int) ∧
          (0 : Int) = (0 : Int) ∧ val ys ≤ val (words (val xs))))
       (cond (decide
      ((0 : Int) ≤ (↑(wlen (val (wordsN (words (val xs)).length (val (words (val xs)) - val ys)))) : Int) ∧
        (↑(wlen (val (wordsN (words (val xs)).length (val (words (val xs)) - val ys)))) : Int) ≤
          (↑(words (val xs)).length : Int)))
        (cond (decide
      (0 +
          ((↑(wlen (val (wordsN (words (val xs)).length (val (words (val xs)) - val ys)))) : Int).toNat - 0) ≤
        (words (val xs)).length))
         (some [(.new, .w .u64 (List.take ((↑(wlen (val (wordsN (words (val xs)).length (val (words (val xs)) - val ys)))) : Int).toNat - 0)
      (List.drop 0 (wordsN (words (val xs)).length (val (words (val xs)) - val ys))))), (.mine, .p (.int .i64 (0)))])
         none)
        none)
       none)
      none)) := by kernel_rfl
theorem cmpI_neg (a b : Nat) : decide (cmpI a b < 0) = decide (a < b) := by
  unfold cmpI
  by_cases h : a < b
  · simp [h]
  · by_cases h2 : b < a <;> simp [h, h2]
theorem nSub_he : ∀ ds κ r, (∀ d ∈ ds, d.wf) → nSubC ds κ = some r → ∃ res, κ res = some r ∧ evFn nSubE Try.f38 ds = some res := fun ds κ r hw h => by
  unfold nSubC at h
  split at h
  case h_2 => cases h
  rename_i xs ys
  obtain ⟨hc, h⟩ := cond_none h
  have hc := of_decide_eq_true hc
  have hx := (wfW hw (xs := xs) (by simp)).2
  rw [nSub_ev, cmpI_neg]
  by_cases h0 : val xs < val ys
  · rw [decide_eq_true h0, cond_true] at h ⊢
    exact ⟨_, h, rfl⟩
  · rw [decide_eq_false h0, cond_false] at h ⊢
    refine ⟨_, h, ?_⟩
    have e1 : val (wordsN (words (val xs)).length (val (words (val xs)) - val ys)) = val xs - val ys := by
      rw [val_wordsN, length_words, val_words, Nat.mod_eq_of_lt]
      have := lt_wlen (val xs)
      omega
    have e2 := take_words (inR_wordsN (words (val xs)).length (val (words (val xs)) - val ys))
    rw [e1] at e2 ⊢
    have hw2 : wlen (val xs - val ys) ≤ wlen (val xs) := wlen_mono (Nat.sub_le _ _)
    rw [List.drop_zero, Int.toNat_natCast, Nat.sub_zero, e2, length_words, val_words, decide_eq_true (by omega), cond_true, decide_eq_true ⟨rfl, rfl, rfl, by omega⟩, cond_true, decide_eq_true (by omega), cond_true, decide_eq_true (by omega), cond_true]
theorem nSub_fn : FnOK Try.prog 38 nSubC := fnOK_mk T mixed Try.func38 (by kernel_rfl) (fns := [(36, nCmpC), (29, nTrimC), (67, sub64C), (59, nSizeC)]) (lps := [(0, nSubL)]) (live := [(0, [1, 6, 7, 17, 18])]) (out := [(0, [6])]) (fuel := 0) (give := (fun _ => false)) ⟨nCmp_fn, nTrim_fn, sub64_fn, nSize_fn, trivial⟩ ⟨nSubL_ok, trivial⟩ nSub_he
end
end Go.Proofs.Ytcglfmldodhakaa.Vm
