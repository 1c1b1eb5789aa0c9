/-
  Package round: directions, quotients. No statement is proved here.
-/
import Derived.Test.YtcglfmldodhakaaCalQB
import Derived.Test.YtcglfmldodhakaaCalN5
namespace Go.Vm
variable {P : Program}
/-- Results that are told less of. -/
def weakTo : List (Own × D) → List (Own × D) → Prop
  | [], [] => True
  | (ow, d) :: l, (ow', d') :: l' => d = d' ∧ (ow = ow' ∨ ow = .new ∧ ow' = .old) ∧ weakTo l l'
  | _, _ => False
theorem weakTo_len : ∀ {l l' : List (Own × D)}, weakTo l l' → l.length = l'.length
  | [], [], _ => rfl
  | (_, _) :: _, (_, _) :: _, h => by simp [weakTo_len h.2.2]
theorem res_weak {w w' : World} {vs : List Value} {q : Prop} : ∀ {l l' : List (Own × D)} {rs : List Value}, weakTo l l' → all2 (ResOK w w' vs q) l rs → all2 (ResOK w w' vs q) l' rs
  | [], [], [], _, _ => trivial
  | (ow, d) :: l, (ow', d') :: l', r :: rs, h, h' => by
    obtain ⟨rfl, h2, h3⟩ := h
    refine ⟨?_, res_weak h3 h'.2⟩
    rcases h2 with rfl | ⟨rfl, rfl⟩
    · exact h'.1
    · obtain ⟨⟨h4, h5⟩, _⟩ := h'
      exact ⟨h4, fun hs b ad n cap e hn hb => .inl (h5 hs b ad n cap e hn hb)⟩
theorem callOK_weak {f : FuncId} {ds : List D} {l l' : List (Own × D)} (h : weakTo l l') (hc : CallOK P f ds l) : CallOK P f ds l' := fun w vs hv => by
  have hl : (l.length = 1) = (l'.length = 1) := by rw [weakTo_len h]
  have key : ∀ rv w', (Go.RowKit.Below w.heap.size w w' ∧ ∃ rs, rv = tupleOf rs ∧ all2 (ResOK w w' vs (l.length = 1)) l rs) → (Go.RowKit.Below w.heap.size w w' ∧ ∃ rs, rv = tupleOf rs ∧ all2 (ResOK w w' vs (l'.length = 1)) l' rs) := by
    rintro rv w' ⟨h1, rs, h2, h3⟩
    exact ⟨h1, rs, h2, by rw [← hl]; exact res_weak h h3⟩
  rcases hc w vs hv with ⟨rv, w', h1, h2⟩ | ⟨h1, h2⟩
  · exact .inl ⟨rv, w', h1, key rv w' h2⟩
  · exact .inr ⟨h1, h2.mono fun e w' ⟨rv, h3, h4⟩ => ⟨rv, h3, key rv w' h4⟩⟩
/-- A contract that tells less. -/
theorem fnOK_weak {f : FuncId} {F H : FnC} (h : FnOK P f F) (hw : ∀ ds κ r, (∀ d ∈ ds, d.wf) → H ds κ = some r → ∃ l l', κ l' = some r ∧ weakTo l l' ∧ F ds some = some l) : FnOK P f H := fun ds κ r hd hr => by
  obtain ⟨l, l', h1, h2, h3⟩ := hw ds κ r hd hr
  obtain ⟨l2, h4, h5⟩ := h ds some l hd h3
  cases h4
  exact ⟨l', h1, callOK_weak h2 h5⟩
end Go.Vm

namespace Go.Proofs.Ytcglfmldodhakaa.Vm
open Go Go.Vm
noncomputable section
set_option linter.unusedVariables false
def rightC2 : FnC := fun ds κ => match ds with
  | [.p (.int .i64 d)] => κ [(.mine, .p (.bool (decide (0 ≤ d ∧ d ≤ 4))))]
  | _ => none
def fRightE : Env := mkE ty [] [] [] [] 0 (fun _ => false)
abbrev fRightC := rightC2
theorem fRight_ev (d : Int) : evFn fRightE Try.f30 [.p (.int .i64 d)] = cond (decide (d ≥ 0)) (some [(.mine, .p (.bool (decide (d ≤ 4))))]) (some [(.mine, .p (.bool false))]) := by kernel_rfl
theorem dir_and (d : Int) (k : Bool → R) : cond (decide (d ≥ 0)) (k (decide (d ≤ 4))) (k false) = k (decide (0 ≤ d ∧ d ≤ 4)) := by
  by_cases h : d ≥ 0
  · rw [decide_eq_true h, cond_true]
    by_cases h2 : d ≤ 4
    · rw [decide_eq_true h2, decide_eq_true (show 0 ≤ d ∧ d ≤ 4 by omega)]
    · rw [decide_eq_false h2, decide_eq_false (show ¬ (0 ≤ d ∧ d ≤ 4) by omega)]
  · rw [decide_eq_false h, cond_false, decide_eq_false (show ¬ (0 ≤ d ∧ d ≤ 4) by omega)]
theorem fRight_he : ∀ ds κ r, (∀ d ∈ ds, d.wf) → fRightC ds κ = some r → ∃ res, κ res = some r ∧ evFn fRightE Try.f30 ds = some res := fun ds κ r hw h => by
  unfold fRightC rightC2 at h
  split at h
  case h_2 => cases h
  rename_i d
  exact ⟨_, h, (fRight_ev d).trans (dir_and d fun b => some [(.mine, .p (.bool b))])⟩
theorem fRight_fn : FnOK Try.prog 30 fRightC := fnOK_mk T mixed Try.func30 (by kernel_rfl) (fns := []) (lps := []) (live := []) (out := []) (fuel := 0) (give := (fun _ => false)) trivial trivial fRight_he
def rDirE : Env := mkE ty [] [] [] [] 0 (fun _ => false)
abbrev rDirC := rightC2
theorem rDir_ev (d : Int) : evFn rDirE Try.f12 [.p (.int .i64 d)] = cond (decide (d ≥ 0)) (some [(.mine, .p (.bool (decide (d ≤ 4))))]) (some [(.mine, .p (.bool false))]) := by kernel_rfl
theorem rDir_he : ∀ ds κ r, (∀ d ∈ ds, d.wf) → rDirC ds κ = some r → ∃ res, κ res = some r ∧ evFn rDirE Try.f12 ds = some res := fun ds κ r hw h => by
  unfold rDirC rightC2 at h
  split at h
  case h_2 => cases h
  rename_i d
  exact ⟨_, h, (rDir_ev d).trans (dir_and d fun b => some [(.mine, .p (.bool b))])⟩
theorem rDir_fn : FnOK Try.prog 12 rDirC := fnOK_mk T mixed Try.func12 (by kernel_rfl) (fns := []) (lps := []) (live := []) (out := []) (fuel := 0) (give := (fun _ => false)) trivial trivial rDir_he

/-! ### Up, Infinite -/
def rUpC : FnC := fun ds κ => match ds with
  | [.p (.int .i64 d), .p (.bool s), .p (.bool o), .p (.int .i64 h)] => κ [(.mine, .p (.bool (upB d s o h)))]
  | _ => none
def rUpE : Env := mkE ty [] [] [] [] 0 (fun _ => false)
theorem rUp_ev (d h : Int) (s o : Bool) : evFn rUpE Try.f63 [.p (.int .i64 d), .p (.bool s), .p (.bool o), .p (.int .i64 h)] =
    cond (d == 0) (cond (decide (h > 0)) (rb true) (cond (h == 0) (rb o) (rb false))) (cond (d == 1) (rb (decide (h ≥ 0))) (cond (d == 3) (rb (!s)) (cond (d == 4) (rb s) (rb false)))) := by kernel_rfl
theorem rUp_he : ∀ ds κ r, (∀ d ∈ ds, d.wf) → rUpC ds κ = some r → ∃ res, κ res = some r ∧ evFn rUpE Try.f63 ds = some res := fun ds κ r hw h => by
  unfold rUpC at h
  split at h
  case h_2 => cases h
  rename_i d s o hf
  refine ⟨_, h, (rUp_ev d hf s o).trans ?_⟩
  unfold upB
  cases (d == 0) <;> cases (d == 1) <;> cases (d == 3) <;> cases (d == 4) <;> cases decide (hf > 0) <;> cases (hf == 0) <;> rfl
theorem rUp_fn : FnOK Try.prog 63 rUpC := fnOK_mk T mixed Try.func63 (by kernel_rfl) (fns := []) (lps := []) (live := []) (out := []) (fuel := 0) (give := (fun _ => false)) trivial trivial rUp_he
def infB (d : Int) (s : Bool) : Bool := cond (d == 0) true (cond (d == 1) true (cond (d == 3) (cond (!s) true (cond (d == 4) s false)) (cond (d == 4) s false)))
def rInfC : FnC := fun ds κ => match ds with
  | [.p (.int .i64 d), .p (.bool s)] => cond (decide (0 ≤ d ∧ d ≤ 4)) (κ [(.mine, .p (.bool (farB d s)))]) none
  | _ => none
def rInfE : Env := mkE ty [] [] [] [] 0 (fun _ => false)
theorem rInf_ev (d : Int) (s : Bool) : evFn rInfE Try.f37 [.p (.int .i64 d), .p (.bool s)] =
    cond (d == 0) (rb true) (cond (d == 1) (rb true) (cond (d == 3) (cond (!s) (rb true) (cond (d == 4) (rb s) (rb false))) (cond (d == 4) (rb s) (rb false)))) := by kernel_rfl
theorem dirs {d : Int} (h : 0 ≤ d ∧ d ≤ 4) : d = 0 ∨ d = 1 ∨ d = 2 ∨ d = 3 ∨ d = 4 := by omega
theorem rInf_he : ∀ ds κ r, (∀ d ∈ ds, d.wf) → rInfC ds κ = some r → ∃ res, κ res = some r ∧ evFn rInfE Try.f37 ds = some res := fun ds κ r hw h => by
  unfold rInfC at h
  split at h
  case h_2 => cases h
  rename_i d s
  replace h := cond_none h
  obtain ⟨hc, h⟩ := h
  refine ⟨_, h, (rInf_ev d s).trans ?_⟩
  rcases dirs (of_decide_eq_true hc) with rfl | rfl | rfl | rfl | rfl <;> cases s <;> rfl
theorem rInf_fn : FnOK Try.prog 37 rInfC := fnOK_mk T mixed Try.func37 (by kernel_rfl) (fns := []) (lps := []) (live := []) (out := []) (fuel := 0) (give := (fun _ => false)) trivial trivial rInf_he
def rFarC : FnC := fun ds κ => match ds with
  | [.p (.int .i64 d), .p (.bool s)] => κ [(.mine, .p (.bool (farB d s)))]
  | _ => none
def rFarE : Env := mkE ty [] [] [] [] 0 (fun _ => false)
theorem rFar_ev (d : Int) (s : Bool) : evFn rFarE Try.f72 [.p (.int .i64 d), .p (.bool s)] = cond (d == 2) (rb false) (cond (d == 3) (rb (!s)) (cond (d == 4) (rb s) (rb true))) := by kernel_rfl
theorem rFar_he : ∀ ds κ r, (∀ d ∈ ds, d.wf) → rFarC ds κ = some r → ∃ res, κ res = some r ∧ evFn rFarE Try.f72 ds = some res := fun ds κ r hw h => by
  unfold rFarC at h
  split at h
  case h_2 => cases h
  rename_i d s
  refine ⟨_, h, (rFar_ev d s).trans ?_⟩
  unfold farB
  cases (d == 2) <;> cases (d == 3) <;> cases (d == 4) <;> rfl
theorem rFar_fn : FnOK Try.prog 72 rFarC := fnOK_mk T mixed Try.func72 (by kernel_rfl) (fns := []) (lps := []) (live := []) (out := []) (fuel := 0) (give := (fun _ => false)) trivial trivial rFar_he
def rOddC : FnC := fun ds κ => match ds with
  | [.w .u64 xs] => κ [(.mine, .p (.bool (val xs % 2 == 1)))]
  | _ => none
def rOddE : Env := mkE ty [] [] [] [] 0 (fun _ => false)
theorem rOdd_ev (xs : List Int) : evFn rOddE Try.f92 [.w .u64 xs] =
    (cond (decide ((↑xs.length : Int) > (0 : Int)))
     (cond (decide ((0 : Int) ≤ (0 : Int) ∧ (0 : Int) < (↑xs.length : Int)))
      (cond (decide (0 < xs.length))
       (some [(.mine, .p (.bool ((xs.getD 0 (0 : Int)).tmod (2 : Int) == (1 : Int))))])
       none)
      none)
     (some [(.mine, .p (.bool (false)))])) := by kernel_rfl
theorem tmod2 (n : Nat) : (n : Int).tmod 2 = ((n % 2 : Nat) : Int) := rfl
theorem rOdd_he : ∀ ds κ r, (∀ d ∈ ds, d.wf) → rOddC ds κ = some r → ∃ res, κ res = some r ∧ evFn rOddE Try.f92 ds = some res := fun ds κ r hw h => by
  unfold rOddC at h
  split at h
  case h_2 => cases h
  rename_i xs
  obtain ⟨_, hx⟩ := wfW hw (xs := xs) (by simp)
  refine ⟨_, h, (rOdd_ev xs).trans ?_⟩
  by_cases h0 : xs.length = 0
  · obtain rfl := List.length_eq_zero_iff.1 h0
    rfl
  · rw [decide_eq_true (show (xs.length : Int) > 0 by omega), cond_true, decide_eq_true (show (0 : Int) ≤ 0 ∧ (0 : Int) < (xs.length : Int) by omega), cond_true, decide_eq_true (show 0 < xs.length by omega), cond_true, getD_val hx, Nat.pow_zero, Nat.div_one, tmod2]
    have e : val xs % 18446744073709551616 % 2 = val xs % 2 := by omega
    rw [e]
    rcases Nat.mod_two_eq_zero_or_one (val xs) with h1 | h1 <;> rw [h1] <;> rfl
theorem rOdd_fn : FnOK Try.prog 92 rOddC := fnOK_mk T mixed Try.func92 (by kernel_rfl) (fns := []) (lps := []) (live := []) (out := []) (fuel := 0) (give := (fun _ => false)) trivial trivial rOdd_he
def bBitsC : FnC := rBitsC
def bBitsE : Env := mkE ty [] [] [] [] 0 (fun _ => false)
theorem bBits_ev (xs : List Int) : evFn bBitsE Try.f39 [.w .u64 xs] =
    (some [(.mine, .r .u64 4 (List.take 0 (List.replicate 4 (0 : Int)) ++ List.take 4 xs ++
      List.drop (0 + (List.take 4 xs).length) (List.replicate 4 (0 : Int))))]) := by kernel_rfl
theorem bBits_he : ∀ ds κ r, (∀ d ∈ ds, d.wf) → bBitsC ds κ = some r → ∃ res, κ res = some r ∧ evFn bBitsE Try.f39 ds = some res := fun ds κ r hw h => by
  unfold bBitsC rBitsC at h
  split at h
  case h_2 => cases h
  rename_i xs
  obtain ⟨_, hx⟩ := wfW hw (xs := xs) (by simp)
  refine ⟨_, h, (bBits_ev xs).trans ?_⟩
  have e : List.take 0 (List.replicate 4 (0 : Int)) ++ List.take 4 xs ++ List.drop (0 + (List.take 4 xs).length) (List.replicate 4 (0 : Int)) = wordsN 4 (val xs) := by
    rw [← wordsN_mod]
    refine wordsN_eq (inR_append (inR_append (inR_take (inR_rep 4) _) (inR_take hx _)) (inR_drop (inR_rep 4) _)) ?_ ?_
    · simp only [List.length_append, List.length_take, List.length_drop, List.length_replicate]; omega
    · rw [List.take_zero, List.nil_append, val_append, List.drop_replicate, val_zeros, Nat.mul_zero, Nat.add_zero, val_take hx]
  rw [e]
theorem bBits_fn : FnOK Try.prog 39 bBitsC := fnOK_mk T mixed Try.func39 (by kernel_rfl) (fns := []) (lps := []) (live := []) (out := []) (fuel := 0) (give := (fun _ => false)) trivial trivial bBits_he
theorem odd_words (q : Nat) : (Go.bits .and .u64 ((words q).getD 0 0) 1 == 1) = (q % 2 == 1) := by
  rw [getD_val (inR_words q), val_words, Nat.pow_zero, Nat.div_one]
  have h := u64_and_nat (q % 18446744073709551616) 1 (Nat.mod_lt _ (by decide)) (by decide)
  rw [Nat.and_one_is_mod] at h
  have h2 : Go.bits .and .u64 ((q % 18446744073709551616 : Nat) : Int) 1 = ((q % 18446744073709551616 % 2 : Nat) : Int) := h
  rw [h2]
  have e : q % 18446744073709551616 % 2 = q % 2 := by omega
  rw [e]
  rcases Nat.mod_two_eq_zero_or_one q with h1 | h1 <;> rw [h1] <;> rfl
def divideC : FnC := fun ds κ => match ds with
  | [.p (.int .i64 d), .p (.bool s), .w .u64 xs, .w .u64 ys] => cond (decide (0 ≤ d ∧ d ≤ 4 ∧ xs.length ≤ 2000 ∧ ys.length ≤ 2000 ∧ 0 < val ys)) (κ [(.new, .w .u64 (words (rndF d s (val xs) (val ys)))), (.mine, .p (.bool (exF (val xs) (val ys))))]) none
  | _ => none
def divideE : Env := mkE ty [(40, nDivC), (38, nSubC), (36, nCmpC), (63, rUpC), (32, nOfC), (64, nAddC)] [] [] [] 0 (fun _ => false)
theorem divide_ev (d : Int) (s : Bool) (xs ys : List Int) : evFn divideE Try.f34 [.p (.int .i64 d), .p (.bool s), .w .u64 xs, .w .u64 ys] =
    (cond (decide (xs.length ≤ 549755813888 ∧ ys.length ≤ 549755813888))
     (cond (decide (val ys = 0))
      (some [(.new, .w .u64 []), (.mine, .p (.bool (true)))])
      (cond (decide (wlen (val xs) > 2000 ∨ wlen (val ys) > 2000))
       (some [(.new, .w .u64 []), (.mine, .p (.bool (true)))])
       (cond ((↑(words (val xs % val ys)).length : Int) == (0 : Int))
        (some [(.new, .w .u64 (words (val xs / val ys))), (.mine, .p (.bool (true)))])
        (cond (decide (ys.length ≤ 549755813888 ∧ (words (val xs % val ys)).length ≤ 549755813888))
         (cond (decide (val ys < val (words (val xs % val ys))))
          (cond (decide ((↑(words (val xs / val ys)).length : Int) > (0 : Int)))
           (cond (decide ((0 : Int) ≤ (0 : Int) ∧ (0 : Int) < (↑(words (val xs / val ys)).length : Int)))
            (cond (decide (0 < (words (val xs / val ys)).length))
             (cond (upB d s (bits BinOp.and IntKind.u64 ((words (val xs / val ys)).getD 0 (0 : Int)) (1 : Int) == (1 : Int))
      (cmpI (val (words (val xs % val ys))) 0))
              (cond (decide ((words (val xs / val ys)).length ≤ 549755813888 ∧ 1 ≤ 549755813888))
               (some [(.new, .w .u64 (words (val (words (val xs / val ys)) + 1))), (.mine, .p (.bool (false)))])
               none)
              (some [(.new, .w .u64 (words (val xs / val ys))), (.mine, .p (.bool (false)))]))
             none)
            none)
           (cond (upB d s false (cmpI (val (words (val xs % val ys))) 0))
            (cond (decide ((words (val xs / val ys)).length ≤ 549755813888 ∧ 1 ≤ 549755813888))
             (some [(.new, .w .u64 (words (val (words (val xs / val ys)) + 1))), (.mine, .p (.bool (false)))])
             none)
            (some [(.new, .w .u64 (words (val xs / val ys))), (.mine, .p (.bool (false)))])))
          (cond (decide ((↑(words (val xs / val ys)).length : Int) > (0 : Int)))
           (cond (decide ((0 : Int) ≤ (0 : Int) ∧ (0 : Int) < (↑(words (val xs / val ys)).length : Int)))
            (cond (decide (0 < (words (val xs / val ys)).length))
             (cond (upB d s (bits BinOp.and IntKind.u64 ((words (val xs / val ys)).getD 0 (0 : Int)) (1 : Int) == (1 : Int))
      (cmpI (val (words (val xs % val ys))) (val (words (val ys - val (words (val xs % val ys)))))))
              (cond (decide ((words (val xs / val ys)).length ≤ 549755813888 ∧ 1 ≤ 549755813888))
               (some [(.new, .w .u64 (words (val (words (val xs / val ys)) + 1))), (.mine, .p (.bool (false)))])
               none)
              (some [(.new, .w .u64 (words (val xs / val ys))), (.mine, .p (.bool (false)))]))
             none)
            none)
           (cond (upB d s false (cmpI (val (words (val xs % val ys))) (val (words (val ys - val (words (val xs % val ys)))))))
            (cond (decide ((words (val xs / val ys)).length ≤ 549755813888 ∧ 1 ≤ 549755813888))
             (some [(.new, .w .u64 (words (val (words (val xs / val ys)) + 1))), (.mine, .p (.bool (false)))])
             none)
            (some [(.new, .w .u64 (words (val xs / val ys))), (.mine, .p (.bool (false)))]))))
         none))))
     none) := by kernel_rfl
theorem divide_he : ∀ ds κ r, (∀ d ∈ ds, d.wf) → divideC ds κ = some r → ∃ res, κ res = some r ∧ evFn divideE Try.f34 ds = some res := fun ds κ r hw h => by
  unfold divideC at h
  split at h
  case h_2 => cases h
  rename_i d s xs ys
  replace h := cond_none h
  obtain ⟨hc, h⟩ := h
  obtain ⟨h1, h2, h3, h4, h5⟩ := of_decide_eq_true hc
  obtain ⟨_, hx⟩ := wfW hw (xs := xs) (by simp)
  obtain ⟨_, hy⟩ := wfW hw (xs := ys) (by simp)
  have w1 := wlen_val hx
  have w2 := wlen_val hy
  refine ⟨_, h, (divide_ev d s xs ys).trans ?_⟩
  have hr : val xs % val ys < val ys := Nat.mod_lt _ h5
  have wr : wlen (val xs % val ys) ≤ 2000 := Nat.le_trans (wlen_mono (Nat.le_of_lt hr)) (by omega)
  have wq : wlen (val xs / val ys) ≤ 2000 := Nat.le_trans (wlen_mono (Nat.div_le_self _ _)) (by omega)
  rw [val_words, val_words, val_words, length_words, length_words, odd_words, cmp_half (Nat.le_of_lt hr)]
  unfold rndF exF
  rw [decide_eq_true (show xs.length ≤ 549755813888 ∧ ys.length ≤ 549755813888 by omega), cond_true, decide_eq_false (show ¬ val ys = 0 by omega), cond_false, decide_eq_false (show ¬ (wlen (val xs) > 2000 ∨ wlen (val ys) > 2000) by omega), cond_false]
  generalize val xs % val ys = r at *
  generalize val xs / val ys = q at *
  by_cases hr0 : r = 0
  · rw [hr0, wlen_zero]
    rfl
  · have hw0 : wlen r ≠ 0 := fun e => hr0 (wlen_eq_zero.1 e)
    rw [beq_eq_false_iff_ne.2 (show ((wlen r : Nat) : Int) ≠ 0 by omega), cond_false, decide_eq_true (show ys.length ≤ 549755813888 ∧ wlen r ≤ 549755813888 by omega), cond_true, decide_eq_false (show ¬ val ys < r by omega), cond_false, beq_eq_false_iff_ne.2 hr0, cond_false, decide_eq_true (show wlen q ≤ 549755813888 ∧ 1 ≤ 549755813888 by omega), cond_true]
    by_cases hq0 : q = 0
    · subst hq0
      rw [wlen_zero, decide_eq_false (show ¬ ((0 : Nat) : Int) > 0 by omega), cond_false]
      rw [show (0 % 2 == 1) = false from rfl]
      cases upB d s false (cmpI (2 * r) (val ys)) <;> rfl
    · have hwq0 : wlen q ≠ 0 := fun e => hq0 (wlen_eq_zero.1 e)
      rw [decide_eq_true (show ((wlen q : Nat) : Int) > 0 by omega), cond_true, decide_eq_true (show (0 : Int) ≤ 0 ∧ (0 : Int) < ((wlen q : Nat) : Int) by omega), cond_true, decide_eq_true (show 0 < wlen q by omega), cond_true]
      cases upB d s (q % 2 == 1) (cmpI (2 * r) (val ys)) <;> rfl
theorem divide_fn : FnOK Try.prog 34 divideC := fnOK_mk T mixed Try.func34 (by kernel_rfl) (fns := [(40, nDivC), (38, nSubC), (36, nCmpC), (63, rUpC), (32, nOfC), (64, nAddC)]) (lps := []) (live := []) (out := []) (fuel := 0) (give := (fun _ => false)) ⟨nDiv_fn, nSub_fn, nCmp_fn, rUp_fn, nOf_fn, nAdd_fn, trivial⟩ trivial divide_he
def wholeC : FnC := fun ds κ => match ds with
  | [.p (.int .i64 d), .p (.bool s), .w .u64 xs, .w .u64 ys] => cond (decide (xs.length ≤ 1000000 ∧ ys.length ≤ 1000000 ∧ 0 < val ys)) (κ [(.new, .w .u64 (words (rndF d s (val xs) (val ys)))), (.mine, .p (.bool (exF (val xs) (val ys))))]) none
  | _ => none
def wholeE : Env := mkE ty [(19, overC), (51, leftC), (25, cmpC), (92, rOddC), (24, addC)] [] [] [] 0 (fun _ => false)
theorem whole_ev (d : Int) (s : Bool) (xs ys : List Int) : evFn wholeE Try.f70 [.p (.int .i64 d), .p (.bool s), .w .u64 xs, .w .u64 ys] =
    (cond (decide (xs.length ≤ 1000000 ∧ ys.length ≤ 1000000 ∧ 0 < val ys))
     (cond ((↑(words (val xs % val ys)).length : Int) == (0 : Int))
      (some [(.new, .w .u64 (words (val xs / val ys))), (.mine, .p (.bool (true)))])
      (cond (decide
      ((words (val xs % val ys)).length ≤ 274877906944 ∧ (0 : Int) ≤ (1 : Int) ∧ (1 : Int) ≤ (1099511627776 : Int)))
       (cond (d == (0 : Int))
        (cond (decide (cmpI (val (words (val (words (val xs % val ys)) * 2))) (val ys) > (0 : Int)))
         (cond (decide ((words (val xs / val ys)).length ≤ 549755813888 ∧ 1 ≤ 549755813888))
          (some [(.new, .w .u64 (words (val (words (val xs / val ys)) + 1))), (.mine, .p (.bool (false)))])
          none)
         (cond (cmpI (val (words (val (words (val xs % val ys)) * 2))) (val ys) == (0 : Int))
          (cond (val (words (val xs / val ys)) % 2 == 1)
           (cond (decide ((words (val xs / val ys)).length ≤ 549755813888 ∧ 1 ≤ 549755813888))
            (some [(.new, .w .u64 (words (val (words (val xs / val ys)) + 1))), (.mine, .p (.bool (false)))])
            none)
           (some [(.new, .w .u64 (words (val xs / val ys))), (.mine, .p (.bool (false)))]))
          (some [(.new, .w .u64 (words (val xs / val ys))), (.mine, .p (.bool (false)))])))
        (cond (d == (1 : Int))
         (cond (decide (cmpI (val (words (val (words (val xs % val ys)) * 2))) (val ys) ≥ (0 : Int)))
          (cond (decide ((words (val xs / val ys)).length ≤ 549755813888 ∧ 1 ≤ 549755813888))
           (some [(.new, .w .u64 (words (val (words (val xs / val ys)) + 1))), (.mine, .p (.bool (false)))])
           none)
          (some [(.new, .w .u64 (words (val xs / val ys))), (.mine, .p (.bool (false)))]))
         (cond (d == (3 : Int))
          (cond (!s)
           (cond (decide ((words (val xs / val ys)).length ≤ 549755813888 ∧ 1 ≤ 549755813888))
            (some [(.new, .w .u64 (words (val (words (val xs / val ys)) + 1))), (.mine, .p (.bool (false)))])
            none)
           (some [(.new, .w .u64 (words (val xs / val ys))), (.mine, .p (.bool (false)))]))
          (cond (d == (4 : Int))
           (cond (s)
            (cond (decide ((words (val xs / val ys)).length ≤ 549755813888 ∧ 1 ≤ 549755813888))
             (some [(.new, .w .u64 (words (val (words (val xs / val ys)) + 1))), (.mine, .p (.bool (false)))])
             none)
            (some [(.new, .w .u64 (words (val xs / val ys))), (.mine, .p (.bool (false)))]))
           (some [(.new, .w .u64 (words (val xs / val ys))), (.mine, .p (.bool (false)))])))))
       none))
     none) := by kernel_rfl
theorem whole_he : ∀ ds κ r, (∀ d ∈ ds, d.wf) → wholeC ds κ = some r → ∃ res, κ res = some r ∧ evFn wholeE Try.f70 ds = some res := fun ds κ r hw h => by
  unfold wholeC at h
  split at h
  case h_2 => cases h
  rename_i d s xs ys
  replace h := cond_none h
  obtain ⟨hc, h⟩ := h
  obtain ⟨h1, h2, h3⟩ := of_decide_eq_true hc
  obtain ⟨_, hx⟩ := wfW hw (xs := xs) (by simp)
  obtain ⟨_, hy⟩ := wfW hw (xs := ys) (by simp)
  have w1 := wlen_val hx
  have w2 := wlen_val hy
  refine ⟨_, h, (whole_ev d s xs ys).trans ?_⟩
  have hr : val xs % val ys < val ys := Nat.mod_lt _ h3
  have wr : wlen (val xs % val ys) ≤ 1000000 := Nat.le_trans (wlen_mono (Nat.le_of_lt hr)) (by omega)
  have wq : wlen (val xs / val ys) ≤ 1000000 := Nat.le_trans (wlen_mono (Nat.div_le_self _ _)) (by omega)
  rw [hc, cond_true, val_words, val_words, val_words, length_words, length_words, Nat.mul_comm _ 2]
  unfold rndF exF upB
  generalize val xs % val ys = r at *
  generalize val xs / val ys = q at *
  by_cases hr0 : r = 0
  · rw [hr0, wlen_zero]
    rfl
  · have hw0 : wlen r ≠ 0 := fun e => hr0 (wlen_eq_zero.1 e)
    rw [beq_eq_false_iff_ne.2 (show ((wlen r : Nat) : Int) ≠ 0 by omega), cond_false, decide_eq_true (show wlen r ≤ 274877906944 ∧ (0 : Int) ≤ 1 ∧ (1 : Int) ≤ 1099511627776 by omega), cond_true, beq_eq_false_iff_ne.2 hr0, cond_false]
    simp only [decide_eq_true (show wlen q ≤ 549755813888 ∧ 1 ≤ 549755813888 by omega), cond_true]
    cases (d == 0) <;> cases (d == 1) <;> cases (d == 3) <;> cases (d == 4) <;> cases decide (cmpI (2 * r) (val ys) > 0) <;> cases (cmpI (2 * r) (val ys) == 0) <;> cases (q % 2 == 1) <;> cases decide (cmpI (2 * r) (val ys) ≥ 0) <;> cases s <;> rfl
theorem whole_fn : FnOK Try.prog 70 wholeC := fnOK_mk T mixed Try.func70 (by kernel_rfl) (fns := [(19, overC), (51, leftC), (25, cmpC), (92, rOddC), (24, addC)]) (lps := []) (live := []) (out := []) (fuel := 0) (give := (fun _ => false)) ⟨over_fn, left_fn, cmp_fn, rOdd_fn, add_fn, trivial⟩ trivial whole_he
end
end Go.Proofs.Ytcglfmldodhakaa.Vm
