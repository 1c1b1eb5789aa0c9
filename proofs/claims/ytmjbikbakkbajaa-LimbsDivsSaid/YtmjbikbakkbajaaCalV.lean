/-
  The laws LimbsMuls, LimbsSubs, LimbsShifts, LimbsBits, LimbsDivs: what their own functions come to. No statement is proved here.
-/
import Derived.Test.YtmjbikbakkbajaaCalN
namespace Go.Proofs.Ytmjbikbakkbajaa.Vm
open Go Go.Vm
noncomputable section

/-! ### times -/
def timesB (s : List Int) (c : Int) (a : List Int) (n : Int) : Bool := decide (val s = val a * n.toNat % 18446744073709551616 ^ a.length) && decide (c.toNat = val a * n.toNat / 18446744073709551616 ^ a.length)
def times1C : FnC := fun ds κ => match ds with
  | [.w .u64 s, .p (.int .u64 c), .w .u64 a, .p (.int .u64 n)] => cond (decide (a.length ≤ 1000000)) (κ [(.mine, .p (.bool (timesB s c a n)))]) none
  | _ => none
def times1E : Env := mkE ty [(82, timesC), (71, cutC), (73, isC)] [] [] [] 0 (fun _ => false)
theorem times1_ev (s : List Int) (c : Int) (a : List Int) (n : Int) : evFn times1E Try.f54 [.w .u64 s, .p (.int .u64 c), .w .u64 a, .p (.int .u64 n)] =
    cond (decide (a.length ≤ 274877906944 ∧ [n].length ≤ 274877906944)) (cond (decide ((words (val a * val [n])).length ≤ 1048576 ∧ 0 ≤ (a.length : Int) ∧ (a.length : Int) ≤ 1048576))
      (cond (decide (val s = val (words (val (words (val a * val [n])) % 18446744073709551616 ^ (a.length : Int).toNat))))
        (some [(.mine, .p (.bool (decide (val [c] = val (words (val (words (val a * val [n])) / 18446744073709551616 ^ (a.length : Int).toNat))))))]) (some [(.mine, .p (.bool false))])) none) none := by kernel_rfl
theorem times1_he : ∀ ds κ r, (∀ d ∈ ds, d.wf) → times1C ds κ = some r → ∃ res, κ res = some r ∧ evFn times1E Try.f54 ds = some res := fun ds κ r hw h => by
  unfold times1C at h
  split at h
  case h_2 => cases h
  rename_i s c a n
  obtain ⟨hc, h⟩ := cond_none h
  have h1 := of_decide_eq_true hc
  have ha := (wfW hw (xs := a) (by simp)).2
  have hn := wfU hw (x := n) (by simp)
  refine ⟨_, h, (times1_ev s c a n).trans ?_⟩
  have e : ∀ q, val [q] = q.toNat := fun q => by simp [val]
  have hlt : wlen (val a * n.toNat) ≤ 1000000 + 1 := wlen_mul (Nat.le_trans (wlen_val ha) h1) ((wlen_le _ _).2 (by rw [Nat.pow_one]; omega))
  rw [e, e, length_words, val_words, val_words, val_words, Int.toNat_natCast, decide_eq_true ⟨by omega, by simp⟩, cond_true, decide_eq_true (by omega), cond_true]
  unfold timesB
  cases decide (val s = val a * n.toNat % 18446744073709551616 ^ a.length) <;> rfl
theorem times1_fn : FnOK Try.prog 54 times1C := fnOK_mk T mixed Try.func54 (by kernel_rfl) (fns := [(82, timesC), (71, cutC), (73, isC)]) (lps := []) (live := []) (out := []) (fuel := 0) (give := (fun _ => false)) ⟨times_fn, cut_fn, is_fn, trivial⟩ trivial times1_he

/-! ### taken -/
def takenB (s : List Int) (c : Int) (a b : List Int) : Bool := decide (val s = if val a < val b then val a + 18446744073709551616 ^ a.length - val b else val a - val b) && ((c == 1) == decide (val a < val b)) && decide (c ≤ 1)
def takenC : FnC := fun ds κ => match ds with
  | [.w .u64 s, .p (.int .u64 c), .w .u64 a, .w .u64 b] => cond (decide (a.length ≤ 1000000 ∧ b.length ≤ a.length)) (κ [(.mine, .p (.bool (takenB s c a b)))]) none
  | _ => none
def takenE : Env := mkE ty [(41, cmpC), (78, leftC), (72, addC), (79, lessC), (73, isC)] [] [] [] 0 (fun _ => false)
def taken2 (s : List Int) (c : Int) (b w : List Int) (l : Bool) : R :=
  cond (decide (w.length ≤ 549755813888 ∧ b.length ≤ 549755813888 ∧ val b ≤ val w)) (cond (decide (val s = val (words (val w - val b)))) (cond ((c == 1) == l) (some [(.mine, .p (.bool (decide (c ≤ 1))))]) (some [(.mine, .p (.bool false))])) (some [(.mine, .p (.bool false))])) none
theorem taken_ev (s : List Int) (c : Int) (a b : List Int) : evFn takenE Try.f45 [.w .u64 s, .p (.int .u64 c), .w .u64 a, .w .u64 b] =
    let m := IntKind.i64.wrap (64 * (a.length : Int))
    cond (decide (cmpI (val a) (val b) < 0))
      (cond (decide ([(1 : Int)].length ≤ 274877906944 ∧ 0 ≤ m ∧ m ≤ 1099511627776)) (cond (decide (a.length ≤ 549755813888 ∧ (words (val [1] * 2 ^ m.toNat)).length ≤ 549755813888)) (taken2 s c b (words (val a + val (words (val [1] * 2 ^ m.toNat)))) (decide (cmpI (val a) (val b) < 0))) none) none)
      (taken2 s c b a (decide (cmpI (val a) (val b) < 0))) := by kernel_rfl
theorem cmpI_neg (a b : Nat) : decide (cmpI a b < 0) = decide (a < b) := by
  unfold cmpI
  by_cases h : a < b
  · rw [if_pos h, decide_eq_true h]; rfl
  · rw [if_neg h, decide_eq_false h]
    by_cases h2 : b < a
    · rw [if_pos h2]; rfl
    · rw [if_neg h2]; rfl
theorem taken_he : ∀ ds κ r, (∀ d ∈ ds, d.wf) → takenC ds κ = some r → ∃ res, κ res = some r ∧ evFn takenE Try.f45 ds = some res := fun ds κ r hw h => by
  unfold takenC at h
  split at h
  case h_2 => cases h
  rename_i s c a b
  obtain ⟨hc, h⟩ := cond_none h
  obtain ⟨h1, h2⟩ := of_decide_eq_true hc
  have ha := (wfW hw (xs := a) (by simp)).2
  have hb := (wfW hw (xs := b) (by simp)).2
  refine ⟨_, h, (taken_ev s c a b).trans ?_⟩
  have hbl : val b < 18446744073709551616 ^ a.length := Nat.lt_of_lt_of_le (val_lt hb) (Nat.pow_le_pow_right (by decide) h2)
  have e1 : val [1] * 2 ^ (64 * a.length) = 18446744073709551616 ^ a.length := by rw [pow64]; simp [val]
  have em : IntKind.i64.wrap (64 * ((a.length : Nat) : Int)) = ((64 * a.length : Nat) : Int) := by rw [i64_wrap (by omega) (by omega)]; rfl
  have w0 : wlen (18446744073709551616 ^ a.length) ≤ a.length + 1 := by
    rw [wlen_le, Nat.pow_succ]
    have := pow_pos64 a.length
    generalize 18446744073709551616 ^ a.length = q at *
    omega
  have w1 : wlen (val a + 18446744073709551616 ^ a.length) ≤ a.length + 1 + 1 := wlen_add (Nat.le_trans (wlen_val ha) (Nat.le_succ _)) w0
  dsimp only
  simp only [cmpI_neg]
  rw [em, Int.toNat_natCast, e1]
  unfold takenB taken2
  by_cases hlt : val a < val b
  · rw [decide_eq_true hlt, cond_true, if_pos hlt, decide_eq_true ⟨by simp, by omega, by omega⟩, cond_true, length_words, val_words, length_words, val_words, val_words, decide_eq_true ⟨by omega, by omega⟩, cond_true, decide_eq_true ⟨by omega, by omega, by omega⟩, cond_true]
    cases decide (val s = val a + 18446744073709551616 ^ a.length - val b)
    · rfl
    · cases (c == 1) <;> rfl
  · rw [decide_eq_false hlt, cond_false, if_neg hlt, val_words, decide_eq_true ⟨by omega, by omega, by omega⟩, cond_true]
    cases decide (val s = val a - val b)
    · rfl
    · cases (c == 1) <;> rfl
theorem taken_fn : FnOK Try.prog 45 takenC := fnOK_mk T mixed Try.func45 (by kernel_rfl) (fns := [(41, cmpC), (78, leftC), (72, addC), (79, lessC), (73, isC)]) (lps := []) (live := []) (out := []) (fuel := 0) (give := (fun _ => false)) ⟨cmp_fn, left_fn, add_fn, less_fn, is_fn, trivial⟩ trivial taken_he

/-! ### shifted -/
def clip (n : Int) : Int := if 600 < (if 0 > n then 0 else n) then 600 else (if 0 > n then 0 else n)
def shiftedB (l r a : List Int) (n : Int) : Bool := decide (val l = val a * 2 ^ (clip n).toNat % 18446744073709551616 ^ a.length) && decide (val r = val a / 2 ^ (clip n).toNat)
def shiftedC : FnC := fun ds κ => match ds with
  | [.w .u64 l, .w .u64 r, .w .u64 a, .p (.int .i64 n)] => cond (decide (a.length ≤ 1000000)) (κ [(.mine, .p (.bool (shiftedB l r a n)))]) none
  | _ => none
def shiftedE : Env := mkE ty [(78, leftC), (71, cutC), (83, rightC), (73, isC)] [] [] [] 0 (fun _ => false)
theorem shifted_ev (l r a : List Int) (n : Int) : evFn shiftedE Try.f63 [.w .u64 l, .w .u64 r, .w .u64 a, .p (.int .i64 n)] =
    cond (decide (a.length ≤ 274877906944 ∧ 0 ≤ clip n ∧ clip n ≤ 1099511627776)) (cond (decide ((words (val a * 2 ^ (clip n).toNat)).length ≤ 1048576 ∧ 0 ≤ (a.length : Int) ∧ (a.length : Int) ≤ 1048576)) (cond (decide (a.length ≤ 274877906944 ∧ 0 ≤ clip n))
      (cond (decide (val l = val (words (val (words (val a * 2 ^ (clip n).toNat)) % 18446744073709551616 ^ (a.length : Int).toNat)))) (some [(.mine, .p (.bool (decide (val r = val (words (val a / 2 ^ (clip n).toNat))))))]) (some [(.mine, .p (.bool false))])) none) none) none := by kernel_rfl
theorem clip_range (n : Int) : 0 ≤ clip n ∧ clip n ≤ 600 := by
  unfold clip
  split <;> split <;> omega
theorem shifted_he : ∀ ds κ r, (∀ d ∈ ds, d.wf) → shiftedC ds κ = some r → ∃ res, κ res = some r ∧ evFn shiftedE Try.f63 ds = some res := fun ds κ r hw h => by
  unfold shiftedC at h
  split at h
  case h_2 => cases h
  rename_i l r a n
  obtain ⟨hc, h⟩ := cond_none h
  have h1 := of_decide_eq_true hc
  have ha := (wfW hw (xs := a) (by simp)).2
  refine ⟨_, h, (shifted_ev l r a n).trans ?_⟩
  obtain ⟨c0, c1⟩ := clip_range n
  have hlt := wlen_mul (Nat.le_trans (wlen_val ha) h1) (wlen_two_pow (clip n).toNat)
  rw [length_words, val_words, val_words, val_words, Int.toNat_natCast, decide_eq_true ⟨by omega, c0, by omega⟩, cond_true, decide_eq_true ⟨by omega, by omega, by omega⟩, cond_true, decide_eq_true ⟨by omega, c0⟩, cond_true]
  unfold shiftedB
  cases decide (val l = val a * 2 ^ (clip n).toNat % 18446744073709551616 ^ a.length) <;> rfl
theorem shifted_fn : FnOK Try.prog 63 shiftedC := fnOK_mk T mixed Try.func63 (by kernel_rfl) (fns := [(78, leftC), (71, cutC), (83, rightC), (73, isC)]) (lps := []) (live := []) (out := []) (fuel := 0) (give := (fun _ => false)) ⟨left_fn, cut_fn, right_fn, is_fn, trivial⟩ trivial shifted_he
end
end Go.Proofs.Ytmjbikbakkbajaa.Vm
