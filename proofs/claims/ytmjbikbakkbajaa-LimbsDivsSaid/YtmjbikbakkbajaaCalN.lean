/-
  The law LimbsAdds, evaluated. No statement is proved here.
-/
import Derived.Test.YtmjbikbakkbajaaCalM
import Derived.Test.YtmjbikbakkbajaaCalLAdd1
import Derived.Test.YtmjbikbakkbajaaCalLAdd2
import Derived.Test.YtmjbikbakkbajaaCalLAdd4
import Derived.Test.YtmjbikbakkbajaaCalLAdd8
namespace Go.Proofs.Ytmjbikbakkbajaa.Vm
open Go Go.Vm
noncomputable section

/-! ### awake -/
def div64xE : Env := mkE ty [] [] [(0, [2, 8, 9, 10, 11, 13, 14, 15, 16]), (2, [2, 8, 9, 10, 14, 15, 16, 17, 18])] [] 4 (fun _ => false)
def div64xC : FnC := evC div64xE Try.f80
theorem div64x_fn : FnOK Try.prog 80 div64xC := fnOK_mk T mixed Try.func80 (by kernel_rfl) (fns := []) (lps := []) (live := [(0, [2, 8, 9, 10, 11, 13, 14, 15, 16]), (2, [2, 8, 9, 10, 14, 15, 16, 17, 18])]) (out := []) (fuel := 4) (give := (fun _ => false)) trivial trivial evC_he
def lDiv2xE : Env := mkE ty [(80, div64xC)] [] [(0, [1, 2, 4, 6, 7, 8])] [] 4 (fun _ => false)
def lDiv2xC : FnC := evC lDiv2xE Try.f47
theorem lDiv2x_fn : FnOK Try.prog 47 lDiv2xC := fnOK_mk T mixed Try.func47 (by kernel_rfl) (fns := [(80, div64xC)]) (lps := []) (live := [(0, [1, 2, 4, 6, 7, 8])]) (out := []) (fuel := 4) (give := (fun _ => false)) ⟨div64x_fn, trivial⟩ trivial evC_he
def awake01E : Env := mkE ty [(23, lAdd1C), (47, lDiv2xC)] [] [] [] 0 (fun _ => false)
def awake01C : FnC := fun ds κ => match ds with
  | [] => κ [(.mine, .p (.bool true))]
  | _ => none
theorem awake01_ev : evFn awake01E Try.f22 [] = some [(.mine, .p (.bool true))] := by kernel_rfl
theorem awake01_he : ∀ ds κ r, (∀ d ∈ ds, d.wf) → awake01C ds κ = some r → ∃ res, κ res = some r ∧ evFn awake01E Try.f22 ds = some res := fun ds κ r hw h => by
  unfold awake01C at h
  split at h
  case h_2 => cases h
  exact ⟨_, h, awake01_ev⟩
theorem awake01_fn : FnOK Try.prog 22 awake01C := fnOK_mk T mixed Try.func22 (by kernel_rfl) (fns := [(23, lAdd1C), (47, lDiv2xC)]) (lps := []) (live := []) (out := []) (fuel := 0) (give := (fun _ => false)) ⟨lAdd1_fn, lDiv2x_fn, trivial⟩ trivial awake01_he

/-! ### two, four -/
def twoC : FnC := fun ds κ => match ds with
  | [.r .u64 8 xs] => κ [(.mine, .r .u64 2 [xs.getD 0 0, xs.getD 1 0])]
  | _ => none
def twoE : Env := mkE ty [] [] [] [] 0 (fun _ => false)
theorem two_ev (xs : List Int) : evFn twoE Try.f25 [.r .u64 8 xs] = some [(.mine, .r .u64 2 [xs.getD 0 0, xs.getD 1 0])] := by kernel_rfl
theorem two_he : ∀ ds κ r, (∀ d ∈ ds, d.wf) → twoC ds κ = some r → ∃ res, κ res = some r ∧ evFn twoE Try.f25 ds = some res := fun ds κ r hw h => by
  unfold twoC at h
  split at h
  case h_2 => cases h
  rename_i xs
  exact ⟨_, h, two_ev xs⟩
theorem two_fn : FnOK Try.prog 25 twoC := fnOK_mk T mixed Try.func25 (by kernel_rfl) (fns := []) (lps := []) (live := []) (out := []) (fuel := 0) (give := (fun _ => false)) trivial trivial two_he
def fourC : FnC := fun ds κ => match ds with
  | [.r .u64 8 xs] => κ [(.mine, .r .u64 4 [xs.getD 0 0, xs.getD 1 0, xs.getD 2 0, xs.getD 3 0])]
  | _ => none
def fourE : Env := mkE ty [] [] [] [] 0 (fun _ => false)
theorem four_ev (xs : List Int) : evFn fourE Try.f27 [.r .u64 8 xs] = some [(.mine, .r .u64 4 [xs.getD 0 0, xs.getD 1 0, xs.getD 2 0, xs.getD 3 0])] := by kernel_rfl
theorem four_he : ∀ ds κ r, (∀ d ∈ ds, d.wf) → fourC ds κ = some r → ∃ res, κ res = some r ∧ evFn fourE Try.f27 ds = some res := fun ds κ r hw h => by
  unfold fourC at h
  split at h
  case h_2 => cases h
  rename_i xs
  exact ⟨_, h, four_ev xs⟩
theorem four_fn : FnOK Try.prog 27 fourC := fnOK_mk T mixed Try.func27 (by kernel_rfl) (fns := []) (lps := []) (live := []) (out := []) (fuel := 0) (give := (fun _ => false)) trivial trivial four_he
theorem take_1 {xs : List Int} (h : xs.length = 8) : xs.take 1 = [xs.getD 0 0] := by
  match xs, h with
  | [_, _, _, _, _, _, _, _], _ => rfl
theorem take_2 {xs : List Int} (h : xs.length = 8) : xs.take 2 = [xs.getD 0 0, xs.getD 1 0] := by
  match xs, h with
  | [_, _, _, _, _, _, _, _], _ => rfl
theorem take_4 {xs : List Int} (h : xs.length = 8) : xs.take 4 = [xs.getD 0 0, xs.getD 1 0, xs.getD 2 0, xs.getD 3 0] := by
  match xs, h with
  | [_, _, _, _, _, _, _, _], _ => rfl

/-! ### added -/
def addedB (s : List Int) (c : Int) (a b : List Int) : Bool := decide (val s = (val a + val b) % 18446744073709551616 ^ a.length) && decide (c.toNat = (val a + val b) / 18446744073709551616 ^ a.length)
def addedC : FnC := fun ds κ => match ds with
  | [.w .u64 s, .p (.int .u64 c), .w .u64 a, .w .u64 b] => cond (decide (a.length ≤ 1000000 ∧ b.length ≤ 1000000)) (κ [(.mine, .p (.bool (addedB s c a b)))]) none
  | _ => none
def addedE : Env := mkE ty [(72, addC), (71, cutC), (73, isC)] [] [] [] 0 (fun _ => false)
theorem added_ev (s : List Int) (c : Int) (a b : List Int) : evFn addedE Try.f29 [.w .u64 s, .p (.int .u64 c), .w .u64 a, .w .u64 b] =
    cond (decide (a.length ≤ 549755813888 ∧ b.length ≤ 549755813888)) (cond (decide ((words (val a + val b)).length ≤ 1048576 ∧ 0 ≤ (a.length : Int) ∧ (a.length : Int) ≤ 1048576))
      (cond (decide (val s = val (words (val (words (val a + val b)) % 18446744073709551616 ^ (a.length : Int).toNat))))
        (some [(.mine, .p (.bool (decide (val [c] = val (words (val (words (val a + val b)) / 18446744073709551616 ^ (a.length : Int).toNat))))))]) (some [(.mine, .p (.bool false))])) none) none := by kernel_rfl
theorem added_he : ∀ ds κ r, (∀ d ∈ ds, d.wf) → addedC ds κ = some r → ∃ res, κ res = some r ∧ evFn addedE Try.f29 ds = some res := fun ds κ r hw h => by
  unfold addedC at h
  split at h
  case h_2 => cases h
  rename_i s c a b
  obtain ⟨hc, h⟩ := cond_none h
  obtain ⟨h1, h2⟩ := of_decide_eq_true hc
  have ha := (wfW hw (xs := a) (by simp)).2
  have hb := (wfW hw (xs := b) (by simp)).2
  refine ⟨_, h, (added_ev s c a b).trans ?_⟩
  have hlt : wlen (val a + val b) ≤ 1000001 := wlen_add (Nat.le_trans (wlen_val ha) h1) (Nat.le_trans (wlen_val hb) h2)
  rw [length_words, val_words, val_words, val_words, Int.toNat_natCast, decide_eq_true (by omega), cond_true, decide_eq_true (by omega), cond_true]
  unfold addedB
  have e : val [c] = c.toNat := by simp [val]
  rw [e]
  cases decide (val s = (val a + val b) % 18446744073709551616 ^ a.length) <;> rfl
theorem added_fn : FnOK Try.prog 29 addedC := fnOK_mk T mixed Try.func29 (by kernel_rfl) (fns := [(72, addC), (71, cutC), (73, isC)]) (lps := []) (live := []) (out := []) (fuel := 0) (give := (fun _ => false)) ⟨add_fn, cut_fn, is_fn, trivial⟩ trivial added_he
end
end Go.Proofs.Ytmjbikbakkbajaa.Vm
