/-
  What caliperlaw01's own functions come to: walks. No statement is proved here.
-/
import Derived.Test.YtmjbikbakkbajaaCalR
namespace Go.Proofs.Ytmjbikbakkbajaa.Vm
open Go Go.Vm
noncomputable section

def isC : FnC := fun ds κ => match ds with
  | [.w .u64 xs, .w .u64 ys] => κ [(.mine, .p (.bool (decide (val xs = val ys))))]
  | _ => none
def isE : Env := mkE ty [(98, sameC)] [] [] [] 0 (fun _ => false)
theorem is_ev (xs ys : List Int) : evFn isE Try.f73 [.w .u64 xs, .w .u64 ys] = some [(.mine, .p (.bool (decide (val xs = val ys))))] := by kernel_rfl
theorem is_he : ∀ ds κ r, (∀ d ∈ ds, d.wf) → isC ds κ = some r → ∃ res, κ res = some r ∧ evFn isE Try.f73 ds = some res := fun ds κ r hw h => by
  unfold isC at h
  split at h
  case h_2 => cases h
  rename_i xs ys
  exact ⟨_, h, is_ev xs ys⟩
theorem is_fn : FnOK Try.prog 73 isC := fnOK_mk T mixed Try.func73 (by kernel_rfl) (fns := [(98, sameC)]) (lps := []) (live := []) (out := []) (fuel := 0) (give := (fun _ => false)) ⟨same_fn, trivial⟩ trivial is_he

/-! ### cut -/
def cutC : FnC := fun ds κ => match ds with
  | [.w .u64 xs, .p (.int .i64 n)] => cond (decide (xs.length ≤ 1048576 ∧ 0 ≤ n ∧ n ≤ 1048576)) (κ [(.new, .w .u64 (words (val xs % 18446744073709551616 ^ n.toNat))), (.new, .w .u64 (words (val xs / 18446744073709551616 ^ n.toNat)))]) none
  | _ => none
def cutE : Env := mkE ty [(83, rightC), (78, leftC), (79, lessC)] [] [] [] 0 (fun _ => false)
theorem cut_ev (xs : List Int) (n : Int) : evFn cutE Try.f71 [.w .u64 xs, .p (.int .i64 n)] =
    let m := IntKind.i64.wrap (64 * n)
    let hi := words (val xs / 2 ^ m.toNat)
    let back := words (val hi * 2 ^ m.toNat)
    cond (decide (xs.length ≤ 274877906944 ∧ 0 ≤ m)) (cond (decide (hi.length ≤ 274877906944 ∧ 0 ≤ m ∧ m ≤ 1099511627776)) (cond (decide (xs.length ≤ 549755813888 ∧ back.length ≤ 549755813888 ∧ val back ≤ val xs))
      (some [(.new, .w .u64 (words (val xs - val back))), (.new, .w .u64 hi)]) none) none) none := by kernel_rfl
theorem wlen_le_of_le {a : Nat} {xs : List Int} (hx : inR .u64 xs) (h : a ≤ val xs) : wlen a ≤ xs.length := Nat.le_trans (wlen_mono h) (wlen_val hx)
theorem cut_he : ∀ ds κ r, (∀ d ∈ ds, d.wf) → cutC ds κ = some r → ∃ res, κ res = some r ∧ evFn cutE Try.f71 ds = some res := fun ds κ r hw h => by
  unfold cutC at h
  split at h
  case h_2 => cases h
  rename_i xs n
  obtain ⟨hc, h⟩ := cond_none h
  obtain ⟨h1, h2, h3⟩ := of_decide_eq_true hc
  have hx := (wfW hw (xs := xs) (by simp)).2
  refine ⟨_, h, (cut_ev xs n).trans ?_⟩
  obtain ⟨n, rfl⟩ := Int.eq_ofNat_of_zero_le h2
  have e : IntKind.i64.wrap (64 * (n : Int)) = ((64 * n : Nat) : Int) := by rw [i64_wrap (by omega) (by omega)]; rfl
  dsimp only
  rw [e, Int.toNat_natCast, Int.toNat_natCast, ← pow64, val_words, val_words, length_words, length_words]
  have hd : val xs / 18446744073709551616 ^ n * 18446744073709551616 ^ n ≤ val xs := Nat.div_mul_le_self _ _
  have w1 := wlen_le_of_le hx (Nat.div_le_self (val xs) (18446744073709551616 ^ n))
  have w2 := wlen_le_of_le hx hd
  have em : val xs - val xs / 18446744073709551616 ^ n * 18446744073709551616 ^ n = val xs % 18446744073709551616 ^ n := by
    have := Nat.mod_add_div (val xs) (18446744073709551616 ^ n)
    rw [Nat.mul_comm] at this
    omega
  rw [decide_eq_true ⟨by omega, by omega⟩, cond_true, decide_eq_true ⟨by omega, by omega, by omega⟩, cond_true, decide_eq_true ⟨by omega, by omega, hd⟩, cond_true, em]
theorem cut_fn : FnOK Try.prog 71 cutC := fnOK_mk T mixed Try.func71 (by kernel_rfl) (fns := [(83, rightC), (78, leftC), (79, lessC)]) (lps := []) (live := []) (out := []) (fuel := 0) (give := (fun _ => false)) ⟨right_fn, left_fn, less_fn, trivial⟩ trivial cut_he
end
end Go.Proofs.Ytmjbikbakkbajaa.Vm
