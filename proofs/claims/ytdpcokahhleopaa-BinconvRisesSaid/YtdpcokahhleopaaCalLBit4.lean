/-
  What limbs.Bit at width 4 comes to: a walk. No statement is proved here. (Printed by limbs.py of this session.)
-/
import Derived.Test.YtdpcokahhleopaaCalK
namespace Go.Proofs.Ytdpcokahhleopaa.Vm
open Go Go.Vm
noncomputable section
def lBit4C : FnC := fun ds κ => match ds with
  | [.r .u64 4 xs, .p (.int .i64 n)] => κ [(.mine, .p (.int .u64 (if n < 0 then 0 else ((val xs / 2 ^ n.toNat % 2 : Nat) : Int))))]
  | _ => none
def lBit4E : Env := mkE ty [] [] [] [] 0 (fun _ => false)
theorem lBit4_ev (xs : List Int) (n : Int) : evFn lBit4E Try.f61 [.r .u64 4 xs, .p (.int .i64 n)] =
    let q := IntKind.i64.wrap (n.tdiv 64)
    cond (decide (n < 0)) (some [(.mine, .p (.int .u64 0))]) (cond (decide (n ≥ 256)) (some [(.mine, .p (.int .u64 0))])
      (cond (decide (0 ≤ q ∧ q < ((4 : Nat) : Int))) (cond (decide (0 + q.toNat < 4)) (cond (decide (n.tmod 64 < 0)) none
        (some [(.mine, .p (.int .u64 (Go.bits .and .u64 (shrI .u64 (xs.getD (0 + q.toNat) 0) (n.tmod 64)) 1)))])) none) none)) := by kernel_rfl
theorem lBit4_he : ∀ ds κ r, (∀ d ∈ ds, d.wf) → lBit4C ds κ = some r → ∃ res, κ res = some r ∧ evFn lBit4E Try.f61 ds = some res := fun ds κ r hw h => by
  unfold lBit4C at h
  split at h
  case h_2 => cases h
  rename_i xs n
  refine ⟨_, h, (lBit4_ev xs n).trans ?_⟩
  obtain ⟨hl, hx⟩ := wfR hw (xs := xs) (n := 4) (by simp)
  simp only []
  by_cases h0 : n < 0
  · rw [decide_eq_true h0, cond_true, if_pos h0]
  · rw [decide_eq_false h0, cond_false, if_neg h0]
    obtain ⟨n, rfl⟩ := Int.eq_ofNat_of_zero_le (show 0 ≤ n by omega)
    rw [Int.toNat_natCast, tdiv64, tmod64]
    by_cases h1 : n ≥ 256
    · have h2 : val xs / 2 ^ n = 0 := by
        refine Nat.div_eq_of_lt (Nat.lt_of_lt_of_le (val_lt hx) ?_)
        rw [pow64]
        exact Nat.pow_le_pow_right (by decide) (by omega)
      rw [decide_eq_true (by omega), cond_true, h2]
      rfl
    · have hw := inR_at hx (n / 64)
      rw [decide_eq_false (by omega), cond_false, i64_wrap (x := ((n / 64 : Nat) : Int)) (by omega) (by omega), decide_eq_true (by omega), cond_true, Int.toNat_natCast, Nat.zero_add, decide_eq_true (by omega), cond_true, decide_eq_false (by omega), cond_false, bit_word hx n]
theorem lBit4_fn : FnOK Try.prog 61 lBit4C := fnOK_mk T mixed Try.func61 (by kernel_rfl) (fns := []) (lps := []) (live := []) (out := []) (fuel := 0) (give := (fun _ => false)) trivial trivial lBit4_he
end
end Go.Proofs.Ytdpcokahhleopaa.Vm
