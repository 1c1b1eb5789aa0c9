/-
  What limbs.Div at width 4 comes to: a walk. No statement is proved here. (Printed by limbs.py of this session.)
-/
import Derived.Test.YthilpmchdeolnaaCalS
namespace Go.Proofs.Ythilpmchdeolnaa.Vm
open Go Go.Vm
noncomputable section
def lDiv4C : FnC := fun ds κ => match ds with
  | [.r .u64 4 xs, .p (.int .u64 n)] => κ [(.mine, .r .u64 4 (wordsN 4 (val xs / n.toNat))), (.mine, .p (.int .u64 (if n = 0 then 0 else ((val xs % n.toNat : Nat) : Int))))]
  | _ => none
def lDiv4L : LpC := lpC 32 [1, 2, 4, 6, 7, 8] fun vs m κ => match vs, m with
  | [.o (.p (.int .u64 n)), .o (.a 0 0), .o (.a 1 0), .o (.a 2 0), .o (.p (.int .u64 r)), .o (.p (.int .i64 i))], [(.mine, .w .u64 4 xs), (.mine, .w .u64 4 zs), (.mine, .w .u64 4 out)] =>
    cond (decide (0 < n ∧ r = 0 ∧ i = 3 ∧ val out = 0)) (κ (.exit 0) (lay 32 [4, 6, 7] [.o (.a 0 0), .o (.a 1 0), .o (.p (.int .u64 (((val xs % n.toNat : Nat) : Int))))]) [(.mine, .w .u64 4 zs), (.mine, .w .u64 4 (wordsN 4 (val xs / n.toNat)))]) none
  | _, _ => none
def lDiv4E : Env := mkE ty [(63, div64C)] [(0, lDiv4L)] [(0, [1, 2, 4, 6, 7, 8])] [(0, [4, 6, 7])] 0 (fun _ => false)
theorem lDiv4_round (n r i : Int) (xs zs out : List Int) (f : Nat) (κ : X → List V → Mem → R) :
    lx lDiv4E Try.f38 0 (f + 1) (lay 32 [1, 2, 4, 6, 7, 8] [.o (.p (.int .u64 n)), .o (.a 0 0), .o (.a 1 0), .o (.a 2 0), .o (.p (.int .u64 (r))), .o (.p (.int .i64 (i)))]) [(.mine, .w .u64 4 xs), (.mine, .w .u64 4 zs), (.mine, .w .u64 4 (out))] κ =
      cond (decide (i ≥ 0)) (cond (decide (0 ≤ i ∧ i < ((4 : Nat) : Int))) (cond (decide (0 + i.toNat < 4)) (cond (decide (r < n)) (cond (decide (0 ≤ i ∧ i < ((4 : Nat) : Int))) (cond (decide (0 + i.toNat < 4 ∧ IntKind.u64 = IntKind.u64 ∧ (Ty.i .u64).size = 1))
        (lx lDiv4E Try.f38 0 f (lay 32 [1, 2, 4, 6, 7, 8] [.o (.p (.int .u64 n)), .o (.a 0 0), .o (.a 1 0), .o (.a 2 0), .o (.p (.int .u64 ((((r.toNat * 18446744073709551616 + (xs.getD (0 + i.toNat) 0).toNat) % n.toNat : Nat) : Int)))), .o (.p (.int .i64 (IntKind.i64.wrap (i - 1))))]) [(.mine, .w .u64 4 xs), (.mine, .w .u64 4 zs), (.mine, .w .u64 4 (out.set (0 + i.toNat) (((r.toNat * 18446744073709551616 + (xs.getD (0 + i.toNat) 0).toNat) / n.toNat : Nat) : Int)))] κ) none) none) none) none) none)
        (κ (.exit 0) (lay 32 [4, 6, 7] [.o (.a 0 0), .o (.a 1 0), .o (.p (.int .u64 (r)))]) [(.mine, .w .u64 4 zs), (.mine, .w .u64 4 (out))]) := by kernel_rfl
theorem lDiv4_loop (xs zs : List Int) (hx : inR .u64 xs) (n : Nat) (hn : 0 < n) (κ : X → List V → Mem → R) : ∀ (k : Nat), k ≤ 4 →
    lx lDiv4E Try.f38 0 (k + 1) (lay 32 [1, 2, 4, 6, 7, 8] [.o (.p (.int .u64 n)), .o (.a 0 0), .o (.a 1 0), .o (.a 2 0), .o (.p (.int .u64 (((val xs / 18446744073709551616 ^ k % n : Nat) : Int)))), .o (.p (.int .i64 ((k : Int) - 1)))]) [(.mine, .w .u64 4 xs), (.mine, .w .u64 4 zs), (.mine, .w .u64 4 (List.replicate (min k 4) 0 ++ (wordsN 4 (val xs / n)).drop k))] κ = κ (.exit 0) (lay 32 [4, 6, 7] [.o (.a 0 0), .o (.a 1 0), .o (.p (.int .u64 (((val xs % n : Nat) : Int))))]) [(.mine, .w .u64 4 zs), (.mine, .w .u64 4 (wordsN 4 (val xs / n)))] := by
  intro k
  induction k with
  | zero =>
    intro _
    rw [lDiv4_round, decide_eq_false (by omega), cond_false, Nat.pow_zero, Nat.div_one]
    rfl
  | succ k ih =>
    intro hk
    have e0 : ((k + 1 : Nat) : Int) - 1 = (k : Int) := by omega
    have e1 : 0 + ((k : Nat) : Int).toNat = k := by omega
    have next := ih (by omega)
    obtain ⟨s1, s2, s3⟩ := div_step hx k hn
    have d2 : decide ((0 : Int) ≤ (k : Int) ∧ (k : Int) < ((4 : Nat) : Int)) = true := decide_eq_true (by omega)
    have d3 : decide (k < 4) = true := decide_eq_true (by omega)
    have d4 : decide (k < 4 ∧ IntKind.u64 = IntKind.u64 ∧ (Ty.i .u64).size = 1) = true := decide_eq_true ⟨by omega, rfl, rfl⟩
    have d5 : decide (((val xs / 18446744073709551616 ^ (k + 1) % n : Nat) : Int) < (n : Int)) = true := decide_eq_true (Int.ofNat_lt.2 (Nat.mod_lt _ hn))
    rw [lDiv4_round, e0, e1, decide_eq_true (by omega), cond_true, d2, cond_true, d3, cond_true, d5, cond_true, cond_true, d4, cond_true, Int.toNat_natCast, Int.toNat_natCast, s1, s2, set_high (by omega), i64_wrap (by omega) (by omega)]
    exact next
theorem lDiv4L_ok : LoopOK lDiv4E 0 (lbody Try.f38 0) lDiv4L := loopOK_lx fun vs m κ r hv hm h => by
  split at h
  case h_2 => cases h
  rename_i n r i xs zs out
  replace h := cond_none h
  obtain ⟨hc, h⟩ := h
  obtain ⟨h1, rfl, rfl, h5⟩ := of_decide_eq_true hc
  obtain ⟨hx1, _, hx3⟩ := hm 0 _ _ rfl
  obtain ⟨ho1, _, ho3⟩ := hm 2 _ _ rfl
  have hn := u64_iff.1 (hv (.o (.p (.int .u64 n))) (by simp))
  obtain ⟨n, rfl⟩ := Int.eq_ofNat_of_zero_le hn.1
  rw [Int.toNat_natCast] at h
  have key := lDiv4_loop xs zs hx3 n (by omega) κ 4 (Nat.le_refl _)
  have e1 : val xs / 18446744073709551616 ^ 4 % n = 0 := by rw [Nat.div_eq_of_lt (hx1 ▸ val_lt hx3), Nat.zero_mod]
  have e2 : List.replicate (min 4 4) 0 ++ (wordsN 4 (val xs / n)).drop 4 = out := by
    rw [List.drop_eq_nil_of_le (by rw [length_wordsN]; exact Nat.le_refl _), wordsN_eq ho3 ho1 h5]
    rfl
  rw [e1, e2] at key
  exact ⟨_, key.trans h⟩
theorem lDiv4_ev (xs : List Int) (n : Int) : evFn lDiv4E Try.f38 [.r .u64 4 xs, .p (.int .u64 n)] =
    cond (n == 0) (some [(.mine, .r .u64 4 (List.replicate 4 0)), (.mine, .p (.int .u64 0))])
      (cond (decide (0 < n ∧ (0 : Int) = 0 ∧ (3 : Int) = 3 ∧ val (List.replicate 4 0) = 0))
        (some [(.mine, .r .u64 4 (wordsN 4 (val xs / n.toNat))), (.mine, .p (.int .u64 ((val xs % n.toNat : Nat) : Int)))]) none) := by kernel_rfl
theorem lDiv4_he : ∀ ds κ r, (∀ d ∈ ds, d.wf) → lDiv4C ds κ = some r → ∃ res, κ res = some r ∧ evFn lDiv4E Try.f38 ds = some res := fun ds κ r hw h => by
  unfold lDiv4C at h
  split at h
  case h_2 => cases h
  rename_i xs n
  refine ⟨_, h, (lDiv4_ev xs n).trans ?_⟩
  have hn := wfU hw (x := n) (by simp)
  by_cases h0 : n = 0
  · subst h0
    rw [beq_self_eq_true, cond_true, if_pos rfl, Int.toNat_zero, Nat.div_zero]
    rfl
  · rw [beq_eq_false_iff_ne.2 h0, cond_false, if_neg h0, val_zeros, decide_eq_true ⟨by omega, rfl, rfl, rfl⟩, cond_true]
theorem lDiv4_fn : FnOK Try.prog 38 lDiv4C := fnOK_mk T mixed Try.func38 (by kernel_rfl) (fns := [(63, div64C)]) (lps := [(0, lDiv4L)]) (live := [(0, [1, 2, 4, 6, 7, 8])]) (out := [(0, [4, 6, 7])]) (fuel := 0) (give := (fun _ => false)) ⟨div64_fn, trivial⟩ ⟨lDiv4L_ok, trivial⟩ lDiv4_he
end
end Go.Proofs.Ythilpmchdeolnaa.Vm
