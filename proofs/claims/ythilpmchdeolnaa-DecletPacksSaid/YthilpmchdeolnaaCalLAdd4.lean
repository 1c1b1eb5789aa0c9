/-
  What limbs.Add at width 4 comes to: a walk. No statement is proved here. (Printed by limbs.py of this session.)
-/
import Derived.Test.YthilpmchdeolnaaCalK
namespace Go.Proofs.Ythilpmchdeolnaa.Vm
open Go Go.Vm
noncomputable section
def lAdd4C : FnC := fun ds κ => match ds with
  | [.r .u64 4 xs, .r .u64 4 ys] => κ [(.mine, .r .u64 4 (wordsN 4 (val xs + val ys))), (.mine, .p (.int .u64 (((val xs + val ys) / 18446744073709551616 ^ 4 : Nat) : Int)))]
  | _ => none
def lAdd4L : LpC := lpC 29 [2, 3, 4, 6, 9, 10] fun vs m κ => match vs, m with
  | [.o (.a 0 0), .o (.a 1 0), .o (.a 2 0), .o (.p (.int .u64 c)), .o (.p (.int .i64 n)), .o (.p (.int .i64 i))], [(.mine, .w .u64 4 xs), (.mine, .w .u64 4 ys), (.mine, .w .u64 4 zs)] =>
    cond (decide (c = 0 ∧ n = 4 ∧ i = 0)) (κ (.exit 0) (lay 29 [2, 4, 6] [.o (.a 0 0), .o (.a 1 0), .o (.p (.int .u64 (((val xs + val ys) / 18446744073709551616 ^ 4 : Nat) : Int)))]) [(.mine, .w .u64 4 (wordsN 4 (val xs + val ys))), (.mine, .w .u64 4 zs)]) none
  | _, _ => none
def lAdd4E : Env := mkE ty [(64, add64C)] [(0, lAdd4L)] [(0, [2, 3, 4, 6, 9, 10])] [(0, [2, 4, 6])] 0 (fun _ => false)
def lAdd4St (c n i : Int) : List V := lay 29 [2, 3, 4, 6, 9, 10] [.o (.a 0 0), .o (.a 1 0), .o (.a 2 0), .o (.p (.int .u64 c)), .o (.p (.int .i64 n)), .o (.p (.int .i64 i))]
theorem lAdd4_round (c n i : Int) (xs ys zs : List Int) (f : Nat) (κ : X → List V → Mem → R) :
    lx lAdd4E Try.f41 0 (f + 1) (lAdd4St c n i) [(.mine, .w .u64 4 xs), (.mine, .w .u64 4 ys), (.mine, .w .u64 4 zs)] κ =
      cond (decide (i < n)) (cond (decide (0 ≤ i ∧ i < ((4 : Nat) : Int))) (cond (decide (0 + i.toNat < 4)) (cond (decide (0 ≤ i ∧ i < ((4 : Nat) : Int))) (cond (decide (0 + i.toNat < 4)) (cond (decide (c ≤ 1)) (cond (decide (0 ≤ i ∧ i < ((4 : Nat) : Int)))
        (cond (decide (0 + i.toNat < 4 ∧ IntKind.u64 = IntKind.u64 ∧ (Ty.i .u64).size = 1))
        (lx lAdd4E Try.f41 0 f (lAdd4St ((xs.getD (0 + i.toNat) 0 + ys.getD (0 + i.toNat) 0 + c) / 18446744073709551616) n (IntKind.i64.wrap (i + 1)))
          [(.mine, .w .u64 4 (xs.set (0 + i.toNat) ((xs.getD (0 + i.toNat) 0 + ys.getD (0 + i.toNat) 0 + c) % 18446744073709551616))), (.mine, .w .u64 4 ys), (.mine, .w .u64 4 zs)] κ) none) none) none) none) none) none) none)
      (κ (.exit 0) (lay 29 [2, 4, 6] [.o (.a 0 0), .o (.a 1 0), .o (.p (.int .u64 c))]) [(.mine, .w .u64 4 xs), (.mine, .w .u64 4 zs)]) := by kernel_rfl
theorem lAdd4_loop (xs ys zs : List Int) (hx : inR .u64 xs) (hy : inR .u64 ys) (hxl : xs.length = 4) (hyl : ys.length = 4) (κ : X → List V → Mem → R) : ∀ (k i : Nat) (c : Nat) (out : List Int), i + k = 4 → c ≤ 1 → inR .u64 out → out.length = 4 → out.drop i = xs.drop i →
    val (out.take i) + 18446744073709551616 ^ i * c = val xs % 18446744073709551616 ^ i + val ys % 18446744073709551616 ^ i →
    lx lAdd4E Try.f41 0 (k + 1) (lAdd4St c 4 i) [(.mine, .w .u64 4 out), (.mine, .w .u64 4 ys), (.mine, .w .u64 4 zs)] κ =
      κ (.exit 0) (lay 29 [2, 4, 6] [.o (.a 0 0), .o (.a 1 0), .o (.p (.int .u64 (((val xs + val ys) / 18446744073709551616 ^ 4 : Nat) : Int)))]) [(.mine, .w .u64 4 (wordsN 4 (val xs + val ys))), (.mine, .w .u64 4 zs)] := by
  intro k
  induction k with
  | zero =>
    intro i c out hi hc hR hl hd hv
    rw [lAdd4_round, decide_eq_false (by omega), cond_false]
    have hi : i = 4 := by omega
    subst hi
    have hA : val xs < 18446744073709551616 ^ 4 := hxl ▸ val_lt hx
    have hB : val ys < 18446744073709551616 ^ 4 := hyl ▸ val_lt hy
    rw [List.take_of_length_le (by omega), Nat.mod_eq_of_lt hA, Nat.mod_eq_of_lt hB] at hv
    obtain ⟨e1, e2⟩ := add_end (K := 4) hR hl hv
    rw [e1, e2]
  | succ k ih =>
    intro i c out hi hc hR hl hd hv
    have e1 : 0 + ((i : Nat) : Int).toNat = i := by omega
    have d1 : decide ((i : Int) < 4) = true := decide_eq_true (by omega)
    have d2 : decide ((0 : Int) ≤ (i : Int) ∧ (i : Int) < ((4 : Nat) : Int)) = true := decide_eq_true (by omega)
    have d3 : decide (i < 4) = true := decide_eq_true (by omega)
    have d4 : decide (i < 4 ∧ IntKind.u64 = IntKind.u64 ∧ (Ty.i .u64).size = 1) = true := decide_eq_true ⟨by omega, rfl, rfl⟩
    rw [lAdd4_round, e1, d1, cond_true, d2, cond_true, d3, cond_true, cond_true, cond_true, decide_eq_true (by omega), cond_true, cond_true, d4, cond_true, i64_wrap (by omega) (by omega), getD_of_drop hd]
    have ax := inR_at hx i
    have ay := inR_at hy i
    generalize hX : xs.getD i 0 = x at *
    generalize hY : ys.getD i 0 = y at *
    have ec : (x + y + (c : Int)) / 18446744073709551616 = (((x.toNat + y.toNat + c) / 18446744073709551616 : Nat) : Int) := by omega
    have es : ((x + y + (c : Int)) % 18446744073709551616).toNat = (x.toNat + y.toNat + c) % 18446744073709551616 := by omega
    rw [ec]
    refine ih (i + 1) _ _ (by omega) (by omega) (inR_set hR i (by omega) (by omega)) (by simpa using hl) ?_ ?_
    · rw [drop_set_same, ← List.drop_drop, hd, List.drop_drop]
    · skip
      rw [val_take_set (by omega), es, mod_step_at hx, mod_step_at hy, hX, hY, Nat.pow_succ]
      exact carry_step hv (Nat.mod_add_div _ _)
theorem lAdd4L_ok : LoopOK lAdd4E 0 (lbody Try.f41 0) lAdd4L := loopOK_lx fun vs m κ r hv hm h => by
  split at h
  case h_2 => cases h
  rename_i c n i xs ys zs
  replace h := cond_none h
  obtain ⟨hc, h⟩ := h
  obtain ⟨rfl, rfl, rfl⟩ := of_decide_eq_true hc
  obtain ⟨hx1, _, hx3⟩ := hm 0 _ _ rfl
  obtain ⟨hy1, _, hy3⟩ := hm 1 _ _ rfl
  exact ⟨_, (lAdd4_loop xs ys zs hx3 hy3 hx1 hy1 κ 4 0 0 xs (by omega) (by omega) hx3 hx1 rfl (by simp [val, Nat.mod_one])).trans h⟩
theorem lAdd4_ev (xs ys : List Int) : evFn lAdd4E Try.f41 [.r .u64 4 xs, .r .u64 4 ys] =
    some [(.mine, .r .u64 4 (wordsN 4 (val xs + val ys))), (.mine, .p (.int .u64 (((val xs + val ys) / 18446744073709551616 ^ 4 : Nat) : Int)))] := by kernel_rfl
theorem lAdd4_he : ∀ ds κ r, (∀ d ∈ ds, d.wf) → lAdd4C ds κ = some r → ∃ res, κ res = some r ∧ evFn lAdd4E Try.f41 ds = some res := fun ds κ r hw h => by
  unfold lAdd4C at h
  split at h
  case h_2 => cases h
  rename_i xs ys
  exact ⟨_, h, lAdd4_ev xs ys⟩
theorem lAdd4_fn : FnOK Try.prog 41 lAdd4C := fnOK_mk T mixed Try.func41 (by kernel_rfl) (fns := [(64, add64C)]) (lps := [(0, lAdd4L)]) (live := [(0, [2, 3, 4, 6, 9, 10])]) (out := [(0, [2, 4, 6])]) (fuel := 0) (give := (fun _ => false)) ⟨add64_fn, trivial⟩ ⟨lAdd4L_ok, trivial⟩ lAdd4_he
end
end Go.Proofs.Ythilpmchdeolnaa.Vm
