/-
  What limbs.Mul at width 4 comes to: a walk. No statement is proved here. (Printed by limbs.py of this session.)
-/
import Derived.Test.YthilpmchdeolnaaCalK
namespace Go.Proofs.Ythilpmchdeolnaa.Vm
open Go Go.Vm
noncomputable section
def lMul4C : FnC := fun ds κ => match ds with
  | [.r .u64 4 xs, .p (.int .u64 x)] => κ [(.mine, .r .u64 4 (wordsN 4 (val xs * x.toNat))), (.mine, .p (.int .u64 ((val xs * x.toNat / 18446744073709551616 ^ 4 : Nat) : Int)))]
  | _ => none
def lMul4L : LpC := lpC 38 [1, 2, 4, 6, 12, 13] fun vs m κ => match vs, m with
  | [.o (.p (.int .u64 x)), .o (.a 0 0), .o (.a 1 0), .o (.p (.int .u64 c)), .o (.p (.int .i64 n)), .o (.p (.int .i64 i))], [(.mine, .w .u64 4 xs), (.mine, .w .u64 4 zs)] =>
    cond (decide (c = 0 ∧ n = 4 ∧ i = 0)) (κ (.exit 0) (lay 38 [2, 4, 6] [.o (.a 0 0), .o (.a 1 0), .o (.p (.int .u64 ((val xs * x.toNat / 18446744073709551616 ^ 4 : Nat) : Int)))]) [(.mine, .w .u64 4 (wordsN 4 (val xs * x.toNat))), (.mine, .w .u64 4 zs)]) none
  | _, _ => none
def lMul4E : Env := mkE ty [(65, mul64C), (64, add64C)] [(0, lMul4L)] [(0, [1, 2, 4, 6, 12, 13])] [(0, [2, 4, 6])] 0 (fun _ => false)
def lMul4St (x c n i : Int) : List V := lay 38 [1, 2, 4, 6, 12, 13] [.o (.p (.int .u64 x)), .o (.a 0 0), .o (.a 1 0), .o (.p (.int .u64 c)), .o (.p (.int .i64 n)), .o (.p (.int .i64 i))]
theorem lMul4_round (x c n i : Int) (xs zs : List Int) (f : Nat) (κ : X → List V → Mem → R) :
    lx lMul4E Try.f46 0 (f + 1) (lMul4St x c n i) [(.mine, .w .u64 4 xs), (.mine, .w .u64 4 zs)] κ =
      cond (decide (i < n)) (cond (decide (0 ≤ i ∧ i < ((4 : Nat) : Int))) (cond (decide (0 + i.toNat < 4)) (cond (decide (0 ≤ i ∧ i < ((4 : Nat) : Int)))
        (cond (decide (0 + i.toNat < 4 ∧ IntKind.u64 = IntKind.u64 ∧ (Ty.i .u64).size = 1))
        (lx lMul4E Try.f46 0 f (lMul4St x (IntKind.u64.wrap (xs.getD (0 + i.toNat) 0 * x / 18446744073709551616 + (xs.getD (0 + i.toNat) 0 * x % 18446744073709551616 + c + 0) / 18446744073709551616)) n (IntKind.i64.wrap (i + 1)))
          [(.mine, .w .u64 4 (xs.set (0 + i.toNat) ((xs.getD (0 + i.toNat) 0 * x % 18446744073709551616 + c + 0) % 18446744073709551616))), (.mine, .w .u64 4 zs)] κ) none) none) none) none)
      (κ (.exit 0) (lay 38 [2, 4, 6] [.o (.a 0 0), .o (.a 1 0), .o (.p (.int .u64 c))]) [(.mine, .w .u64 4 xs), (.mine, .w .u64 4 zs)]) := by kernel_rfl
theorem lMul4_loop (xs zs : List Int) (hx : inR .u64 xs) (hxl : xs.length = 4) (x : Nat) (hxw : x < 18446744073709551616) (κ : X → List V → Mem → R) : ∀ (k i : Nat) (c : Nat) (out : List Int), i + k = 4 → c < 18446744073709551616 → inR .u64 out → out.length = 4 → out.drop i = xs.drop i →
    val (out.take i) + 18446744073709551616 ^ i * c = val (xs.take i) * x →
    lx lMul4E Try.f46 0 (k + 1) (lMul4St x c 4 i) [(.mine, .w .u64 4 out), (.mine, .w .u64 4 zs)] κ =
      κ (.exit 0) (lay 38 [2, 4, 6] [.o (.a 0 0), .o (.a 1 0), .o (.p (.int .u64 ((val xs * x / 18446744073709551616 ^ 4 : Nat) : Int)))]) [(.mine, .w .u64 4 (wordsN 4 (val xs * x))), (.mine, .w .u64 4 zs)] := by
  intro k
  induction k with
  | zero =>
    intro i c out hi hc hR hl hd hv
    rw [lMul4_round, decide_eq_false (by omega), cond_false]
    have hi : i = 4 := by omega
    subst hi
    rw [List.take_of_length_le (by omega), List.take_of_length_le (by omega)] at hv
    have hv' : val out + 18446744073709551616 ^ 4 * c = val xs * x + 0 := hv
    obtain ⟨e1, e2⟩ := add_end (K := 4) hR hl hv'
    rw [Nat.add_zero] at e1 e2
    rw [e1, e2]
  | succ k ih =>
    intro i c out hi hc hR hl hd hv
    have e1 : 0 + ((i : Nat) : Int).toNat = i := by omega
    have d1 : decide ((i : Int) < 4) = true := decide_eq_true (by omega)
    have d2 : decide ((0 : Int) ≤ (i : Int) ∧ (i : Int) < ((4 : Nat) : Int)) = true := decide_eq_true (by omega)
    have d3 : decide (i < 4) = true := decide_eq_true (by omega)
    have d4 : decide (i < 4 ∧ IntKind.u64 = IntKind.u64 ∧ (Ty.i .u64).size = 1) = true := decide_eq_true ⟨by omega, rfl, rfl⟩
    rw [lMul4_round, e1, d1, cond_true, d2, cond_true, d3, cond_true, cond_true, d4, cond_true, i64_wrap (by omega) (by omega), getD_of_drop hd]
    have ax := inR_at hx i
    obtain ⟨a, hX⟩ := Int.eq_ofNat_of_zero_le ax.1
    have ha : a < 18446744073709551616 := by omega
    have hvx : val (xs.take (i + 1)) = val (xs.take i) + 18446744073709551616 ^ i * (xs.getD i 0).toNat := val_take_succ (by omega)
    obtain ⟨m1, m2, m3⟩ := mul_carry ha hxw hc
    rw [hX, Int.toNat_natCast] at hvx
    rw [hX, m1, m2]
    refine ih (i + 1) _ _ (by omega) m3 (inR_set hR i (Int.natCast_nonneg _) (Int.ofNat_lt.2 (Nat.mod_lt _ (by decide)))) (by simpa using hl) ?_ ?_
    · rw [drop_set_same, ← List.drop_drop, hd, List.drop_drop]
    · rw [val_take_set (by omega), hvx, Nat.pow_succ, Int.toNat_natCast, Nat.mul_assoc (18446744073709551616 ^ i), Nat.add_assoc, ← Nat.mul_add, Nat.mod_add_div, Nat.mul_add, Nat.add_mul, ← hv, Nat.mul_assoc (18446744073709551616 ^ i)]
      generalize 18446744073709551616 ^ i * (a * x) = q1
      generalize 18446744073709551616 ^ i * c = q2
      rw [Nat.add_assoc, Nat.add_comm q1 q2]
theorem lMul4L_ok : LoopOK lMul4E 0 (lbody Try.f46 0) lMul4L := loopOK_lx fun vs m κ r hv hm h => by
  split at h
  case h_2 => cases h
  rename_i x c n i xs zs
  replace h := cond_none h
  obtain ⟨hc, h⟩ := h
  obtain ⟨rfl, rfl, rfl⟩ := of_decide_eq_true hc
  obtain ⟨hx1, _, hx3⟩ := hm 0 _ _ rfl
  have hxw := u64_iff.1 (hv (.o (.p (.int .u64 x))) (by simp))
  obtain ⟨x, rfl⟩ := Int.eq_ofNat_of_zero_le hxw.1
  rw [Int.toNat_natCast] at h
  exact ⟨_, (lMul4_loop xs zs hx3 hx1 x (by omega) κ 4 0 0 xs (by omega) (by omega) hx3 hx1 rfl (by simp [val])).trans h⟩
theorem lMul4_ev (xs : List Int) (x : Int) : evFn lMul4E Try.f46 [.r .u64 4 xs, .p (.int .u64 x)] =
    some [(.mine, .r .u64 4 (wordsN 4 (val xs * x.toNat))), (.mine, .p (.int .u64 ((val xs * x.toNat / 18446744073709551616 ^ 4 : Nat) : Int)))] := by kernel_rfl
theorem lMul4_he : ∀ ds κ r, (∀ d ∈ ds, d.wf) → lMul4C ds κ = some r → ∃ res, κ res = some r ∧ evFn lMul4E Try.f46 ds = some res := fun ds κ r hw h => by
  unfold lMul4C at h
  split at h
  case h_2 => cases h
  rename_i xs x
  exact ⟨_, h, lMul4_ev xs x⟩
theorem lMul4_fn : FnOK Try.prog 46 lMul4C := fnOK_mk T mixed Try.func46 (by kernel_rfl) (fns := [(65, mul64C), (64, add64C)]) (lps := [(0, lMul4L)]) (live := [(0, [1, 2, 4, 6, 12, 13])]) (out := [(0, [2, 4, 6])]) (fuel := 0) (give := (fun _ => false)) ⟨mul64_fn, add64_fn, trivial⟩ ⟨lMul4L_ok, trivial⟩ lMul4_he
end
end Go.Proofs.Ythilpmchdeolnaa.Vm
