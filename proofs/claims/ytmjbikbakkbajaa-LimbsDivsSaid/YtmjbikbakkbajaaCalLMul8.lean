/-
  What limbs.Mul at width 8 comes to: a walk. No statement is proved here. (Printed by limbs.py of this session.)
-/
import Derived.Test.YtmjbikbakkbajaaCalK
namespace Go.Proofs.Ytmjbikbakkbajaa.Vm
open Go Go.Vm
noncomputable section
def lMul8C : FnC := fun ds κ => match ds with
  | [.r .u64 8 xs, .p (.int .u64 x)] => κ [(.mine, .r .u64 8 (wordsN 8 (val xs * x.toNat))), (.mine, .p (.int .u64 ((val xs * x.toNat / 18446744073709551616 ^ 8 : Nat) : Int)))]
  | _ => none
def lMul8L : LpC := lpC 38 [1, 2, 4, 6, 12, 13] fun vs m κ => match vs, m with
  | [.o (.p (.int .u64 x)), .o (.a 0 0), .o (.a 1 0), .o (.p (.int .u64 c)), .o (.p (.int .i64 n)), .o (.p (.int .i64 i))], [(.mine, .w .u64 8 xs), (.mine, .w .u64 8 zs)] =>
    cond (decide (c = 0 ∧ n = 8 ∧ i = 0)) (κ (.exit 0) (lay 38 [2, 4, 6] [.o (.a 0 0), .o (.a 1 0), .o (.p (.int .u64 ((val xs * x.toNat / 18446744073709551616 ^ 8 : Nat) : Int)))]) [(.mine, .w .u64 8 (wordsN 8 (val xs * x.toNat))), (.mine, .w .u64 8 zs)]) none
  | _, _ => none
def lMul8E : Env := mkE ty [(81, mul64C), (70, add64C)] [(0, lMul8L)] [(0, [1, 2, 4, 6, 12, 13])] [(0, [2, 4, 6])] 0 (fun _ => false)
def lMul8St (x c n i : Int) : List V := lay 38 [1, 2, 4, 6, 12, 13] [.o (.p (.int .u64 x)), .o (.a 0 0), .o (.a 1 0), .o (.p (.int .u64 c)), .o (.p (.int .i64 n)), .o (.p (.int .i64 i))]
theorem lMul8_round (x c n i : Int) (xs zs : List Int) (f : Nat) (κ : X → List V → Mem → R) :
    lx lMul8E Try.f48 0 (f + 1) (lMul8St x c n i) [(.mine, .w .u64 8 xs), (.mine, .w .u64 8 zs)] κ =
      cond (decide (i < n)) (cond (decide (0 ≤ i ∧ i < ((8 : Nat) : Int))) (cond (decide (0 + i.toNat < 8)) (cond (decide (0 ≤ i ∧ i < ((8 : Nat) : Int)))
        (cond (decide (0 + i.toNat < 8 ∧ IntKind.u64 = IntKind.u64 ∧ (Ty.i .u64).size = 1))
        (lx lMul8E Try.f48 0 f (lMul8St x (IntKind.u64.wrap (xs.getD (0 + i.toNat) 0 * x / 18446744073709551616 + (xs.getD (0 + i.toNat) 0 * x % 18446744073709551616 + c + 0) / 18446744073709551616)) n (IntKind.i64.wrap (i + 1)))
          [(.mine, .w .u64 8 (xs.set (0 + i.toNat) ((xs.getD (0 + i.toNat) 0 * x % 18446744073709551616 + c + 0) % 18446744073709551616))), (.mine, .w .u64 8 zs)] κ) none) none) none) none)
      (κ (.exit 0) (lay 38 [2, 4, 6] [.o (.a 0 0), .o (.a 1 0), .o (.p (.int .u64 c))]) [(.mine, .w .u64 8 xs), (.mine, .w .u64 8 zs)]) := by kernel_rfl
theorem lMul8_loop (xs zs : List Int) (hx : inR .u64 xs) (hxl : xs.length = 8) (x : Nat) (hxw : x < 18446744073709551616) (κ : X → List V → Mem → R) : ∀ (k i : Nat) (c : Nat) (out : List Int), i + k = 8 → c < 18446744073709551616 → inR .u64 out → out.length = 8 → out.drop i = xs.drop i →
    val (out.take i) + 18446744073709551616 ^ i * c = val (xs.take i) * x →
    lx lMul8E Try.f48 0 (k + 1) (lMul8St x c 8 i) [(.mine, .w .u64 8 out), (.mine, .w .u64 8 zs)] κ =
      κ (.exit 0) (lay 38 [2, 4, 6] [.o (.a 0 0), .o (.a 1 0), .o (.p (.int .u64 ((val xs * x / 18446744073709551616 ^ 8 : Nat) : Int)))]) [(.mine, .w .u64 8 (wordsN 8 (val xs * x))), (.mine, .w .u64 8 zs)] := by
  intro k
  induction k with
  | zero =>
    intro i c out hi hc hR hl hd hv
    rw [lMul8_round, decide_eq_false (by omega), cond_false]
    have hi : i = 8 := by omega
    subst hi
    rw [List.take_of_length_le (by omega), List.take_of_length_le (by omega)] at hv
    have hv' : val out + 18446744073709551616 ^ 8 * c = val xs * x + 0 := hv
    obtain ⟨e1, e2⟩ := add_end (K := 8) hR hl hv'
    rw [Nat.add_zero] at e1 e2
    rw [e1, e2]
  | succ k ih =>
    intro i c out hi hc hR hl hd hv
    have e1 : 0 + ((i : Nat) : Int).toNat = i := by omega
    have d1 : decide ((i : Int) < 8) = true := decide_eq_true (by omega)
    have d2 : decide ((0 : Int) ≤ (i : Int) ∧ (i : Int) < ((8 : Nat) : Int)) = true := decide_eq_true (by omega)
    have d3 : decide (i < 8) = true := decide_eq_true (by omega)
    have d4 : decide (i < 8 ∧ IntKind.u64 = IntKind.u64 ∧ (Ty.i .u64).size = 1) = true := decide_eq_true ⟨by omega, rfl, rfl⟩
    rw [lMul8_round, e1, d1, cond_true, d2, cond_true, d3, cond_true, cond_true, d4, cond_true, i64_wrap (by omega) (by omega), getD_of_drop hd]
    have ax := inR_at hx i
    obtain ⟨a, hX⟩ := Int.eq_ofNat_of_zero_le ax.1
    have ha : a < 18446744073709551616 := by omega
    have hvx : val (xs.take (i + 1)) = val (xs.take i) + 18446744073709551616 ^ i * (xs.getD i 0).toNat := val_take_succ (by omega)
    obtain ⟨m1, m2, m3⟩ := mul_carry ha hxw hc
    rw [hX, Int.toNat_natCast] at hvx
    rw [hX, m1, m2]
    refine ih (i + 1) _ _ (by omega) m3 (inR_set hR i (Int.natCast_nonneg _) (Int.ofNat_lt.2 (Nat.mod_lt _ (by decide)))) (by simpa using hl) ?_ ?_
    · rw [drop_set_same, ← List.drop_drop, hd, List.drop_drop]
    · rw [val_take_set (by omega), hvx, Nat.pow_succ, Int.toNat_natCast, Nat.mul_assoc (18446744073709551616 ^ i), Nat.add_assoc, ← Nat.mul_add, Nat.mod_add_div, Nat.mul_add, Nat.add_mul, ← hv, Nat.mul_assoc (18446744073709551616 ^ i)]
      generalize 18446744073709551616 ^ i * (a * x) = q1
      generalize 18446744073709551616 ^ i * c = q2
      rw [Nat.add_assoc, Nat.add_comm q1 q2]
theorem lMul8L_ok : LoopOK lMul8E 0 (lbody Try.f48 0) lMul8L := loopOK_lx fun vs m κ r hv hm h => by
  split at h
  case h_2 => cases h
  rename_i x c n i xs zs
  replace h := cond_none h
  obtain ⟨hc, h⟩ := h
  obtain ⟨rfl, rfl, rfl⟩ := of_decide_eq_true hc
  obtain ⟨hx1, _, hx3⟩ := hm 0 _ _ rfl
  have hxw := u64_iff.1 (hv (.o (.p (.int .u64 x))) (by simp))
  obtain ⟨x, rfl⟩ := Int.eq_ofNat_of_zero_le hxw.1
  rw [Int.toNat_natCast] at h
  exact ⟨_, (lMul8_loop xs zs hx3 hx1 x (by omega) κ 8 0 0 xs (by omega) (by omega) hx3 hx1 rfl (by simp [val])).trans h⟩
theorem lMul8_ev (xs : List Int) (x : Int) : evFn lMul8E Try.f48 [.r .u64 8 xs, .p (.int .u64 x)] =
    some [(.mine, .r .u64 8 (wordsN 8 (val xs * x.toNat))), (.mine, .p (.int .u64 ((val xs * x.toNat / 18446744073709551616 ^ 8 : Nat) : Int)))] := by kernel_rfl
theorem lMul8_he : ∀ ds κ r, (∀ d ∈ ds, d.wf) → lMul8C ds κ = some r → ∃ res, κ res = some r ∧ evFn lMul8E Try.f48 ds = some res := fun ds κ r hw h => by
  unfold lMul8C at h
  split at h
  case h_2 => cases h
  rename_i xs x
  exact ⟨_, h, lMul8_ev xs x⟩
theorem lMul8_fn : FnOK Try.prog 48 lMul8C := fnOK_mk T mixed Try.func48 (by kernel_rfl) (fns := [(81, mul64C), (70, add64C)]) (lps := [(0, lMul8L)]) (live := [(0, [1, 2, 4, 6, 12, 13])]) (out := [(0, [2, 4, 6])]) (fuel := 0) (give := (fun _ => false)) ⟨mul64_fn, add64_fn, trivial⟩ ⟨lMul8L_ok, trivial⟩ lMul8_he
end
end Go.Proofs.Ytmjbikbakkbajaa.Vm
