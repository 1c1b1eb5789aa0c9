/-
  math/bits.Div64: a walk, and that it divides. No statement is proved here.
-/
import Derived.Test.YtcglfmldodhakaaCalR
import Derived.Test.YtcglfmldodhakaaCalK

namespace Go.Proofs.Ytcglfmldodhakaa.Vm
open Go Go.Vm
noncomputable section

/-! ### A quotient's digit -/
theorem dig_ge {u y1 y0 d q r : Nat} (h : q * y1 + r = u) (hb : q * y0 ≤ 4294967296 * r + d) (hy : 0 < y1 * 4294967296 + y0) : q ≤ (u * 4294967296 + d) / (y1 * 4294967296 + y0) := by
  rw [Nat.le_div_iff_mul_le hy, Nat.mul_add, ← Nat.mul_assoc]
  generalize q * y1 = a at *
  generalize q * y0 = b at *
  omega
theorem dig_lt {u y1 y0 d q r : Nat} (h : q * y1 + r = u) (hb : q * y0 > 4294967296 * r + d) (hy : 0 < y1 * 4294967296 + y0) : (u * 4294967296 + d) / (y1 * 4294967296 + y0) < q := by
  rw [Nat.div_lt_iff_lt_mul hy, Nat.mul_add, ← Nat.mul_assoc]
  generalize q * y1 = a at *
  generalize q * y0 = b at *
  omega
theorem dig_small {u y1 y0 d : Nat} (hu : u < y1 * 4294967296 + y0) (hd : d < 4294967296) : (u * 4294967296 + d) / (y1 * 4294967296 + y0) < 4294967296 := by
  rw [Nat.div_lt_iff_lt_mul (by omega)]
  omega
theorem dig_break {u y1 y0 d q r : Nat} (h : q * y1 + r = u) (hr : 4294967296 ≤ r) (hu : u < y1 * 4294967296 + y0) (h0 : y0 < 4294967296) : q ≤ (u * 4294967296 + d) / (y1 * 4294967296 + y0) := by
  have hq : q < 4294967296 := by
    have h1 : q * y1 < 4294967296 * y1 := by omega
    exact Nat.lt_of_mul_lt_mul_right h1
  have hb : q * y0 ≤ 4294967295 * 4294967295 := Nat.mul_le_mul (by omega) (by omega)
  exact dig_ge h (by omega) (by omega)
/-- A quotient's digit. -/
def digQ (u y1 y0 d : Nat) : Nat := (u * 4294967296 + d) / (y1 * 4294967296 + y0)


/-! ### Div64 -/
def div64C : FnC := fun ds κ => match ds with
  | [.p (.int .u64 hi), .p (.int .u64 lo), .p (.int .u64 y)] => cond (decide (hi < y))
    (κ [(.mine, .p (.int .u64 (((hi.toNat * 18446744073709551616 + lo.toNat) / y.toNat : Nat) : Int))), (.mine, .p (.int .u64 (((hi.toNat * 18446744073709551616 + lo.toNat) % y.toNat : Nat) : Int)))]) none
  | _ => none
def div64L : LpC := lpC 135 [2, 8, 9, 10, 11, 13, 14, 15, 16] fun vs m κ => match vs, m with
  | [.o (.p (.int .u64 y)), .o (.p (.int .u64 s)), .o (.p (.int .u64 y1)), .o (.p (.int .u64 y0)), .o (.p (.int .u64 u)), .o (.p (.int .u64 d)), .o (.p (.int .u64 e)), .o (.p (.int .u64 q)), .o (.p (.int .u64 r))], [] =>
    cond (decide (2147483648 ≤ y1 ∧ y1 < 4294967296 ∧ y0 < 4294967296 ∧ d < 4294967296 ∧ r < y1 ∧ q.toNat * y1.toNat + r.toNat = u.toNat ∧ u.toNat < y1.toNat * 4294967296 + y0.toNat ∧ digQ u.toNat y1.toNat y0.toNat d.toNat ≤ q.toNat))
      (κ (.exit 0) (lay 135 [2, 8, 9, 10, 11, 13, 14, 15] [.o (.p (.int .u64 y)), .o (.p (.int .u64 s)), .o (.p (.int .u64 y1)), .o (.p (.int .u64 y0)), .o (.p (.int .u64 u)), .o (.p (.int .u64 d)), .o (.p (.int .u64 e)), .o (.p (.int .u64 (digQ u.toNat y1.toNat y0.toNat d.toNat : Nat)))]) []) none
  | _, _ => none
def div64L2 : LpC := lpC 135 [2, 8, 9, 10, 14, 15, 16, 17, 18] fun vs m κ => match vs, m with
  | [.o (.p (.int .u64 y)), .o (.p (.int .u64 s)), .o (.p (.int .u64 y1)), .o (.p (.int .u64 y0)), .o (.p (.int .u64 d)), .o (.p (.int .u64 e)), .o (.p (.int .u64 r)), .o (.p (.int .u64 u)), .o (.p (.int .u64 q))], [] =>
    cond (decide (2147483648 ≤ y1 ∧ y1 < 4294967296 ∧ y0 < 4294967296 ∧ d < 4294967296 ∧ r < y1 ∧ q.toNat * y1.toNat + r.toNat = u.toNat ∧ u.toNat < y1.toNat * 4294967296 + y0.toNat ∧ digQ u.toNat y1.toNat y0.toNat d.toNat ≤ q.toNat))
      (κ (.exit 2) (lay 135 [2, 8, 14, 15, 17, 18] [.o (.p (.int .u64 y)), .o (.p (.int .u64 s)), .o (.p (.int .u64 d)), .o (.p (.int .u64 e)), .o (.p (.int .u64 u)), .o (.p (.int .u64 (digQ u.toNat y1.toNat y0.toNat d.toNat : Nat)))]) []) none
  | _, _ => none
def div64E : Env := mkE ty [(88, lz64C)] [(0, div64L), (2, div64L2)] [(0, [2, 8, 9, 10, 11, 13, 14, 15, 16]), (2, [2, 8, 9, 10, 14, 15, 16, 17, 18])] [(0, [2, 8, 9, 10, 11, 13, 14, 15]), (2, [2, 8, 14, 15, 17, 18])] 0 (fun _ => false)
def div64St (y s y1 y0 u d e q r : Int) : List V := lay 135 [2, 8, 9, 10, 11, 13, 14, 15, 16] [.o (.p (.int .u64 y)), .o (.p (.int .u64 s)), .o (.p (.int .u64 y1)), .o (.p (.int .u64 y0)), .o (.p (.int .u64 u)), .o (.p (.int .u64 d)), .o (.p (.int .u64 e)), .o (.p (.int .u64 q)), .o (.p (.int .u64 r))]
def div64Ex (y s y1 y0 u d e q : Int) : List V := lay 135 [2, 8, 9, 10, 11, 13, 14, 15] [.o (.p (.int .u64 y)), .o (.p (.int .u64 s)), .o (.p (.int .u64 y1)), .o (.p (.int .u64 y0)), .o (.p (.int .u64 u)), .o (.p (.int .u64 d)), .o (.p (.int .u64 e)), .o (.p (.int .u64 q))]
def div64St2 (y s y1 y0 d e r u q : Int) : List V := lay 135 [2, 8, 9, 10, 14, 15, 16, 17, 18] [.o (.p (.int .u64 y)), .o (.p (.int .u64 s)), .o (.p (.int .u64 y1)), .o (.p (.int .u64 y0)), .o (.p (.int .u64 d)), .o (.p (.int .u64 e)), .o (.p (.int .u64 r)), .o (.p (.int .u64 u)), .o (.p (.int .u64 q))]
def div64Ex2 (y s d e u q : Int) : List V := lay 135 [2, 8, 14, 15, 17, 18] [.o (.p (.int .u64 y)), .o (.p (.int .u64 s)), .o (.p (.int .u64 d)), .o (.p (.int .u64 e)), .o (.p (.int .u64 u)), .o (.p (.int .u64 q))]
/-- One round: the test, and what follows. -/
def digR (q r y1 y0 d : Int) (ex : Int → R) (go : Int → Int → R) : R :=
  cond (decide (q ≥ 4294967296)) (cond (decide (IntKind.u64.wrap (r + y1) ≥ 4294967296)) (ex (IntKind.u64.wrap (q - 1))) (go (IntKind.u64.wrap (q - 1)) (IntKind.u64.wrap (r + y1))))
    (cond (decide (IntKind.u64.wrap (q * y0) > IntKind.u64.wrap (IntKind.u64.wrap (4294967296 * r) + d))) (cond (decide (IntKind.u64.wrap (r + y1) ≥ 4294967296)) (ex (IntKind.u64.wrap (q - 1))) (go (IntKind.u64.wrap (q - 1)) (IntKind.u64.wrap (r + y1)))) (ex q))
theorem div64_round (y s y1 y0 u d e q r : Int) (f : Nat) (κ : X → List V → Mem → R) :
    lx div64E Try.f82 0 (f + 1) (div64St y s y1 y0 u d e q r) [] κ = digR q r y1 y0 d (fun q => κ (.exit 0) (div64Ex y s y1 y0 u d e q) []) (fun q r => lx div64E Try.f82 0 f (div64St y s y1 y0 u d e q r) [] κ) := by kernel_rfl
theorem div64_round2 (y s y1 y0 u d e q r : Int) (f : Nat) (κ : X → List V → Mem → R) :
    lx div64E Try.f82 2 (f + 1) (div64St2 y s y1 y0 d e r u q) [] κ = digR q r y1 y0 d (fun q => κ (.exit 2) (div64Ex2 y s d e u q) []) (fun q r => lx div64E Try.f82 2 f (div64St2 y s y1 y0 d e r u q) [] κ) := by kernel_rfl
/-- The rounds come to the digit. -/
theorem dig_loop {u y1 y0 d : Nat} (g1 : 2147483648 ≤ y1) (g2 : y1 < 4294967296) (g3 : y0 < 4294967296) (g4 : d < 4294967296) (hu : u < y1 * 4294967296 + y0) (hW : u < 18446744073709551616) (F : Nat → Int → Int → R) (ex : Int → R)
    (hF : ∀ f q r, F (f + 1) q r = digR q r y1 y0 d ex (F f)) : ∀ (k q r : Nat), r < 4294967296 → 4294967296 ≤ r + k * y1 → q * y1 + r = u → digQ u y1 y0 d ≤ q → F (k + 1) q r = ex (digQ u y1 y0 d : Nat) := by
  have hQ := dig_small hu g4
  intro k
  induction k with
  | zero => intro q r hr hk _ _; omega
  | succ k ih =>
    intro q r hr hk h hge
    rw [hF]
    unfold digR
    have hq : q < 18446744073709551616 := by
      have h1 : q * 2147483648 ≤ q * y1 := Nat.mul_le_mul_left _ g1
      omega
    have back : digQ u y1 y0 d < q → cond (decide (IntKind.u64.wrap ((r : Int) + (y1 : Int)) ≥ 4294967296)) (ex (IntKind.u64.wrap ((q : Int) - 1))) (F (k + 1) (IntKind.u64.wrap ((q : Int) - 1)) (IntKind.u64.wrap ((r : Int) + (y1 : Int)))) = ex (digQ u y1 y0 d : Nat) := by
      intro hlt
      have e1 : IntKind.u64.wrap ((q : Int) - 1) = ((q - 1 : Nat) : Int) := by rw [u64_wrap (by omega) (by omega)]; omega
      have e2 : IntKind.u64.wrap ((r : Int) + (y1 : Int)) = ((r + y1 : Nat) : Int) := by rw [u64_wrap (by omega) (by omega)]; rfl
      have h' : (q - 1) * y1 + (r + y1) = u := by
        have : (q - 1) * y1 + y1 = q * y1 := by
          rw [← Nat.succ_mul, show (q - 1).succ = q from by omega]
        omega
      rw [e1, e2]
      by_cases hb : 4294967296 ≤ r + y1
      · have hle := dig_break (d := d) h' hb hu g3
        have : q - 1 = digQ u y1 y0 d := by unfold digQ at *; omega
        rw [decide_eq_true (by omega), cond_true, this]
      · rw [decide_eq_false (by omega), cond_false]
        refine ih (q - 1) (r + y1) (by omega) ?_ h' (by omega)
        rw [Nat.succ_mul] at hk
        omega
    by_cases h1 : q ≥ 4294967296
    · rw [decide_eq_true (by omega), cond_true]
      exact back (by unfold digQ; omega)
    · have hm : q * y0 ≤ 4294967295 * 4294967295 := Nat.mul_le_mul (by omega) (by omega)
      have e3 : IntKind.u64.wrap ((q : Int) * (y0 : Int)) = ((q * y0 : Nat) : Int) := by rw [← Int.natCast_mul]; exact u64_wrap (by omega) (by omega)
      have e4 : IntKind.u64.wrap (4294967296 * (r : Int)) = ((4294967296 * r : Nat) : Int) := by rw [u64_wrap (by omega) (by omega)]; rfl
      have e5 : IntKind.u64.wrap (((4294967296 * r : Nat) : Int) + (d : Int)) = ((4294967296 * r + d : Nat) : Int) := by rw [u64_wrap (by omega) (by omega)]; rfl
      rw [decide_eq_false (by omega), cond_false, e3, e4, e5]
      by_cases h2 : q * y0 > 4294967296 * r + d
      · rw [decide_eq_true (by omega), cond_true]
        exact back (dig_lt h h2 (by omega))
      · rw [decide_eq_false (by omega), cond_false]
        have hle := dig_ge h (Nat.le_of_not_gt h2) (by omega)
        have : q = digQ u y1 y0 d := by unfold digQ at *; omega
        rw [← this]
theorem div64L_ok : LoopOK div64E 0 (lbody Try.f82 0) div64L := loopOK_lx fun vs m κ r hv hm h => by
  split at h
  case h_2 => cases h
  rename_i y s y1 y0 u d e q r
  replace h := cond_none h
  obtain ⟨hc, h⟩ := h
  have hc := of_decide_eq_true hc
  obtain ⟨h1, h2, h3, h4, h5, h6, h7, h8⟩ := hc
  have w0 := u64_iff.1 (hv (.o (.p (.int .u64 y0))) (by simp))
  have wd := u64_iff.1 (hv (.o (.p (.int .u64 d))) (by simp))
  have wr := u64_iff.1 (hv (.o (.p (.int .u64 r))) (by simp))
  have wq := u64_iff.1 (hv (.o (.p (.int .u64 q))) (by simp))
  have wu := u64_iff.1 (hv (.o (.p (.int .u64 u))) (by simp))
  obtain ⟨q, rfl⟩ := Int.eq_ofNat_of_zero_le wq.1
  obtain ⟨r, rfl⟩ := Int.eq_ofNat_of_zero_le wr.1
  obtain ⟨y1, rfl⟩ := Int.eq_ofNat_of_zero_le (show 0 ≤ y1 by omega)
  obtain ⟨y0, rfl⟩ := Int.eq_ofNat_of_zero_le w0.1
  obtain ⟨d, rfl⟩ := Int.eq_ofNat_of_zero_le wd.1
  simp only [Int.toNat_natCast] at h h6 h7 h8
  have key := dig_loop (u := u.toNat) (y1 := y1) (y0 := y0) (d := d) (by omega) (by omega) (by omega) (by omega) h7 (by omega)
    (fun f q r => lx div64E Try.f82 0 f (div64St y s y1 y0 u d e q r) [] κ) (fun q => κ (.exit 0) (div64Ex y s y1 y0 u d e q) []) (fun f q r => div64_round y s y1 y0 u d e q r f κ) 2 q r (by omega) (by omega) h6 h8
  exact ⟨3, key.trans h⟩
theorem div64L2_ok : LoopOK div64E 2 (lbody Try.f82 2) div64L2 := loopOK_lx fun vs m κ r hv hm h => by
  split at h
  case h_2 => cases h
  rename_i y s y1 y0 d e r u q
  replace h := cond_none h
  obtain ⟨hc, h⟩ := h
  have hc := of_decide_eq_true hc
  obtain ⟨h1, h2, h3, h4, h5, h6, h7, h8⟩ := hc
  have w0 := u64_iff.1 (hv (.o (.p (.int .u64 y0))) (by simp))
  have wd := u64_iff.1 (hv (.o (.p (.int .u64 d))) (by simp))
  have wr := u64_iff.1 (hv (.o (.p (.int .u64 r))) (by simp))
  have wq := u64_iff.1 (hv (.o (.p (.int .u64 q))) (by simp))
  have wu := u64_iff.1 (hv (.o (.p (.int .u64 u))) (by simp))
  obtain ⟨q, rfl⟩ := Int.eq_ofNat_of_zero_le wq.1
  obtain ⟨r, rfl⟩ := Int.eq_ofNat_of_zero_le wr.1
  obtain ⟨y1, rfl⟩ := Int.eq_ofNat_of_zero_le (show 0 ≤ y1 by omega)
  obtain ⟨y0, rfl⟩ := Int.eq_ofNat_of_zero_le w0.1
  obtain ⟨d, rfl⟩ := Int.eq_ofNat_of_zero_le wd.1
  simp only [Int.toNat_natCast] at h h6 h7 h8
  have key := dig_loop (u := u.toNat) (y1 := y1) (y0 := y0) (d := d) (by omega) (by omega) (by omega) (by omega) h7 (by omega)
    (fun f q r => lx div64E Try.f82 2 f (div64St2 y s y1 y0 d e r u q) [] κ) (fun q => κ (.exit 2) (div64Ex2 y s d e u q) []) (fun f q r => div64_round2 y s y1 y0 u d e q r f κ) 2 q r (by omega) (by omega) h6 h8
  exact ⟨3, key.trans h⟩

def shl64 (x s : Int) : Int := shlI .u64 x s
def half1 (u y1 y0 d y : Int) (κ : Int → Int → R) : R :=
  let q := IntKind.u64.wrap (u.tdiv y1)
  let r := IntKind.u64.wrap (u - IntKind.u64.wrap (q * y1))
  let Q : Int := (digQ u.toNat y1.toNat y0.toNat d.toNat : Nat)
  cond (decide (y1 = 0)) none (cond (decide (2147483648 ≤ y1 ∧ y1 < 4294967296 ∧ y0 < 4294967296 ∧ d < 4294967296 ∧ r < y1 ∧ q.toNat * y1.toNat + r.toNat = u.toNat ∧ u.toNat < y1.toNat * 4294967296 + y0.toNat ∧ digQ u.toNat y1.toNat y0.toNat d.toNat ≤ q.toNat))
    (κ Q (IntKind.u64.wrap (IntKind.u64.wrap (IntKind.u64.wrap (u * 4294967296) + d) - IntKind.u64.wrap (Q * y)))) none)
theorem div64_ev (hi lo y : Int) : evFn div64E Try.f82 [.p (.int .u64 hi), .p (.int .u64 lo), .p (.int .u64 y)] =
    cond (y == 0) none (cond (decide (y ≤ hi)) none (cond (hi == 0)
      (cond (decide (y = 0)) none (cond (decide (y = 0)) none (some [(.mine, .p (.int .u64 (IntKind.u64.wrap (lo.tdiv y)))), (.mine, .p (.int .u64 (lo.tmod y)))])))
      (let s := IntKind.u64.wrap (64 - ((bitlen y.toNat : Nat) : Int))
       let t := IntKind.u64.wrap (64 - s)
       cond (decide (s < 0)) none (cond (decide (s < 0)) none (cond (decide (t < 0)) none (cond (decide (s < 0)) none
        (let y' := shlI .u64 y s
         let u := Go.bits .or .u64 (shlI .u64 hi s) (shrI .u64 lo t)
         let v := shlI .u64 lo s
         half1 u (shrI .u64 y' 32) (Go.bits .and .u64 y' 4294967295) (shrI .u64 v 32) y' fun q1 u1 =>
           half1 u1 (shrI .u64 y' 32) (Go.bits .and .u64 y' 4294967295) (Go.bits .and .u64 v 4294967295) y' fun q0 u0 =>
             cond (decide (s < 0)) none (some [(.mine, .p (.int .u64 (IntKind.u64.wrap (IntKind.u64.wrap (q1 * 4294967296) + q0)))), (.mine, .p (.int .u64 (shrI .u64 u0 s)))])))))))) := by kernel_rfl
end
end Go.Proofs.Ytcglfmldodhakaa.Vm

namespace Go.Proofs.Ytcglfmldodhakaa.Vm
open Go Go.Vm
noncomputable section

theorem half1_eq {u y1 y0 d y : Nat} (g1 : 2147483648 ≤ y1) (g2 : y1 < 4294967296) (g3 : y0 < 4294967296) (g4 : d < 4294967296) (hy : y = y1 * 4294967296 + y0) (hu : u < y) (κ : Int → Int → R) :
    half1 (u : Int) (y1 : Int) (y0 : Int) (d : Int) (y : Int) κ = κ (((u * 4294967296 + d) / y : Nat) : Int) (((u * 4294967296 + d) % y : Nat) : Int) := by
  subst hy
  have hQ := dig_small hu g4
  have hqq : (u * 4294967296 + d) / (y1 * 4294967296 + y0) ≤ u / y1 := by
    rw [Nat.le_div_iff_mul_le (by omega)]
    have h1 := Nat.div_mul_le_self (u * 4294967296 + d) (y1 * 4294967296 + y0)
    rw [Nat.mul_add, ← Nat.mul_assoc] at h1
    generalize (u * 4294967296 + d) / (y1 * 4294967296 + y0) * y1 = a at *
    generalize (u * 4294967296 + d) / (y1 * 4294967296 + y0) * y0 = b at *
    omega
  have e1 : Int.tdiv (u : Int) (y1 : Int) = ((u / y1 : Nat) : Int) := rfl
  have hqu : u / y1 ≤ u := Nat.div_le_self _ _
  have hqm : u / y1 * y1 ≤ u := Nat.div_mul_le_self _ _
  have hmod : u / y1 * y1 + u % y1 = u := Nat.div_add_mod' u y1
  have hml : u % y1 < y1 := Nat.mod_lt _ (by omega)
  have hdm := Nat.div_add_mod' (u * 4294967296 + d) (y1 * 4294967296 + y0)
  have hmm : (u * 4294967296 + d) % (y1 * 4294967296 + y0) < y1 * 4294967296 + y0 := Nat.mod_lt _ (by omega)
  have e2 : IntKind.u64.wrap ((u / y1 : Nat) : Int) = ((u / y1 : Nat) : Int) := u64_wrap (Int.natCast_nonneg _) (Int.ofNat_lt.2 (show u / y1 < 18446744073709551616 by generalize u / y1 = q at *; omega))
  have e3 : IntKind.u64.wrap (((u / y1 : Nat) : Int) * (y1 : Int)) = ((u / y1 * y1 : Nat) : Int) := by
    rw [← Int.natCast_mul]
    exact u64_wrap (Int.natCast_nonneg _) (Int.ofNat_lt.2 (show u / y1 * y1 < 18446744073709551616 by generalize u / y1 * y1 = q at *; omega))
  have e4 : IntKind.u64.wrap ((u : Int) - ((u / y1 * y1 : Nat) : Int)) = ((u % y1 : Nat) : Int) := by
    generalize u / y1 * y1 = q at *
    generalize u % y1 = w at *
    rw [u64_wrap (by omega) (by omega)]
    omega
  unfold half1
  dsimp only
  rw [e1, e2, e3, e4]
  simp only [Int.toNat_natCast]
  have c1 : decide ((y1 : Int) = 0) = false := decide_eq_false (by omega)
  have c2 : decide ((2147483648 : Int) ≤ (y1 : Int) ∧ (y1 : Int) < 4294967296 ∧ (y0 : Int) < 4294967296 ∧ (d : Int) < 4294967296 ∧ ((u % y1 : Nat) : Int) < (y1 : Int) ∧ u / y1 * y1 + u % y1 = u ∧ u < y1 * 4294967296 + y0 ∧ digQ u y1 y0 d ≤ u / y1) = true :=
    decide_eq_true ⟨by omega, by omega, by omega, by omega, Int.ofNat_lt.2 hml, hmod, hu, hqq⟩
  rw [c1, cond_false, c2, cond_true]
  unfold digQ
  congr 1
  rw [u64_wrap_mod, u64_wrap_mod, u64_wrap_mod, u64_wrap_mod, ← Int.natCast_mul]
  generalize (u * 4294967296 + d) / (y1 * 4294967296 + y0) * (y1 * 4294967296 + y0) = P at *
  generalize (u * 4294967296 + d) % (y1 * 4294967296 + y0) = w at *
  omega
theorem div_two {u v Y Q1 R1 Q0 R0 : Nat} (d1 : Q1 * Y + R1 = u * 4294967296 + v / 4294967296) (d0 : Q0 * Y + R0 = R1 * 4294967296 + v % 4294967296) : u * 18446744073709551616 + v = R0 + Y * (Q1 * 4294967296 + Q0) := by
  have h1 : Y * (Q1 * 4294967296 + Q0) = Q1 * Y * 4294967296 + Q0 * Y := by
    rw [Nat.mul_add, Nat.mul_comm Y Q0, Nat.mul_comm Y, Nat.mul_right_comm]
  rw [h1]
  generalize Q1 * Y = a at *
  generalize Q0 * Y = b at *
  omega
theorem div64_he : ∀ ds κ r, (∀ d ∈ ds, d.wf) → div64C ds κ = some r → ∃ res, κ res = some r ∧ evFn div64E Try.f82 ds = some res := fun ds κ r hw h => by
  unfold div64C at h
  split at h
  case h_2 => cases h
  rename_i hi lo y
  obtain ⟨hc, h⟩ := cond_none h
  have hc := of_decide_eq_true hc
  refine ⟨_, h, (div64_ev hi lo y).trans ?_⟩
  have w1 := wfU hw (x := hi) (by simp)
  have w2 := wfU hw (x := lo) (by simp)
  have w3 := wfU hw (x := y) (by simp)
  obtain ⟨hi, rfl⟩ := Int.eq_ofNat_of_zero_le w1.1
  obtain ⟨lo, rfl⟩ := Int.eq_ofNat_of_zero_le w2.1
  obtain ⟨y, rfl⟩ := Int.eq_ofNat_of_zero_le w3.1
  rw [Int.toNat_natCast, Int.toNat_natCast, Int.toNat_natCast, show (((y : Nat) : Int) == 0) = false from beq_eq_false_iff_ne.2 (by omega), cond_false, decide_eq_false (by omega), cond_false]
  have hy0 : 0 < y := by omega
  by_cases h0 : hi = 0
  · subst h0
    have e1 : Int.tdiv (lo : Int) (y : Int) = ((lo / y : Nat) : Int) := rfl
    have e2 : Int.tmod (lo : Int) (y : Int) = ((lo % y : Nat) : Int) := rfl
    have hle : lo / y ≤ lo := Nat.div_le_self _ _
    rw [show (((0 : Nat) : Int) == 0) = true from rfl, cond_true, decide_eq_false (p := (y : Int) = 0) (by omega), cond_false, cond_false, e1, e2, Nat.zero_mul, Nat.zero_add, u64_wrap (Int.natCast_nonneg _) (Int.ofNat_lt.2 (show lo / y < 18446744073709551616 by generalize lo / y = q at *; omega))]
  · rw [show (((hi : Nat) : Int) == 0) = false from beq_eq_false_iff_ne.2 (by omega), cond_false]
    have hyw : y < 18446744073709551616 := by omega
    have hb := bitlen_le64 hyw
    have hb1 : bitlen y ≠ 0 := fun e => by have := bitlen_zero.1 e; omega
    obtain ⟨S, hS⟩ : ∃ S, 64 - bitlen y = S := ⟨_, rfl⟩
    have hS63 : S < 64 := by omega
    have hpS := Nat.two_pow_pos S
    have es : IntKind.u64.wrap (64 - ((bitlen y : Nat) : Int)) = (S : Int) := by rw [u64_wrap (by omega) (by omega)]; omega
    have et : IntKind.u64.wrap (64 - (S : Int)) = ((64 - S : Nat) : Int) := by rw [u64_wrap (by omega) (by omega)]; omega
    have hsp := pow64_split (Nat.le_of_lt hS63)
    -- the divisor, its highest bit set
    have hy2 : y * 2 ^ S < 18446744073709551616 := by
      have h1 := Nat.mul_lt_mul_of_pos_right (bitlen_lt y) hpS
      rw [← Nat.pow_add, show bitlen y + S = 64 from by omega] at h1
      exact h1
    have hy3 : 9223372036854775808 ≤ y * 2 ^ S := by
      have h1 := Nat.mul_le_mul_right (2 ^ S) (bitlen_top (n := y) (by omega))
      rw [← Nat.pow_add, show bitlen y - 1 + S = 63 from by omega] at h1
      exact h1
    have ey : shlI .u64 (y : Int) (S : Int) = ((y * 2 ^ S : Nat) : Int) := by rw [shl_nat, Nat.min_eq_left (Nat.le_of_lt hS63), Nat.mod_eq_of_lt hy2]
    -- the dividend's higher word
    have hlo : lo / 2 ^ (64 - S) < 2 ^ S := by
      rw [Nat.div_lt_iff_lt_mul (Nat.two_pow_pos _), ← hsp]
      omega
    have hhi : (hi + 1) * 2 ^ S ≤ y * 2 ^ S := Nat.mul_le_mul_right _ (by omega)
    rw [Nat.add_mul, Nat.one_mul] at hhi
    obtain ⟨ho, _⟩ := or_shift (x := hi) hS63 hlo
    have eu : Go.bits .or .u64 (shlI .u64 (hi : Int) (S : Int)) (shrI .u64 (lo : Int) ((64 - S : Nat) : Int)) = ((lo / 2 ^ (64 - S) + hi * 2 ^ S : Nat) : Int) := by
      rw [shr_nat, Nat.min_eq_left (Nat.sub_le 64 S)]
      rw [shl_nat, Nat.min_eq_left (Nat.le_of_lt hS63), Nat.mod_eq_of_lt (by omega)] at ho ⊢
      rw [← ho, u64_or_nat _ _ (by omega) (by omega), u64_or_nat _ _ (by omega) (by omega), Nat.or_comm]
    have ev : shlI .u64 (lo : Int) (S : Int) = ((lo * 2 ^ S % 18446744073709551616 : Nat) : Int) := by rw [shl_nat, Nat.min_eq_left (Nat.le_of_lt hS63)]
    have hv : lo * 2 ^ S % 18446744073709551616 < 18446744073709551616 := Nat.mod_lt _ (by decide)
    have hN : (hi * 18446744073709551616 + lo) * 2 ^ S = (lo / 2 ^ (64 - S) + hi * 2 ^ S) * 18446744073709551616 + lo * 2 ^ S % 18446744073709551616 := by
      have h1 := Nat.div_add_mod' (lo * 2 ^ S) 18446744073709551616
      rw [div_shift (Nat.le_of_lt hS63)] at h1
      have h2 : hi * 18446744073709551616 * 2 ^ S = hi * 2 ^ S * 18446744073709551616 := Nat.mul_right_comm _ _ _
      rw [Nat.add_mul, h2, Nat.add_mul, Nat.add_comm (lo / 2 ^ (64 - S) * 18446744073709551616), Nat.add_assoc, h1]
    have hdiv := Nat.mul_div_mul_right (hi * 18446744073709551616 + lo) y hpS
    have hmod := Nat.mul_mod_mul_right (2 ^ S) (hi * 18446744073709551616 + lo) y
    rw [hN] at hdiv hmod
    dsimp only
    rw [es, et, ey, eu, ev]
    have h32 : ∀ q : Nat, shrI .u64 (q : Int) 32 = ((q / 4294967296 : Nat) : Int) := fun q => shr_nat q 32
    rw [h32, h32, mask32 _ hy2, mask32 _ hv]
    have hu : lo / 2 ^ (64 - S) + hi * 2 ^ S < y * 2 ^ S := by omega
    generalize lo / 2 ^ (64 - S) + hi * 2 ^ S = u at *
    generalize lo * 2 ^ S % 18446744073709551616 = v at *
    rw [decide_eq_false (by omega), cond_false, cond_false, decide_eq_false (by omega), cond_false]
    generalize hY : y * 2 ^ S = Y at *
    have hyy : Y = Y / 4294967296 * 4294967296 + Y % 4294967296 := (Nat.div_add_mod' Y 4294967296).symm
    rw [half1_eq (y := Y) (by omega) (by omega) (by omega) (by omega) hyy hu]
    have hY0 : 0 < Y := by omega
    obtain ⟨Q1, hQ1⟩ : ∃ q, (u * 4294967296 + v / 4294967296) / Y = q := ⟨_, rfl⟩
    obtain ⟨R1, hR1⟩ : ∃ q, (u * 4294967296 + v / 4294967296) % Y = q := ⟨_, rfl⟩
    have b1 : R1 < Y := hR1 ▸ Nat.mod_lt _ hY0
    have q1 := dig_small (u := u) (y1 := Y / 4294967296) (y0 := Y % 4294967296) (d := v / 4294967296) (by omega) (by omega)
    have d1 := Nat.div_add_mod' (u * 4294967296 + v / 4294967296) Y
    rw [← hyy, hQ1] at q1
    rw [hQ1, hR1] at d1
    rw [hQ1, hR1, half1_eq (y := Y) (by omega) (by omega) (by omega) (by omega) hyy b1]
    obtain ⟨Q0, hQ0⟩ : ∃ q, (R1 * 4294967296 + v % 4294967296) / Y = q := ⟨_, rfl⟩
    obtain ⟨R0, hR0⟩ : ∃ q, (R1 * 4294967296 + v % 4294967296) % Y = q := ⟨_, rfl⟩
    have b0 : R0 < Y := hR0 ▸ Nat.mod_lt _ hY0
    have q0 := dig_small (u := R1) (y1 := Y / 4294967296) (y0 := Y % 4294967296) (d := v % 4294967296) (by omega) (by omega)
    have d0 := Nat.div_add_mod' (R1 * 4294967296 + v % 4294967296) Y
    rw [← hyy, hQ0] at q0
    rw [hQ0, hR0] at d0
    rw [hQ0, hR0]
    have hall := div_two d1 d0
    rw [hall, Nat.add_mul_div_left _ _ hY0, Nat.div_eq_of_lt b0, Nat.zero_add] at hdiv
    rw [hall, Nat.add_mul_mod_self_left, Nat.mod_eq_of_lt b0] at hmod
    clear hall d0 d1 hN hyy hR0 hR1 hQ0 hQ1
    rw [cond_false, cond_false, u64_wrap (x := (Q1 : Int) * 4294967296) (by omega) (by omega), u64_wrap (x := (Q1 : Int) * 4294967296 + (Q0 : Int)) (by omega) (by omega), shr_nat, Nat.min_eq_left (Nat.le_of_lt hS63), ← hdiv, hmod, Nat.mul_div_cancel _ hpS]
    rfl
theorem div64_fn : FnOK Try.prog 82 div64C := fnOK_mk T mixed Try.func82 (by kernel_rfl) (fns := [(88, lz64C)]) (lps := [(0, div64L), (2, div64L2)]) (live := [(0, [2, 8, 9, 10, 11, 13, 14, 15, 16]), (2, [2, 8, 9, 10, 14, 15, 16, 17, 18])]) (out := [(0, [2, 8, 9, 10, 11, 13, 14, 15]), (2, [2, 8, 14, 15, 17, 18])]) (fuel := 0) (give := (fun _ => false)) ⟨lz64_fn, trivial⟩ ⟨div64L_ok, div64L2_ok, trivial⟩ div64_he
end
end Go.Proofs.Ytcglfmldodhakaa.Vm
