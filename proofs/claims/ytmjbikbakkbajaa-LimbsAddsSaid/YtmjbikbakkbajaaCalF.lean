/-
  What functions of math/bits, and products, come to: walks. No statement is proved here.
-/
import Derived.Test.YtmjbikbakkbajaaCalE
import Derived.Test.YtmjbikbakkbajaaCalI
namespace Go.Proofs.Ytmjbikbakkbajaa.Vm
open Go Go.Vm
noncomputable section

/-! ### Len64 -/
def lenTab : ByteArray := ⟨((List.range 256).map fun n => UInt8.ofNat (bitlen n)).toArray⟩
def len64C : FnC := fun ds κ => match ds with
  | [.p (.int .u64 x)] => κ [(.mine, .p (.int .i64 ((bitlen x.toNat : Nat) : Int)))]
  | _ => none
def len64E : Env := mkE ty [] [] [] [] 0 (fun _ => false)
def len64c (x n : Int) : R := cond (decide (0 ≤ IntKind.u8.wrap x ∧ IntKind.u8.wrap x < (lenTab.size : Int))) (some [(.mine, .p (.int .i64 (IntKind.i64.wrap (n + IntKind.i64.wrap ((lenTab.data.toList.getD (IntKind.u8.wrap x).toNat 0).toNat : Int)))))]) none
def len64b (x n : Int) : R := cond (decide (x ≥ 256)) (len64c (shrI .u64 x 8) (IntKind.i64.wrap (n + 8))) (len64c x n)
def len64a (x n : Int) : R := cond (decide (x ≥ 65536)) (len64b (shrI .u64 x 16) (IntKind.i64.wrap (n + 16))) (len64b x n)
theorem len64_ev (x : Int) : evFn len64E Try.f74 [.p (.int .u64 x)] = cond (decide (x ≥ 4294967296)) (len64a (shrI .u64 x 32) 32) (len64a x 0) := by kernel_rfl
theorem lenTab_at : ∀ n, n < 256 → (lenTab.data.toList.getD n 0).toNat = bitlen n := by decide +kernel
theorem u8_wrap {x : Int} (h0 : 0 ≤ x) (h : x < 256) : IntKind.u8.wrap x = x := by
  simp [IntKind.wrap, IntKind.signed, IntKind.bits]
  exact Int.emod_eq_of_lt h0 h
theorem len64c_eq (x n : Nat) (hx : x < 256) (hn : n ≤ 1000) : len64c x n = some [(.mine, .p (.int .i64 ((n + bitlen x : Nat) : Int)))] := by
  unfold len64c
  have hb : bitlen x ≤ 8 := (bitlen_le_iff x 8).2 hx
  have hs : (lenTab.size : Int) = 256 := by decide +kernel
  rw [hs, u8_wrap (by omega) (by omega), decide_eq_true (by omega), cond_true, Int.toNat_natCast, lenTab_at x hx, i64_wrap (x := (bitlen x : Int)) (by omega) (by omega), i64_wrap (by omega) (by omega)]
  rfl
theorem len64b_eq (x n : Nat) (hx : x < 65536) (hn : n ≤ 900) : len64b x n = some [(.mine, .p (.int .i64 ((n + bitlen x : Nat) : Int)))] := by
  unfold len64b
  by_cases h : x ≥ 256
  · have hb := bitlen_shift x 8
    have hb2 := bitlen_ge (n := x) (k := 8) h
    rw [decide_eq_true (by omega), cond_true, show ((8 : Int)) = ((8 : Nat) : Int) from rfl, shr_nat, i64_wrap (by omega) (by omega), show ((n : Int) + ((8 : Nat) : Int)) = ((n + 8 : Nat) : Int) from rfl, show min 8 64 = 8 from rfl, len64c_eq _ _ (by omega) (by omega), hb]
    rw [show n + 8 + (bitlen x - 8) = n + bitlen x from by omega]
  · rw [decide_eq_false (by omega), cond_false, len64c_eq x n (by omega) (by omega)]
theorem len64a_eq (x n : Nat) (hx : x < 4294967296) (hn : n ≤ 800) : len64a x n = some [(.mine, .p (.int .i64 ((n + bitlen x : Nat) : Int)))] := by
  unfold len64a
  by_cases h : x ≥ 65536
  · have hb := bitlen_shift x 16
    have hb2 := bitlen_ge (n := x) (k := 16) h
    rw [decide_eq_true (by omega), cond_true, show ((16 : Int)) = ((16 : Nat) : Int) from rfl, shr_nat, i64_wrap (by omega) (by omega), show ((n : Int) + ((16 : Nat) : Int)) = ((n + 16 : Nat) : Int) from rfl, show min 16 64 = 16 from rfl, len64b_eq _ _ (by omega) (by omega), hb]
    rw [show n + 16 + (bitlen x - 16) = n + bitlen x from by omega]
  · rw [decide_eq_false (by omega), cond_false, len64b_eq x n (by omega) (by omega)]
theorem len64_he : ∀ ds κ r, (∀ d ∈ ds, d.wf) → len64C ds κ = some r → ∃ res, κ res = some r ∧ evFn len64E Try.f74 ds = some res := fun ds κ r hw h => by
  unfold len64C at h
  split at h
  case h_2 => cases h
  rename_i x
  refine ⟨_, h, (len64_ev x).trans ?_⟩
  have hx := wfU hw (x := x) (by simp)
  obtain ⟨a, rfl⟩ := Int.eq_ofNat_of_zero_le hx.1
  rw [Int.toNat_natCast]
  by_cases h : a ≥ 4294967296
  · have hb := bitlen_shift a 32
    have hb2 := bitlen_ge (n := a) (k := 32) h
    rw [decide_eq_true (by omega), cond_true, show ((32 : Int)) = ((32 : Nat) : Int) from rfl, shr_nat, show min 32 64 = 32 from rfl, len64a_eq _ _ (by omega) (by omega), hb]
    rw [show 32 + (bitlen a - 32) = bitlen a from by omega]
  · rw [decide_eq_false (by omega), cond_false, show ((0 : Int)) = ((0 : Nat) : Int) from rfl, len64a_eq a 0 (by omega) (by omega), Nat.zero_add]
theorem len64_fn : FnOK Try.prog 74 len64C := fnOK_mk T mixed Try.func74 (by kernel_rfl) (fns := []) (lps := []) (live := []) (out := []) (fuel := 0) (give := (fun _ => false)) trivial trivial len64_he

/-! ### LeadingZeros64 -/
def lz64C : FnC := fun ds κ => match ds with
  | [.p (.int .u64 x)] => κ [(.mine, .p (.int .i64 (64 - ((bitlen x.toNat : Nat) : Int))))]
  | _ => none
def lz64E : Env := mkE ty [(74, len64C)] [] [] [] 0 (fun _ => false)
theorem lz64_ev (x : Int) : evFn lz64E Try.f99 [.p (.int .u64 x)] = some [(.mine, .p (.int .i64 (IntKind.i64.wrap (64 - ((bitlen x.toNat : Nat) : Int)))))] := by kernel_rfl
theorem lz64_he : ∀ ds κ r, (∀ d ∈ ds, d.wf) → lz64C ds κ = some r → ∃ res, κ res = some r ∧ evFn lz64E Try.f99 ds = some res := fun ds κ r hw h => by
  unfold lz64C at h
  split at h
  case h_2 => cases h
  rename_i x
  refine ⟨_, h, (lz64_ev x).trans ?_⟩
  have hx := wfU hw (x := x) (by simp)
  have := bitlen_le64 (n := x.toNat) (by omega)
  rw [i64_wrap (by omega) (by omega)]
theorem lz64_fn : FnOK Try.prog 99 lz64C := fnOK_mk T mixed Try.func99 (by kernel_rfl) (fns := [(74, len64C)]) (lps := []) (live := []) (out := []) (fuel := 0) (give := (fun _ => false)) ⟨len64_fn, trivial⟩ trivial lz64_he

/-! ### Len -/
def lenC : FnC := fun ds κ => match ds with
  | [.w .u64 xs] => κ [(.mine, .p (.int .i64 ((bitlen (val xs) : Nat) : Int)))]
  | _ => none
def lenE : Env := mkE ty [(75, sizeC), (74, len64C)] [] [] [] 0 (fun _ => false)
theorem len_ev (xs : List Int) : evFn lenE Try.f31 [.w .u64 xs] =
    let s : Int := ((wlen (val xs) : Nat) : Int)
    cond (s == 0) (some [(.mine, .p (.int .i64 0))]) (cond (decide (0 ≤ IntKind.i64.wrap (s - 1) ∧ IntKind.i64.wrap (s - 1) < (xs.length : Int))) (cond (decide ((IntKind.i64.wrap (s - 1)).toNat < xs.length))
      (some [(.mine, .p (.int .i64 (IntKind.i64.wrap (IntKind.i64.wrap (IntKind.i64.wrap (64 * s) - 64) + ((bitlen (xs.getD (IntKind.i64.wrap (s - 1)).toNat 0).toNat : Nat) : Int)))))]) none) none) := by kernel_rfl
theorem bitlen_words {n : Nat} (h : n ≠ 0) : bitlen n = 64 * (wlen n - 1) + bitlen (n / 18446744073709551616 ^ (wlen n - 1)) := by
  rw [pow64, bitlen_shift]
  have : bitlen n ≠ 0 := fun e => h (bitlen_zero.1 e)
  unfold wlen
  omega
theorem len_he : ∀ ds κ r, (∀ d ∈ ds, d.wf) → lenC ds κ = some r → ∃ res, κ res = some r ∧ evFn lenE Try.f31 ds = some res := fun ds κ r hw h => by
  unfold lenC at h
  split at h
  case h_2 => cases h
  rename_i xs
  refine ⟨_, h, (len_ev xs).trans ?_⟩
  obtain ⟨hl, hx⟩ := wfW hw (xs := xs) (by simp)
  have hwl := wlen_val hx
  by_cases h0 : val xs = 0
  · rw [h0]; rfl
  · have hs : wlen (val xs) ≠ 0 := fun e => h0 (wlen_eq_zero.1 e)
    have hb := bitlen_words h0
    have ht : xs.getD (wlen (val xs) - 1) 0 = ((val xs / 18446744073709551616 ^ (wlen (val xs) - 1) : Nat) : Int) := by
      rw [getD_val hx, Nat.mod_eq_of_lt]
      rw [Nat.div_lt_iff_lt_mul (Nat.pow_pos (by decide)), Nat.mul_comm, ← Nat.pow_succ, show (wlen (val xs) - 1).succ = wlen (val xs) from by omega]
      exact lt_wlen _
    have hlt : val xs / 18446744073709551616 ^ (wlen (val xs) - 1) < 18446744073709551616 := by
      have := (inR_at hx (wlen (val xs) - 1)).2
      omega
    have hb64 := bitlen_le64 hlt
    simp only []
    rw [show (((wlen (val xs) : Nat) : Int) == 0) = false from beq_eq_false_iff_ne.2 (by omega), cond_false, i64_wrap (x := ((wlen (val xs) : Nat) : Int) - 1) (by omega) (by omega), decide_eq_true (by omega), cond_true,
      show (((wlen (val xs) : Nat) : Int) - 1).toNat = wlen (val xs) - 1 from by omega, decide_eq_true (by omega), cond_true, ht, Int.toNat_natCast, i64_wrap (x := 64 * ((wlen (val xs) : Nat) : Int)) (by omega) (by omega),
      i64_wrap (x := 64 * ((wlen (val xs) : Nat) : Int) - 64) (by omega) (by omega), i64_wrap (by omega) (by omega)]
    generalize bitlen (val xs / 18446744073709551616 ^ (wlen (val xs) - 1)) = q at *
    rw [show 64 * ((wlen (val xs) : Nat) : Int) - 64 + (q : Int) = ((bitlen (val xs) : Nat) : Int) from by omega]
theorem len_fn : FnOK Try.prog 31 lenC := fnOK_mk T mixed Try.func31 (by kernel_rfl) (fns := [(75, sizeC), (74, len64C)]) (lps := []) (live := []) (out := []) (fuel := 0) (give := (fun _ => false)) ⟨size_fn, len64_fn, trivial⟩ trivial len_he

/-! ### Mul64 -/
def mul64C : FnC := fun ds κ => match ds with
  | [.p (.int .u64 x), .p (.int .u64 y)] => κ [(.mine, .p (.int .u64 (x * y / 18446744073709551616))), (.mine, .p (.int .u64 (x * y % 18446744073709551616)))]
  | _ => none
def mul64E : Env := mkE ty [] [] [] [] 0 (fun _ => false)
def m32 (a : Int) : Int := Go.bits .and .u64 a 4294967295
def h32 (a : Int) : Int := shrI .u64 a 32
theorem mul64_ev (x y : Int) : evFn mul64E Try.f81 [.p (.int .u64 x), .p (.int .u64 y)] =
    let w := IntKind.u64.wrap
    let t := w (w (h32 x * m32 y) + h32 (w (m32 x * m32 y)))
    some [(.mine, .p (.int .u64 (w (w (w (h32 x * h32 y) + h32 t) + h32 (w (m32 t + w (m32 x * h32 y))))))), (.mine, .p (.int .u64 (w (x * y))))] := by kernel_rfl
theorem mul64_he : ∀ ds κ r, (∀ d ∈ ds, d.wf) → mul64C ds κ = some r → ∃ res, κ res = some r ∧ evFn mul64E Try.f81 ds = some res := fun ds κ r hw h => by
  unfold mul64C at h
  split at h
  case h_2 => cases h
  rename_i x y
  refine ⟨_, h, (mul64_ev x y).trans ?_⟩
  have hx := wfU hw (x := x) (by simp)
  have hy := wfU hw (x := y) (by simp)
  obtain ⟨a, rfl⟩ := Int.eq_ofNat_of_zero_le hx.1
  obtain ⟨b, rfl⟩ := Int.eq_ofNat_of_zero_le hy.1
  have ha : a < 18446744073709551616 := by omega
  have hb : b < 18446744073709551616 := by omega
  obtain ⟨k1, k2, k3, k4⟩ := Lib.mul64_hi a b ha hb
  have hm : ∀ q : Nat, q < 18446744073709551616 → m32 (q : Int) = ((q % 4294967296 : Nat) : Int) := fun q hq => mask32 q hq
  have hh : ∀ q : Nat, h32 (q : Int) = ((q / 4294967296 : Nat) : Int) := fun q => shr_nat q 32
  have m1 := Lib.half_mul_le (a := a / 4294967296) (b := b / 4294967296) (by omega) (by omega)
  have m2 := Lib.half_mul_le (a := a / 4294967296) (b := b % 4294967296) (by omega) (by omega)
  have m3 := Lib.half_mul_le (a := a % 4294967296) (b := b / 4294967296) (by omega) (by omega)
  simp only [hm a ha, hm b hb, hh a, hh b, ← Int.natCast_mul]
  rw [wrapM (a * b)]
  have e1 : (a * b : Nat) / (18446744073709551616 : Int) = ((a * b / 18446744073709551616 : Nat) : Int) := by omega
  have e2 : ((a * b : Nat) : Int) % (18446744073709551616 : Int) = ((a * b % 18446744073709551616 : Nat) : Int) := by omega
  rw [e1, e2, ← k4]
  clear e1 e2 k4
  generalize (a / 4294967296) * (b / 4294967296) = p1 at *
  generalize (a / 4294967296) * (b % 4294967296) = p2 at *
  generalize (a % 4294967296) * (b / 4294967296) = p3 at *
  generalize (a % 4294967296) * (b % 4294967296) = p4 at *
  rw [wrapN (a := p4) k1, hh p4, wrapN (a := p2) (by omega), ← Int.natCast_add, wrapN (a := p2 + p4 / 4294967296) k2, hh, hm _ k2, wrapN (a := p3) (by omega), ← Int.natCast_add, wrapN k3, hh, wrapN (a := p1) (by omega), ← Int.natCast_add, wrapN (by omega), ← Int.natCast_add, wrapN (by omega)]
theorem mul64_fn : FnOK Try.prog 81 mul64C := fnOK_mk T mixed Try.func81 (by kernel_rfl) (fns := []) (lps := []) (live := []) (out := []) (fuel := 0) (give := (fun _ => false)) trivial trivial mul64_he
end
end Go.Proofs.Ytmjbikbakkbajaa.Vm
