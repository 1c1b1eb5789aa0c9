/-
  Coefficients as declets, evaluated: declet.Pack, declet.Unpack, ref13.Pack, ref13.Unpack. No statement is proved here.
-/
import Derived.Test.YthilpmchdeolnaaCalDE
import Derived.Test.YthilpmchdeolnaaCalN3
import Derived.Test.YthilpmchdeolnaaCalBP
import Derived.Test.YthilpmchdeolnaaCalLDiv4
import Derived.Test.YthilpmchdeolnaaCalLAdd4
import Derived.Test.YthilpmchdeolnaaCalLMul4
import Derived.Test.YthilpmchdeolnaaCalLShl4
import Derived.Test.YthilpmchdeolnaaCalLShr4
import Derived.Test.YthilpmchdeolnaaCalLOf4
import Derived.Test.YthilpmchdeolnaaCalLLen4
namespace Go.Proofs.Ythilpmchdeolnaa.Vm
open Go Go.Vm
noncomputable section
set_option linter.unusedVariables false

/-! ### declet.Pack -/
def two13 (b : List Int) (e : Int) : List (Own × D) := [(.mine, .r .u64 4 b), (.mine, .p (.int .i64 e))]
def pack13C : FnC := fun ds κ => match ds with
  | [.r .u64 4 c, .p (.int .i64 n)] => cond (decide (0 ≤ n ∧ n ≤ 11)) (cond (decide (val c < 1000 ^ n.toNat)) (κ (two13 (wordsN 4 (pkD n.toNat (val c))) 0)) (κ (two13 (wordsN 4 0) 3))) (κ (two13 (wordsN 4 0) 1))
  | _ => none
def unpack13C : FnC := fun ds κ => match ds with
  | [.r .u64 4 b, .p (.int .i64 n)] => cond (decide (0 ≤ n ∧ n ≤ 11)) (cond (decide (val b < 1024 ^ n.toNat)) (κ (two13 (wordsN 4 (upD n.toNat (val b))) 0)) (κ (two13 (wordsN 4 0) 3))) (κ (two13 (wordsN 4 0) 1))
  | _ => none
theorem and1023 {x : Nat} (hx : x < 18446744073709551616) : Go.bits .and .u64 (x : Int) 1023 = ((x % 1024 : Nat) : Int) := by
  have e : IntKind.u64.wrap (shlI .u64 1 ((10 : Nat) : Int) - 1) = 1023 := by kernel_rfl
  have := and_mask (r := 10) hx (by decide)
  rw [e] at this
  exact this
theorem encw {x : Nat} (h : x < 1000) : (IntKind.u64.wrap (within (IntKind.i64.wrap (x : Int)) 999 (encI (IntKind.i64.wrap (x : Int))) 0)).toNat = encP x := by
  have := enc_lt h
  rw [i64_wrap (by omega) (by omega), within_in (by omega) (by omega)]
  unfold encI
  rw [Int.toNat_natCast, u64_wrap (by omega) (by omega), Int.toNat_natCast]
theorem decw {x : Nat} (h : x < 1024) : (IntKind.u64.wrap (within (IntKind.i64.wrap (x : Int)) 1023 (decI (IntKind.i64.wrap (x : Int))) 0)).toNat = decP x := by
  have := dec_lt h
  rw [i64_wrap (by omega) (by omega), within_in (by omega) (by omega)]
  unfold decI
  rw [Int.toNat_natCast, u64_wrap (by omega) (by omega), Int.toNat_natCast]
theorem w10 {j : Nat} (h : j ≤ 11) : (IntKind.i64.wrap (10 * (j : Int))).toNat = 10 * j := by
  rw [i64_wrap (by omega) (by omega)]
  omega
theorem lt13z {a : Nat} (h : a ≤ 2 ^ 110) : a < 2 ^ 256 := Nat.lt_of_le_of_lt h (by decide)
theorem enc_part {C i : Nat} (hi : i < 11) : encP (C / 1000 ^ i % 1000) * 1024 ^ i < 2 ^ 256 ∧ pkD i C + encP (C / 1000 ^ i % 1000) * 1024 ^ i < 2 ^ 256 ∧ encP (C / 1000 ^ i % 1000) < 2 ^ 256 ∧ pkD i C < 2 ^ 256 := by
  have h1 : pkD (i + 1) C < 1024 ^ (i + 1) := pkD_lt C (i + 1)
  have h2 : pkD (i + 1) C = pkD i C + encP (C / 1000 ^ i % 1000) * 1024 ^ i := rfl
  have h3 := lt13z (k1024 (show i + 1 ≤ 11 by omega))
  have h4 : encP (C / 1000 ^ i % 1000) < 1024 := enc_lt (Nat.mod_lt _ (by decide))
  have h5 : 1024 < 2 ^ 256 := by decide
  generalize 2 ^ 256 = Z at *
  generalize 1024 ^ (i + 1) = U at *
  omega
def pack18L : LpC := lpC 54 [4, 6, 7, 21, 22] fun vs m κ => match vs, m with
  | [.o (.a 0 0), .o (.a 1 0), .o (.a 2 0), .o (.p (.int .i64 n)), .o (.p (.int .i64 i))], [(.mine, .w .u64 4 rs), (.mine, .w .u64 4 out), (.mine, .w .u64 4 cs)] =>
    cond (decide (0 ≤ n ∧ n ≤ 11 ∧ i = 0 ∧ val out = 0)) (κ (.exit 0) (lay 54 [4, 6, 7] [.o (.a 0 0), .o (.a 1 0), .o (.a 2 0)]) [(.mine, .w .u64 4 rs), (.mine, .w .u64 4 (wordsN 4 (pkD n.toNat (val cs)))), (.mine, .w .u64 4 (wordsN 4 (val cs / 1000 ^ n.toNat)))]) none
  | _, _ => none
def pack18E : Env := mkE ty [(38, lDiv4C), (37, enc18C), (40, of4C), (39, lShl4C), (41, lAdd4C)] [(0, pack18L)] [(0, [4, 6, 7, 21, 22])] [(0, [4, 6, 7])] 0 (fun _ => false)
def pack18St (n i : Int) : List V := lay 54 [4, 6, 7, 21, 22] [.o (.a 0 0), .o (.a 1 0), .o (.a 2 0), .o (.p (.int .i64 n)), .o (.p (.int .i64 i))]
theorem pack18_round (n i : Int) (rs out cs : List Int) (f : Nat) (κ : X → List V → Mem → R) : lx pack18E Try.f15 0 (f + 1) (pack18St n i) [(.mine, .w .u64 4 rs), (.mine, .w .u64 4 out), (.mine, .w .u64 4 cs)] κ =
    (cond (decide (i < n))
     (lx pack18E Try.f15 0 f (lay 54 [4, 6, 7, 21, 22] [.o (.a 0 0), .o (.a 1 0), .o (.a 2 0), .o (.p (.int .i64 (n))), .o (.p (.int .i64 (IntKind.i64.wrap (i + (1 : Int)))))]) [(.mine, .w .u64 (4) (rs)), (.mine, .w .u64 (4) (wordsN 4
      (val out +
        val
          (wordsN 4
            (val
                (wordsN 4
                  (IntKind.u64.wrap
                      (within (IntKind.i64.wrap (↑(val cs % 1000) : Int)) (999 : Int)
                        (encI (IntKind.i64.wrap (↑(val cs % 1000) : Int))) (0 : Int))).toNat) *
              2 ^ (IntKind.i64.wrap ((10 : Int) * i)).toNat))))), (.mine, .w .u64 (4) (wordsN 4 (val cs / 1000)))] κ)
     (κ (.exit 0) (lay 54 [4, 6, 7] [.o (.a 0 0), .o (.a 1 0), .o (.a 2 0)]) [(.mine, .w .u64 (4) (rs)), (.mine, .w .u64 (4) (out)), (.mine, .w .u64 (4) (cs))])) := by kernel_rfl
theorem pack18_ev (c : List Int) (n : Int) : evFn pack18E Try.f15 [.r .u64 4 c, .p (.int .i64 n)] =
    (cond (decide (n < (0 : Int)))
     (some [(.mine, .r .u64 4 (List.replicate 4 (0 : Int))), (.mine, .p (.int .i64 (1)))])
     (cond (decide (n > (11 : Int)))
      (some [(.mine, .r .u64 4 (List.replicate 4 (0 : Int))), (.mine, .p (.int .i64 (1)))])
      (cond (decide ((0 : Int) ≤ n ∧ n ≤ (11 : Int) ∧ (0 : Int) = (0 : Int) ∧ 0 = 0))
       (cond (!decide (wordsN 4 (val c / 1000 ^ n.toNat) = List.replicate 4 (0 : Int)))
        (some [(.mine, .r .u64 4 (List.replicate 4 (0 : Int))), (.mine, .p (.int .i64 (3)))])
        (some [(.mine, .r .u64 4 (wordsN 4 (pkD n.toNat (val c)))), (.mine, .p (.int .i64 (0)))]))
       none))) := by kernel_rfl

theorem pack18_loop (n : Nat) (hn : n ≤ 11) (rs : List Int) (C : Nat) (hC : C < 2 ^ 256) (κ : X → List V → Mem → R) : ∀ (j i : Nat), i + j = n →
    lx pack18E Try.f15 0 (j + 1) (pack18St n i) [(.mine, .w .u64 4 rs), (.mine, .w .u64 4 (wordsN 4 (pkD i C))), (.mine, .w .u64 4 (wordsN 4 (C / 1000 ^ i)))] κ =
      κ (.exit 0) (lay 54 [4, 6, 7] [.o (.a 0 0), .o (.a 1 0), .o (.a 2 0)]) [(.mine, .w .u64 4 rs), (.mine, .w .u64 4 (wordsN 4 (pkD n C))), (.mine, .w .u64 4 (wordsN 4 (C / 1000 ^ n)))] := by
  intro j
  induction j with
  | zero =>
    intro i h
    obtain rfl : i = n := by omega
    rw [pack18_round, decide_eq_false (by omega), cond_false]
  | succ j ih =>
    intro i h
    have next := ih (i + 1) (by omega)
    obtain ⟨e1, e2, e3, e4⟩ := enc_part (C := C) (show i < 11 by omega)
    have e5 : C / 1000 ^ i < 2 ^ 256 := Nat.lt_of_le_of_lt (Nat.div_le_self _ _) hC
    rw [pack18_round, decide_eq_true (show (i : Int) < (n : Int) by omega), cond_true, lo4 e5, encw (Nat.mod_lt _ (by decide)), w10 (by omega), p1024, lo4 e3, lo4 e4, lo4 e1, i64_wrap (by omega) (by omega), Nat.div_div_eq_div_mul, ← Nat.pow_succ]
    exact next
theorem pack18L_ok : LoopOK pack18E 0 (lbody Try.f15 0) pack18L := loopOK_lx fun vs m κ r hv hm h => by
  split at h
  case h_2 => cases h
  rename_i n i rs out cs
  replace h := cond_none h
  obtain ⟨hc, h⟩ := h
  obtain ⟨h1, h2, rfl, h4⟩ := of_decide_eq_true hc
  obtain ⟨ho1, _, ho3⟩ := hm 1 _ _ rfl
  obtain ⟨hc1, _, hc3⟩ := hm 2 _ _ rfl
  obtain ⟨n, rfl⟩ := Int.eq_ofNat_of_zero_le h1
  rw [Int.toNat_natCast] at h
  have key := pack18_loop n (by omega) rs (val cs) (val_lt4 hc3 hc1) κ n 0 (by omega)
  rw [show pkD 0 (val cs) = 0 from rfl, ← wordsN_eq ho3 ho1 h4, Nat.pow_zero, Nat.div_one, ← wordsN_eq hc3 hc1 rfl] at key
  exact ⟨_, key.trans h⟩
theorem zero4 {a : Nat} (h : a < 2 ^ 256) : (wordsN 4 a = List.replicate 4 (0 : Int)) ↔ a = 0 := by
  constructor
  · intro e
    have := congrArg val e
    rw [lo4 h, val_zeros] at this
    exact this
  · rintro rfl
    rfl
theorem pack18_he : ∀ ds κ r, (∀ d ∈ ds, d.wf) → pack13C ds κ = some r → ∃ res, κ res = some r ∧ evFn pack18E Try.f15 ds = some res := fun ds κ r hw h => by
  unfold pack13C at h
  split at h
  case h_2 => cases h
  rename_i c n
  rw [pack18_ev]
  by_cases hn : 0 ≤ n ∧ n ≤ 11
  · obtain ⟨m, rfl⟩ := Int.eq_ofNat_of_zero_le hn.1
    obtain ⟨hl, hx⟩ := wfR hw (xs := c) (n := 4) (by simp)
    have hC := val_lt4 hx hl
    have hp : 0 < 1000 ^ m := Nat.pow_pos (by decide)
    rw [decide_eq_true hn, cond_true, Int.toNat_natCast] at h
    rw [decide_eq_false (by omega), cond_false, decide_eq_false (by omega), cond_false, decide_eq_true ⟨hn.1, hn.2, rfl, rfl⟩, cond_true, Int.toNat_natCast, decide_eq_decide.2 (zero4 (Nat.lt_of_le_of_lt (Nat.div_le_self (val c) _) hC))]
    by_cases hlt : val c < 1000 ^ m
    · rw [decide_eq_true hlt, cond_true] at h
      rw [decide_eq_true (Nat.div_eq_of_lt hlt), Bool.not_true, cond_false]
      exact ⟨_, h, rfl⟩
    · rw [decide_eq_false hlt, cond_false] at h
      rw [decide_eq_false (by have := Nat.div_pos (Nat.le_of_not_lt hlt) hp; omega), Bool.not_false, cond_true]
      exact ⟨_, h, rfl⟩
  · rw [decide_eq_false hn, cond_false] at h
    by_cases h0 : n < 0
    · rw [decide_eq_true h0, cond_true]
      exact ⟨_, h, rfl⟩
    · rw [decide_eq_false h0, cond_false, decide_eq_true (by omega), cond_true]
      exact ⟨_, h, rfl⟩
abbrev pack18C := pack13C
theorem pack18_fn : FnOK Try.prog 15 pack18C := fnOK_mk T mixed Try.func15 (by kernel_rfl) (fns := [(38, lDiv4C), (37, enc18C), (40, of4C), (39, lShl4C), (41, lAdd4C)]) (lps := [(0, pack18L)]) (live := [(0, [4, 6, 7, 21, 22])]) (out := [(0, [4, 6, 7])]) (fuel := 0) (give := (fun _ => false)) ⟨lDiv4_fn, enc18_fn, of4_fn, lShl4_fn, lAdd4_fn, trivial⟩ ⟨pack18L_ok, trivial⟩ pack18_he

/-! ### declet.Unpack -/
def unpack18L : LpC := lpC 56 [2, 4, 6, 7] fun vs m κ => match vs, m with
  | [.o (.a 0 0), .o (.a 1 0), .o (.a 2 0), .o (.p (.int .i64 i))], [(.mine, .w .u64 4 bs), (.mine, .w .u64 4 rs), (.mine, .w .u64 4 out)] =>
    cond (decide (-1 ≤ i ∧ i ≤ 10 ∧ val out = 0)) (κ (.exit 1) (lay 56 [4, 6] [.o (.a 0 0), .o (.a 1 0)]) [(.mine, .w .u64 4 rs), (.mine, .w .u64 4 (wordsN 4 (upD (i + 1).toNat (val bs))))]) none
  | _, _ => none
def unpack18E : Env := mkE ty [(27, lLen4C), (45, lShr4C), (44, dec18C), (46, lMul4C), (40, of4C), (41, lAdd4C)] [(1, unpack18L)] [(1, [2, 4, 6, 7])] [(1, [4, 6])] 0 (fun _ => false)
def unpack18St (i : Int) : List V := lay 56 [2, 4, 6, 7] [.o (.a 0 0), .o (.a 1 0), .o (.a 2 0), .o (.p (.int .i64 i))]
theorem unpack18_round (i : Int) (bs rs out : List Int) (f : Nat) (κ : X → List V → Mem → R) : lx unpack18E Try.f18 1 (f + 1) (unpack18St i) [(.mine, .w .u64 4 bs), (.mine, .w .u64 4 rs), (.mine, .w .u64 4 out)] κ =
    (cond (decide (i ≥ (0 : Int)))
     (lx unpack18E Try.f18 1 f (lay 56 [2, 4, 6, 7] [.o (.a 0 0), .o (.a 1 0), .o (.a 2 0), .o (.p (.int .i64 (IntKind.i64.wrap (i - (1 : Int)))))]) [(.mine, .w .u64 (4) (bs)), (.mine, .w .u64 (4) (rs)), (.mine, .w .u64 (4) (wordsN 4
      (val (wordsN 4 (val out * 1000)) +
        val
          (wordsN 4
            (IntKind.u64.wrap
                (within
                  (IntKind.i64.wrap
                    (bits BinOp.and IntKind.u64
                      (↑(val bs / 2 ^ (IntKind.i64.wrap ((10 : Int) * i)).toNat % 18446744073709551616) :
                        Int)
                      (1023 : Int)))
                  (1023 : Int)
                  (decI
                    (IntKind.i64.wrap
                      (bits BinOp.and IntKind.u64
                        (↑(val bs / 2 ^ (IntKind.i64.wrap ((10 : Int) * i)).toNat % 18446744073709551616) :
                          Int)
                        (1023 : Int))))
                  (0 : Int))).toNat))))] κ)
     (κ (.exit 1) (lay 56 [4, 6] [.o (.a 0 0), .o (.a 1 0)]) [(.mine, .w .u64 (4) (rs)), (.mine, .w .u64 (4) (out))])) := by kernel_rfl
theorem unpack18_ev (b : List Int) (n : Int) : evFn unpack18E Try.f18 [.r .u64 4 b, .p (.int .i64 n)] =
    (cond (decide (n < (0 : Int)))
     (some [(.mine, .r .u64 4 (List.replicate 4 (0 : Int))), (.mine, .p (.int .i64 (1)))])
     (cond (decide (n > (11 : Int)))
      (some [(.mine, .r .u64 4 (List.replicate 4 (0 : Int))), (.mine, .p (.int .i64 (1)))])
      (cond (decide ((↑(bitlen (val b)) : Int) > IntKind.i64.wrap ((10 : Int) * n)))
       (some [(.mine, .r .u64 4 (List.replicate 4 (0 : Int))), (.mine, .p (.int .i64 (3)))])
       (cond (decide
      ((-1 : Int) ≤ IntKind.i64.wrap (n - (1 : Int)) ∧
        IntKind.i64.wrap (n - (1 : Int)) ≤ (10 : Int) ∧ 0 = 0))
        (some [(.mine, .r .u64 4 (wordsN 4 (upD (IntKind.i64.wrap (n - (1 : Int)) + (1 : Int)).toNat (val b)))), (.mine, .p (.int .i64 (0)))])
        none)))) := by kernel_rfl
theorem up_part {n B k : Nat} (hn : n ≤ 11) (hk : k < n) : upH n B k < 2 ^ 256 ∧ upH n B k * 1000 < 2 ^ 256 ∧ decP (B / 1024 ^ (n - 1 - k) % 1024) < 2 ^ 256 := by
  have h1 := upH_lt n B k
  have h3 := k1000 (show k + 1 ≤ 11 by omega)
  have h4 : decP (B / 1024 ^ (n - 1 - k) % 1024) < 1000 := dec_lt (Nat.mod_lt _ (by decide))
  have h5 : 2 ^ 110 < 2 ^ 256 := by decide
  have h6 : 1000 < 2 ^ 256 := by decide
  rw [Nat.pow_succ] at h3
  generalize 2 ^ 256 = Z at *
  generalize 2 ^ 110 = Y at *
  generalize 1000 ^ k = U at *
  omega
theorem unpack18_loop (n : Nat) (hn : n ≤ 11) (bs rs : List Int) (κ : X → List V → Mem → R) : ∀ (j k : Nat), k + j = n →
    lx unpack18E Try.f18 1 (j + 1) (unpack18St ((j : Int) - 1)) [(.mine, .w .u64 4 bs), (.mine, .w .u64 4 rs), (.mine, .w .u64 4 (wordsN 4 (upH n (val bs) k)))] κ =
      κ (.exit 1) (lay 56 [4, 6] [.o (.a 0 0), .o (.a 1 0)]) [(.mine, .w .u64 4 rs), (.mine, .w .u64 4 (wordsN 4 (upD n (val bs))))] := by
  intro j
  induction j with
  | zero =>
    intro k h
    obtain rfl : k = n := by omega
    rw [unpack18_round, decide_eq_false (by omega), cond_false]
    rfl
  | succ j ih =>
    intro k h
    have next := ih (k + 1) (by omega)
    obtain ⟨e1, e2, e3⟩ := up_part (B := val bs) hn (show k < n by omega)
    have ej : n - 1 - k = j := by omega
    have eU : upH n (val bs) (k + 1) = upH n (val bs) k * 1000 + decP (val bs / 1024 ^ j % 1024) := by rw [← ej]; rfl
    rw [ej] at e3
    rw [eU] at next
    have em : val bs / 1024 ^ j % 18446744073709551616 % 1024 = val bs / 1024 ^ j % 1024 := Nat.mod_mod_of_dvd _ ⟨18014398509481984, rfl⟩
    rw [unpack18_round, show ((j + 1 : Nat) : Int) - 1 = (j : Int) by omega, decide_eq_true (show (j : Int) ≥ 0 by omega), cond_true, w10 (by omega), p1024, and1023 (Nat.mod_lt _ (by decide)), em, decw (Nat.mod_lt _ (by decide)), lo4 e1, lo4 e2, lo4 e3, i64_wrap (by omega) (by omega)]
    exact next
theorem unpack18L_ok : LoopOK unpack18E 1 (lbody Try.f18 1) unpack18L := loopOK_lx fun vs m κ r hv hm h => by
  split at h
  case h_2 => cases h
  rename_i i bs rs out
  replace h := cond_none h
  obtain ⟨hc, h⟩ := h
  obtain ⟨h1, h2, h3⟩ := of_decide_eq_true hc
  obtain ⟨ho1, _, ho3⟩ := hm 2 _ _ rfl
  obtain ⟨n, hn⟩ := Int.eq_ofNat_of_zero_le (show 0 ≤ i + 1 by omega)
  obtain rfl : i = (n : Int) - 1 := by omega
  rw [hn, Int.toNat_natCast] at h
  have key := unpack18_loop n (by omega) bs rs κ n 0 (by omega)
  rw [show upH n (val bs) 0 = 0 from rfl, ← wordsN_eq ho3 ho1 h3] at key
  exact ⟨_, key.trans h⟩
theorem unpack18_he : ∀ ds κ r, (∀ d ∈ ds, d.wf) → unpack13C ds κ = some r → ∃ res, κ res = some r ∧ evFn unpack18E Try.f18 ds = some res := fun ds κ r hw h => by
  unfold unpack13C at h
  split at h
  case h_2 => cases h
  rename_i b n
  rw [unpack18_ev]
  by_cases hn : 0 ≤ n ∧ n ≤ 11
  · obtain ⟨m, rfl⟩ := Int.eq_ofNat_of_zero_le hn.1
    rw [decide_eq_true hn, cond_true, Int.toNat_natCast] at h
    have hb : ((bitlen (val b) : Nat) : Int) > 10 * (m : Int) ↔ ¬ val b < 1024 ^ m := by
      rw [← p1024, ← bitlen_le_iff]
      omega
    rw [decide_eq_false (by omega), cond_false, decide_eq_false (by omega), cond_false, i64_wrap (by omega) (by omega), i64_wrap (by omega) (by omega)]
    by_cases hlt : val b < 1024 ^ m
    · rw [decide_eq_true hlt, cond_true] at h
      rw [decide_eq_false (fun q => hb.1 q hlt), cond_false, decide_eq_true ⟨by omega, by omega, rfl⟩, cond_true, show ((m : Int) - 1 + 1).toNat = m by omega]
      exact ⟨_, h, rfl⟩
    · rw [decide_eq_false hlt, cond_false] at h
      rw [decide_eq_true (hb.2 hlt), cond_true]
      exact ⟨_, h, rfl⟩
  · rw [decide_eq_false hn, cond_false] at h
    by_cases h0 : n < 0
    · rw [decide_eq_true h0, cond_true]
      exact ⟨_, h, rfl⟩
    · rw [decide_eq_false h0, cond_false, decide_eq_true (by omega), cond_true]
      exact ⟨_, h, rfl⟩
abbrev unpack18C := unpack13C
theorem unpack18_fn : FnOK Try.prog 18 unpack18C := fnOK_mk T mixed Try.func18 (by kernel_rfl) (fns := [(27, lLen4C), (45, lShr4C), (44, dec18C), (46, lMul4C), (40, of4C), (41, lAdd4C)]) (lps := [(1, unpack18L)]) (live := [(1, [2, 4, 6, 7])]) (out := [(1, [4, 6])]) (fuel := 0) (give := (fun _ => false)) ⟨lLen4_fn, lShr4_fn, dec18_fn, lMul4_fn, of4_fn, lAdd4_fn, trivial⟩ ⟨unpack18L_ok, trivial⟩ unpack18_he

end
end Go.Proofs.Ythilpmchdeolnaa.Vm
