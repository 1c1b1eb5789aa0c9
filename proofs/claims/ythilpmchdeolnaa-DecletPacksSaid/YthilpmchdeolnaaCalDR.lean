/-
  Coefficients as declets, evaluated: ref13.Pack, ref13.Unpack. No statement is proved here.
-/
import Derived.Test.YthilpmchdeolnaaCalDP
namespace Go.Proofs.Ythilpmchdeolnaa.Vm
open Go Go.Vm
noncomputable section
set_option linter.unusedVariables false

def rNatC : FnC := fun ds κ => match ds with
  | [.r .u64 4 b] => κ [(.mine, .w .u64 (words (val b)))]
  | _ => none
def rNatE : Env := mkE ty [(62, trimC)] [] [] [] 0 (fun _ => false)
theorem rNat_ev (b : List Int) : evFn rNatE Try.f47 [.r .u64 4 b] = cond (decide (b.length ≤ 1099511627776)) (some [(.mine, .w .u64 (words (val b)))]) none := by kernel_rfl
theorem rNat_he : ∀ ds κ r, (∀ d ∈ ds, d.wf) → rNatC ds κ = some r → ∃ res, κ res = some r ∧ evFn rNatE Try.f47 ds = some res := fun ds κ r hw h => by
  unfold rNatC at h
  split at h
  case h_2 => cases h
  rename_i b
  obtain ⟨hl, hx⟩ := wfR hw (xs := b) (n := 4) (by simp)
  refine ⟨_, h, (rNat_ev b).trans ?_⟩
  rw [decide_eq_true (by omega), cond_true]
theorem rNat_fn : FnOK Try.prog 47 rNatC := fnOK_mk T mixed Try.func47 (by kernel_rfl) (fns := [(62, trimC)]) (lps := []) (live := []) (out := []) (fuel := 0) (give := (fun _ => false)) ⟨trim_fn, trivial⟩ trivial rNat_he

/-! ### ref13.Pack -/
theorem val1 (a : Int) : val [a] = a.toNat := rfl
def rpackL : LpC := lpC 52 [4, 6, 7, 22, 23] fun vs m κ => match vs, m with
  | [.o (.a 0 0), .o (.f 1), .o (.a 2 0), .o (.p (.int .i64 n)), .o (.p (.int .i64 i))], [(.mine, .w .u64 4 rs), (.mine, .w .u64 n1 cs), (.mine, .w .u64 4 out)] =>
    cond (decide (0 ≤ n ∧ n ≤ 11 ∧ i = 0 ∧ val out = 0 ∧ cs = words (val cs) ∧ n1 ≤ 4))
      (κ (.exit 0) (lay 52 [4, 6, 7] [.o (.a 0 0), .o (.f 1), .o (.a 2 0)]) [(.mine, .w .u64 4 rs), (cond (decide (n = 0)) .mine .new, .w .u64 (words (val cs / 1000 ^ n.toNat)).length (words (val cs / 1000 ^ n.toNat))), (.mine, .w .u64 4 (wordsN 4 (pkD n.toNat (val cs))))]) none
  | _, _ => none
def rpackE : Env := mkE ty [(47, rNatC), (48, overC), (50, rNumberC), (49, enc13C), (31, rLayC)] [(0, rpackL)] [(0, [4, 6, 7, 22, 23])] [(0, [4, 6, 7])] 0 (fun _ => false)
def rpackSt (n i : Int) : List V := lay 52 [4, 6, 7, 22, 23] [.o (.a 0 0), .o (.f 1), .o (.a 2 0), .o (.p (.int .i64 n)), .o (.p (.int .i64 i))]
def encW (N : Nat) : Int := IntKind.u64.wrap (within (IntKind.i64.wrap ((N : Nat) : Int)) 999 (encI (IntKind.i64.wrap ((N : Nat) : Int))) 0)
def decW (N : Nat) : Int := IntKind.u64.wrap (within (IntKind.i64.wrap ((N : Nat) : Int)) 1023 (decI (IntKind.i64.wrap ((N : Nat) : Int))) 0)
theorem rpack_round (n i : Int) (n1 : Nat) (o : Own) (rs out cs : List Int) (f : Nat) (κ : X → List V → Mem → R) : lx rpackE Try.f19 0 (f + 1) (rpackSt n i) [(.mine, .w .u64 4 rs), (o, .w .u64 n1 cs), (.mine, .w .u64 4 out)] κ =
    cond (decide (i < n))
     (cond (decide (cs.length ≤ 1000000 ∧ 1 ≤ 1000000 ∧ 0 < 1000))
      (cond (decide (1 ≤ 1000 ∧ (0 : Int) ≤ IntKind.i64.wrap (10 * i) ∧ IntKind.i64.wrap (10 * i) ≤ 1000))
       (lx rpackE Try.f19 0 f (rpackSt n (IntKind.i64.wrap (i + 1))) [(.mine, .w .u64 4 rs), (.new, .w .u64 (words (val cs / 1000)).length (words (val cs / 1000))),
         (.mine, .w .u64 4 (wordsN 4 (val out + val [encW (val (words (val cs % 1000)) % 18446744073709551616)] * 2 ^ (IntKind.i64.wrap (10 * i)).toNat)))] κ)
       none)
      none)
     (κ (.exit 0) (lay 52 [4, 6, 7] [.o (.a 0 0), .o (.f 1), .o (.a 2 0)]) [(.mine, .w .u64 4 rs), (o, .w .u64 n1 cs), (.mine, .w .u64 4 out)]) := by kernel_rfl
theorem rpack_ev (c : List Int) (n : Int) : evFn rpackE Try.f19 [.r .u64 4 c, .p (.int .i64 n)] =
    (cond (decide (n < (0 : Int)))
     (some [(.mine, .r .u64 4 (List.replicate 4 (0 : Int))), (.mine, .p (.int .i64 (1)))])
     (cond (decide (n > (11 : Int)))
      (some [(.mine, .r .u64 4 (List.replicate 4 (0 : Int))), (.mine, .p (.int .i64 (1)))])
      (cond (decide
      ((0 : Int) ≤ n ∧
        n ≤ (11 : Int) ∧
          (0 : Int) = (0 : Int) ∧
            0 = 0 ∧ words (val c) = words (val (words (val c))) ∧ (words (val c)).length ≤ 4))
       (cond (decide ((↑(words (val (words (val c)) / 1000 ^ n.toNat)).length : Int) > (0 : Int)))
        (some [(.mine, .r .u64 4 (List.replicate 4 (0 : Int))), (.mine, .p (.int .i64 (3)))])
        (some [(.mine, .r .u64 4 (wordsN 4 (pkD n.toNat (val (words (val c)))))), (.mine, .p (.int .i64 (0)))]))
       none))) := by kernel_rfl

theorem wlen110 {a : Nat} (h : a ≤ 2 ^ 256) : wlen a ≤ 1000 := by
  have h1 := wlen_mono h
  have h2 := wlen_two_pow 256
  omega
theorem encW_val {x : Nat} (h : x < 1000) : val [encW (val (words x) % 18446744073709551616)] = encP x := by
  rw [val1, val_words, Nat.mod_eq_of_lt (by omega)]
  exact encw h
theorem rpack_loop (n : Nat) (hn : n ≤ 11) (rs : List Int) (C : Nat) (hC : C < 2 ^ 256) (κ : X → List V → Mem → R) : ∀ (j i : Nat), i + j = n → ∀ o : Own,
    lx rpackE Try.f19 0 (j + 1) (rpackSt n i) [(.mine, .w .u64 4 rs), (o, .w .u64 (words (C / 1000 ^ i)).length (words (C / 1000 ^ i))), (.mine, .w .u64 4 (wordsN 4 (pkD i C)))] κ =
      κ (.exit 0) (lay 52 [4, 6, 7] [.o (.a 0 0), .o (.f 1), .o (.a 2 0)]) [(.mine, .w .u64 4 rs), (cond (decide (j = 0)) o .new, .w .u64 (words (C / 1000 ^ n)).length (words (C / 1000 ^ n))), (.mine, .w .u64 4 (wordsN 4 (pkD n C)))] := by
  intro j
  induction j with
  | zero =>
    intro i h o
    obtain rfl : i = n := by omega
    rw [rpack_round, decide_eq_false (by omega), cond_false, decide_eq_true rfl, cond_true]
  | succ j ih =>
    intro i h o
    have next := ih (i + 1) (by omega) .new
    obtain ⟨e1, e2, e3, e4⟩ := enc_part (C := C) (show i < 11 by omega)
    have e5 : C / 1000 ^ i < 2 ^ 256 := Nat.lt_of_le_of_lt (Nat.div_le_self _ _) hC
    have e6 := wlen110 (Nat.le_of_lt e5)
    have e7 : (cond (decide (j = 0)) Own.new .new) = .new := by cases decide (j = 0) <;> rfl
    have e8 : IntKind.i64.wrap (10 * (i : Int)) = 10 * (i : Int) := i64_wrap (by omega) (by omega)
    rw [rpack_round, decide_eq_true (show (i : Int) < (n : Int) by omega), cond_true, length_words, decide_eq_true ⟨by omega, by decide, by decide⟩, cond_true, e8, decide_eq_true ⟨by decide, by omega, by omega⟩, cond_true, val_words,
      encW_val (Nat.mod_lt _ (by decide)), show (10 * (i : Int)).toNat = 10 * i by omega, p1024, lo4 e4, i64_wrap (by omega) (by omega), Nat.div_div_eq_div_mul, ← Nat.pow_succ, decide_eq_false (by omega), cond_false]
    rw [e7] at next
    exact next
theorem rpackL_ok : LoopOK rpackE 0 (lbody Try.f19 0) rpackL := loopOK_lx fun vs m κ r hv hm h => by
  split at h
  case h_2 => cases h
  rename_i n i rs n1 cs out
  replace h := cond_none h
  obtain ⟨hc, h⟩ := h
  obtain ⟨h1, h2, rfl, h4, h5, h6⟩ := of_decide_eq_true hc
  obtain ⟨hc1, _, hc3⟩ := hm 1 _ _ rfl
  obtain ⟨ho1, _, ho3⟩ := hm 2 _ _ rfl
  obtain ⟨n, rfl⟩ := Int.eq_ofNat_of_zero_le h1
  rw [Int.toNat_natCast] at h
  have hC : val cs < 2 ^ 256 := by
    have a1 := val_lt hc3
    have a2 : 18446744073709551616 ^ cs.length ≤ 18446744073709551616 ^ 4 := Nat.pow_le_pow_right (by decide) (by omega)
    have a3 : 18446744073709551616 ^ 4 = 2 ^ 256 := by decide
    omega
  have key := rpack_loop n (by omega) rs (val cs) hC κ n 0 (by omega) .mine
  rw [show pkD 0 (val cs) = 0 from rfl, ← wordsN_eq ho3 ho1 h4, Nat.pow_zero, Nat.div_one, ← h5, hc1] at key
  rw [decide_eq_decide.2 (show (n : Int) = 0 ↔ n = 0 by omega)] at h
  exact ⟨_, key.trans h⟩
theorem words_none {a : Nat} : ((words a).length : Int) > 0 ↔ a ≠ 0 := by
  constructor
  · rintro h rfl
    rw [words_zero] at h
    exact absurd h (by decide)
  · intro h
    by_cases h0 : (words a).length = 0
    · have := val_words a
      rw [List.length_eq_zero_iff.1 h0] at this
      exact absurd this.symm h
    · omega
theorem rpack_he : ∀ ds κ r, (∀ d ∈ ds, d.wf) → pack13C ds κ = some r → ∃ res, κ res = some r ∧ evFn rpackE Try.f19 ds = some res := fun ds κ r hw h => by
  unfold pack13C at h
  split at h
  case h_2 => cases h
  rename_i c n
  rw [rpack_ev]
  by_cases hn : 0 ≤ n ∧ n ≤ 11
  · obtain ⟨m, rfl⟩ := Int.eq_ofNat_of_zero_le hn.1
    obtain ⟨hl, hx⟩ := wfR hw (xs := c) (n := 4) (by simp)
    have hp : 0 < 1000 ^ m := Nat.pow_pos (by decide)
    have hw4 : (words (val c)).length ≤ 4 := by
      have := wlen_val hx
      rw [length_words]
      omega
    rw [decide_eq_true hn, cond_true, Int.toNat_natCast] at h
    rw [val_words, decide_eq_false (by omega), cond_false, decide_eq_false (by omega), cond_false, decide_eq_true ⟨hn.1, hn.2, rfl, rfl, rfl, hw4⟩, cond_true, Int.toNat_natCast, decide_eq_decide.2 words_none]
    by_cases hlt : val c < 1000 ^ m
    · rw [decide_eq_true hlt, cond_true] at h
      rw [decide_eq_false (by rw [Nat.div_eq_of_lt hlt]; exact fun q => q rfl), cond_false]
      exact ⟨_, h, rfl⟩
    · rw [decide_eq_false hlt, cond_false] at h
      rw [decide_eq_true (Nat.ne_of_gt (Nat.div_pos (Nat.le_of_not_lt hlt) hp)), cond_true]
      exact ⟨_, h, rfl⟩
  · rw [decide_eq_false hn, cond_false] at h
    by_cases h0 : n < 0
    · rw [decide_eq_true h0, cond_true]
      exact ⟨_, h, rfl⟩
    · rw [decide_eq_false h0, cond_false, decide_eq_true (by omega), cond_true]
      exact ⟨_, h, rfl⟩
abbrev rpackC := pack13C
theorem rpack_fn : FnOK Try.prog 19 rpackC := fnOK_mk T mixed Try.func19 (by kernel_rfl) (fns := [(47, rNatC), (48, overC), (50, rNumberC), (49, enc13C), (31, rLayC)]) (lps := [(0, rpackL)]) (live := [(0, [4, 6, 7, 22, 23])]) (out := [(0, [4, 6, 7])]) (fuel := 0) (give := (fun _ => false)) ⟨rNat_fn, over_fn, rNumber_fn, enc13_fn, rLay_fn, trivial⟩ ⟨rpackL_ok, trivial⟩ rpack_he

/-! ### ref13.Unpack -/
def runpL : LpC := lpC 49 [1, 2, 4, 6, 23, 24] fun vs m κ => match vs, m with
  | [.o (.p (.int .i64 c)), .o (.a 0 0), .o (.a 1 0), .o .z, .o (.p (.int .i64 n)), .o (.p (.int .i64 i))], [(.mine, .w .u64 4 bs), (.mine, .w .u64 4 rs)] =>
    cond (decide (0 ≤ n ∧ n ≤ 11 ∧ i = 0 ∧ c = n)) (cond (decide (n = 0)) (κ (.exit 0) (lay 49 [4, 6] [.o (.a 0 0), .o .z]) [(.mine, .w .u64 4 rs)])
      (κ (.exit 0) (lay 49 [4, 6] [.o (.a 0 0), .o (.f 1)]) [(.mine, .w .u64 4 rs), (.mine, .w .u64 (words (upD n.toNat (val bs))).length (words (upD n.toNat (val bs))))])) none
  | _, _ => none
def runpE : Env := mkE ty [(32, lenC), (33, rFieldC), (50, rNumberC), (51, dec13C), (43, timesC), (52, addC), (35, rBitsC)] [(0, runpL)] [(0, [1, 2, 4, 6, 23, 24])] [(0, [4, 6])] 0 (fun _ => false)
def runpSt (c : Int) (v : V) (n i : Int) : List V := lay 49 [1, 2, 4, 6, 23, 24] [.o (.p (.int .i64 c)), .o (.a 0 0), .o (.a 1 0), v, .o (.p (.int .i64 n)), .o (.p (.int .i64 i))]
def pos10 (c i : Int) : Int := IntKind.i64.wrap (10 * IntKind.i64.wrap (IntKind.i64.wrap (c - 1) - i))
def digW (bs : List Int) (c i : Int) : Int := decW (val (words (val bs / 2 ^ (pos10 c i).toNat % 2 ^ (10 : Int).toNat)) % 18446744073709551616)
theorem runp_first (c n i : Int) (bs rs : List Int) (f : Nat) (κ : X → List V → Mem → R) : lx runpE Try.f20 0 (f + 1) (runpSt c (.o .z) n i) [(.mine, .w .u64 4 bs), (.mine, .w .u64 4 rs)] κ =
    cond (decide (i < n))
     (cond (decide ((0 : Int) ≤ pos10 c i ∧ (0 : Int) ≤ 10 ∧ (10 : Int) ≤ 256))
      (lx runpE Try.f20 0 f (runpSt c (.o (.f 2)) n (IntKind.i64.wrap (i + 1))) [(.mine, .w .u64 4 bs), (.mine, .w .u64 4 rs), (.mine, .w .u64 (words (0 + val [digW bs c i])).length (words (0 + val [digW bs c i])))] κ)
      none)
     (κ (.exit 0) (lay 49 [4, 6] [.o (.a 0 0), .o .z]) [(.mine, .w .u64 4 rs)]) := by kernel_rfl
theorem runp_round (c n i : Int) (n1 : Nat) (bs rs us : List Int) (f : Nat) (κ : X → List V → Mem → R) : lx runpE Try.f20 0 (f + 1) (runpSt c (.o (.f 2)) n i) [(.mine, .w .u64 4 bs), (.mine, .w .u64 4 rs), (.mine, .w .u64 n1 us)] κ =
    cond (decide (i < n))
     (cond (decide ((0 : Int) ≤ pos10 c i ∧ (0 : Int) ≤ 10 ∧ (10 : Int) ≤ 256))
      (cond (decide (us.length ≤ 274877906944 ∧ 1 ≤ 274877906944))
       (cond (decide ((words (val us * 1000)).length ≤ 549755813888 ∧ 1 ≤ 549755813888))
        (lx runpE Try.f20 0 f (runpSt c (.o (.f 2)) n (IntKind.i64.wrap (i + 1))) [(.mine, .w .u64 4 bs), (.mine, .w .u64 4 rs), (.mine, .w .u64 (words (val (words (val us * 1000)) + val [digW bs c i])).length (words (val (words (val us * 1000)) + val [digW bs c i])))] κ)
        none)
       none)
      none)
     (κ (.exit 0) (lay 49 [4, 6] [.o (.a 0 0), .o (.f 1)]) [(.mine, .w .u64 4 rs), (.mine, .w .u64 n1 us)]) := by kernel_rfl
theorem runp_ev (b : List Int) (n : Int) : evFn runpE Try.f20 [.r .u64 4 b, .p (.int .i64 n)] =
    (cond (decide (n < (0 : Int)))
     (some [(.mine, .r .u64 4 (List.replicate 4 (0 : Int))), (.mine, .p (.int .i64 (1)))])
     (cond (decide (n > (11 : Int)))
      (some [(.mine, .r .u64 4 (List.replicate 4 (0 : Int))), (.mine, .p (.int .i64 (1)))])
      (cond (decide ((↑(bitlen (val b)) : Int) > IntKind.i64.wrap ((10 : Int) * n)))
       (some [(.mine, .r .u64 4 (List.replicate 4 (0 : Int))), (.mine, .p (.int .i64 (3)))])
       (cond (decide ((0 : Int) ≤ n ∧ n ≤ (11 : Int) ∧ (0 : Int) = (0 : Int) ∧ n = n))
        (cond (decide (n = (0 : Int)))
         (some [(.mine, .r .u64 4 (wordsN 4 0)), (.mine, .p (.int .i64 (0)))])
         (some [(.mine, .r .u64 4 (wordsN 4 (val (words (upD n.toNat (val b)))))), (.mine, .p (.int .i64 (0)))]))
        none)))) := by kernel_rfl
theorem pos10_is {n k j : Nat} (hn : n ≤ 11) (h : k + j + 1 = n) : pos10 n k = ((10 * j : Nat) : Int) := by
  unfold pos10
  have e1 : IntKind.i64.wrap ((n : Int) - 1) = (n : Int) - 1 := i64_wrap (by omega) (by omega)
  have e2 : IntKind.i64.wrap ((n : Int) - 1 - (k : Int)) = (j : Int) := by rw [i64_wrap (by omega) (by omega)]; omega
  rw [e1, e2, i64_wrap (by omega) (by omega)]
  omega
theorem digW_val {bs : List Int} {n k j : Nat} (hn : n ≤ 11) (h : k + j + 1 = n) : val [digW bs n k] = decP (val bs / 1024 ^ j % 1024) := by
  have h1 : val bs / 1024 ^ j % 1024 < 1024 := Nat.mod_lt _ (by decide)
  unfold digW
  rw [val1, pos10_is hn h, Int.toNat_natCast, p1024, show 2 ^ (10 : Int).toNat = 1024 from rfl, val_words, Nat.mod_eq_of_lt (show val bs / 1024 ^ j % 1024 < 18446744073709551616 by omega)]
  exact decw h1
theorem upH_next {n B k j : Nat} (h : k + j + 1 = n) : upH n B (k + 1) = upH n B k * 1000 + decP (B / 1024 ^ j % 1024) := by
  have : n - 1 - k = j := by omega
  rw [← this]
  rfl
theorem runp_loop (n : Nat) (hn : n ≤ 11) (bs rs : List Int) (κ : X → List V → Mem → R) : ∀ (j k : Nat), k + j = n →
    lx runpE Try.f20 0 (j + 1) (runpSt n (.o (.f 2)) n k) [(.mine, .w .u64 4 bs), (.mine, .w .u64 4 rs), (.mine, .w .u64 (words (upH n (val bs) k)).length (words (upH n (val bs) k)))] κ =
      κ (.exit 0) (lay 49 [4, 6] [.o (.a 0 0), .o (.f 1)]) [(.mine, .w .u64 4 rs), (.mine, .w .u64 (words (upD n (val bs))).length (words (upD n (val bs))))] := by
  intro j
  induction j with
  | zero =>
    intro k h
    obtain rfl : k = n := by omega
    rw [runp_round, decide_eq_false (by omega), cond_false]
    rfl
  | succ j ih =>
    intro k h
    have next := ih (k + 1) (by omega)
    obtain ⟨e1, e2, e3⟩ := up_part (B := val bs) hn (show k < n by omega)
    have w1 := wlen110 (Nat.le_of_lt e1)
    have w2 := wlen110 (Nat.le_of_lt e2)
    rw [upH_next (show k + j + 1 = n by omega)] at next
    rw [runp_round, decide_eq_true (show (k : Int) < (n : Int) by omega), cond_true, pos10_is hn (show k + j + 1 = n by omega), decide_eq_true ⟨by omega, by decide, by decide⟩, cond_true, val_words, length_words, decide_eq_true ⟨by omega, by decide⟩, cond_true,
      length_words, decide_eq_true ⟨by omega, by decide⟩, cond_true, val_words, digW_val hn (show k + j + 1 = n by omega), i64_wrap (by omega) (by omega)]
    exact next
theorem runpL_ok : LoopOK runpE 0 (lbody Try.f20 0) runpL := loopOK_lx fun vs m κ r hv hm h => by
  split at h
  case h_2 => cases h
  rename_i c n i bs rs
  replace h := cond_none h
  obtain ⟨hc, h⟩ := h
  obtain ⟨h1, h2, rfl, rfl⟩ := of_decide_eq_true hc
  obtain ⟨n, rfl⟩ := Int.eq_ofNat_of_zero_le h1
  rw [Int.toNat_natCast] at h
  cases n with
  | zero =>
    rw [decide_eq_true (show ((0 : Nat) : Int) = 0 from rfl), cond_true] at h
    refine ⟨0 + 1, ?_⟩
    exact (runp_first _ _ _ bs rs 0 κ).trans h
  | succ j =>
    rw [decide_eq_false (by omega), cond_false] at h
    have key := runp_loop (j + 1) (by omega) bs rs κ j 1 (by omega)
    refine ⟨(j + 1) + 1, (runp_first _ _ _ bs rs (j + 1) κ).trans ?_⟩
    have e : upH (j + 1) (val bs) 1 = 0 + decP (val bs / 1024 ^ j % 1024) := by
      have := upH_next (n := j + 1) (B := val bs) (k := 0) (j := j) (by omega)
      rw [show upH (j + 1) (val bs) 0 = 0 from rfl, Nat.zero_mul, Nat.zero_add 1] at this
      exact this
    have p := pos10_is (n := j + 1) (k := 0) (j := j) (by omega) (by omega)
    have d := digW_val (bs := bs) (n := j + 1) (k := 0) (j := j) (by omega) (by omega)
    rw [show ((0 : Nat) : Int) = 0 from rfl] at p d
    rw [e] at key
    rw [decide_eq_true (show (0 : Int) < ((j + 1 : Nat) : Int) by omega), cond_true, p, decide_eq_true ⟨by omega, by decide, by decide⟩, cond_true, d, show IntKind.i64.wrap (0 + 1) = ((1 : Nat) : Int) from rfl]
    exact key.trans h
theorem runp_he : ∀ ds κ r, (∀ d ∈ ds, d.wf) → unpack13C ds κ = some r → ∃ res, κ res = some r ∧ evFn runpE Try.f20 ds = some res := fun ds κ r hw h => by
  unfold unpack13C at h
  split at h
  case h_2 => cases h
  rename_i b n
  rw [runp_ev]
  by_cases hn : 0 ≤ n ∧ n ≤ 11
  · obtain ⟨m, rfl⟩ := Int.eq_ofNat_of_zero_le hn.1
    rw [decide_eq_true hn, cond_true, Int.toNat_natCast] at h
    have hb : ((bitlen (val b) : Nat) : Int) > 10 * (m : Int) ↔ ¬ val b < 1024 ^ m := by
      rw [← p1024, ← bitlen_le_iff]
      omega
    rw [decide_eq_false (by omega), cond_false, decide_eq_false (by omega), cond_false, i64_wrap (by omega) (by omega), Int.toNat_natCast, val_words]
    by_cases hlt : val b < 1024 ^ m
    · rw [decide_eq_true hlt, cond_true] at h
      rw [decide_eq_false (fun q => hb.1 q hlt), cond_false, decide_eq_true ⟨hn.1, hn.2, rfl, rfl⟩, cond_true]
      by_cases h0 : m = 0
      · subst h0
        rw [decide_eq_true (by omega), cond_true]
        exact ⟨_, h, rfl⟩
      · rw [decide_eq_false (by omega), cond_false]
        exact ⟨_, h, rfl⟩
    · rw [decide_eq_false hlt, cond_false] at h
      rw [decide_eq_true (hb.2 hlt), cond_true]
      exact ⟨_, h, rfl⟩
  · rw [decide_eq_false hn, cond_false] at h
    by_cases h0 : n < 0
    · rw [decide_eq_true h0, cond_true]
      exact ⟨_, h, rfl⟩
    · rw [decide_eq_false h0, cond_false, decide_eq_true (by omega), cond_true]
      exact ⟨_, h, rfl⟩
abbrev runpC := unpack13C
theorem runp_fn : FnOK Try.prog 20 runpC := fnOK_mk T mixed Try.func20 (by kernel_rfl) (fns := [(32, lenC), (33, rFieldC), (50, rNumberC), (51, dec13C), (43, timesC), (52, addC), (35, rBitsC)]) (lps := [(0, runpL)]) (live := [(0, [1, 2, 4, 6, 23, 24])]) (out := [(0, [4, 6])]) (fuel := 0) (give := (fun _ => false)) ⟨len_fn, rField_fn, rNumber_fn, dec13_fn, times_fn, add_fn, rBits_fn, trivial⟩ ⟨runpL_ok, trivial⟩ runp_he
end
end Go.Proofs.Ythilpmchdeolnaa.Vm
