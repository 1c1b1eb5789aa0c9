/-
  The laws DecletPacks and DecletThere, evaluated. No statement is proved here.
-/
import Derived.Test.YthilpmchdeolnaaCalDR
namespace Go.Proofs.Ythilpmchdeolnaa.Vm
open Go Go.Vm
noncomputable section
set_option linter.unusedVariables false
def packs13E : Env := mkE ty [(14, awake13C), (15, pack18C), (19, rpackC), (18, unpack18C), (20, runpC)] [] [] [] 0 (fun _ => false)
def there13E : Env := mkE ty [(14, awake13C), (15, pack18C), (18, unpack18C), (17, powC), (16, cmpC)] [] [] [] 0 (fun _ => false)
def pkQ (c : List Int) (n : Int) (κ : List Int → Int → R) : R := cond (decide (0 ≤ n ∧ n ≤ 11)) (cond (decide (val c < 1000 ^ n.toNat)) (κ (wordsN 4 (pkD n.toNat (val c))) 0) (κ (wordsN 4 0) 3)) (κ (wordsN 4 0) 1)
def upQ (b : List Int) (n : Int) (κ : List Int → Int → R) : R := cond (decide (0 ≤ n ∧ n ≤ 11)) (cond (decide (val b < 1024 ^ n.toNat)) (κ (wordsN 4 (upD n.toNat (val b))) 0) (κ (wordsN 4 0) 3)) (κ (wordsN 4 0) 1)
theorem packs13_ev (c b : List Int) (n : Int) : evFn packs13E Try.f7 [.r .u64 4 c, .r .u64 4 b, .p (.int .i64 n)] =
    pkQ c n fun p e => pkQ c n fun p' e' => upQ b n fun u g => upQ b n fun u' g' =>
      cond (decide (p = p')) (cond (e == e') (cond (decide (u = u')) (rb (g == g')) (rb false)) (rb false)) (rb false) := by kernel_rfl
theorem packs13_true {w : World} {vs : List Value} (c b : List Int) (n : Int) (_ : all2 (DR w) [D.r .u64 4 c, D.r .u64 4 b, D.p (.int .i64 n)] vs) :
    evFn packs13E Try.f7 [.r .u64 4 c, .r .u64 4 b, .p (.int .i64 n)] = some [(.mine, .p (.bool true))] := by
  rw [packs13_ev]
  unfold pkQ upQ
  cases decide (0 ≤ n ∧ n ≤ 11) <;> cases decide (val c < 1000 ^ n.toNat) <;> cases decide (val b < 1024 ^ n.toNat) <;> simp [rb]
theorem packs13_call {w : World} {ds : List D} {vs : List Value} {res : List (Own × D)} (hds : all2 (DR w) ds vs) (he : evFn packs13E Try.f7 ds = some res) : CallTo Try.prog 7 w vs res := call_mk T mixed Try.func7 (by kernel_rfl) (fns := [(14, awake13C), (15, pack18C), (19, rpackC), (18, unpack18C), (20, runpC)]) (lps := []) (live := []) (out := []) (fuel := 0) (give := (fun _ => false)) ⟨awake13_fn, pack18_fn, rpack_fn, unpack18_fn, runp_fn, trivial⟩ trivial hds he
def more (n : Int) : Int := if 11 < IntKind.i64.wrap (n + 1) then 11 else IntKind.i64.wrap (n + 1)
def badT (c : List Int) (n : Int) : R := cond (decide (n < 0)) (rb true) (cond (decide (n > 11)) (rb true) (cond (decide (0 ≤ n ∧ n ≤ 100000)) (rb (decide (cmpI (val c) (val (words (1000 ^ n.toNat))) ≥ 0))) none))
theorem there13_ev (c : List Int) (n : Int) : evFn there13E Try.f6 [.r .u64 4 c, .p (.int .i64 n)] =
    cond (decide (0 ≤ n ∧ n ≤ 11))
     (cond (decide (val c < 1000 ^ n.toNat))
      (cond (decide (0 ≤ n ∧ n ≤ 11))
       (cond (decide (val (wordsN 4 (pkD n.toNat (val c))) < 1024 ^ n.toNat))
        (cond (!decide (wordsN 4 (upD n.toNat (val (wordsN 4 (pkD n.toNat (val c))))) = c))
         (rb false)
         (cond (decide (0 ≤ more n ∧ more n ≤ 11))
          (cond (decide (val c < 1000 ^ (more n).toNat)) (rb (decide (wordsN 4 (pkD (more n).toNat (val c)) = wordsN 4 (pkD n.toNat (val c))))) (rb false))
          (rb false)))
        (rb false))
       (rb false))
      (badT c n))
     (badT c n) := by kernel_rfl
theorem more_is {m : Nat} (h : m ≤ 11) : ∃ k : Nat, more m = k ∧ k ≤ 11 ∧ (k = m ∨ k = m + 1) := by
  unfold more
  rw [i64_wrap (by omega) (by omega)]
  split
  · exact ⟨11, rfl, by omega, by omega⟩
  · exact ⟨m + 1, by omega, by omega, by omega⟩
theorem there13_true {w : World} {vs : List Value} (c : List Int) (n : Int) (hds : all2 (DR w) [D.r .u64 4 c, D.p (.int .i64 n)] vs) :
    evFn there13E Try.f6 [.r .u64 4 c, .p (.int .i64 n)] = some [(.mine, .p (.bool true))] := by
  have hw := all_wf _ _ hds
  obtain ⟨hl, hx⟩ := wfR hw (xs := c) (n := 4) (by simp)
  rw [there13_ev]
  by_cases hn : 0 ≤ n ∧ n ≤ 11
  · obtain ⟨m, rfl⟩ := Int.eq_ofNat_of_zero_le hn.1
    have hm : m ≤ 11 := by omega
    rw [decide_eq_true hn, cond_true, cond_true, Int.toNat_natCast]
    by_cases hlt : val c < 1000 ^ m
    · have h1 := pkD_lt (val c) m
      have h2 := Nat.lt_of_lt_of_le h1 (Nat.le_of_lt (lt13z (k1024 hm)))
      obtain ⟨k, e, hk, h3⟩ := more_is hm
      have h4 : val c < 1000 ^ k := Nat.lt_of_lt_of_le hlt (Nat.pow_le_pow_right (by decide) (by omega))
      have h5 : pkD k (val c) = pkD m (val c) := by
        rcases h3 with rfl | rfl
        · rfl
        · exact pkD_more hlt
      rw [decide_eq_true hlt, cond_true, lo4 h2, decide_eq_true h1, cond_true, upD_pkD hlt, words_val4 hx hl, decide_eq_true rfl, Bool.not_true, cond_false, e, decide_eq_true ⟨by omega, by omega⟩, cond_true, Int.toNat_natCast, decide_eq_true h4, cond_true, h5, decide_eq_true rfl]
      rfl
    · unfold badT
      have h0 : cmpI (val c) (1000 ^ m) ≥ 0 := by
        unfold cmpI
        rw [if_neg hlt]
        split <;> decide
      rw [decide_eq_false hlt, cond_false, decide_eq_false (by omega), cond_false, decide_eq_false (by omega), cond_false, decide_eq_true ⟨by omega, by omega⟩, cond_true, Int.toNat_natCast, val_words, decide_eq_true h0]
      rfl
  · rw [decide_eq_false hn, cond_false]
    unfold badT
    by_cases h0 : n < 0
    · rw [decide_eq_true h0, cond_true]
      rfl
    · rw [decide_eq_false h0, cond_false, decide_eq_true (by omega), cond_true]
      rfl
theorem there13_call {w : World} {ds : List D} {vs : List Value} {res : List (Own × D)} (hds : all2 (DR w) ds vs) (he : evFn there13E Try.f6 ds = some res) : CallTo Try.prog 6 w vs res := call_mk T mixed Try.func6 (by kernel_rfl) (fns := [(14, awake13C), (15, pack18C), (18, unpack18C), (17, powC), (16, cmpC)]) (lps := []) (live := []) (out := []) (fuel := 0) (give := (fun _ => false)) ⟨awake13_fn, pack18_fn, unpack18_fn, pow_fn, cmp_fn, trivial⟩ trivial hds he
end
end Go.Proofs.Ythilpmchdeolnaa.Vm
