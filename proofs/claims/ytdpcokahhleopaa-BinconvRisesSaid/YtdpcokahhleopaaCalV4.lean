/-
  The law BinconvSelf, evaluated. No statement is proved here.
-/
import Derived.Test.YtdpcokahhleopaaCalV2
import Derived.Test.YtdpcokahhleopaaCalX
namespace Go.Proofs.Ytdpcokahhleopaa.Vm
open Go Go.Vm
noncomputable section
set_option linter.unusedVariables false
theorem rnd_tenth : rnd 3 0 false 7205759403792794 1 (-56) = (1036831949, 8) := by
  have hf : flog 2 7205759403792794 1 = 52 := by
    rw [flog_whole (by decide)]
    decide +kernel
  unfold rnd
  rw [if_neg (by decide), hf]
  decide +kernel
theorem cvN_one (n d : Int) (s q : Bool) (x : Int) (F : Nat) : cvN n d 1 s q x F = rnd n d s F 1 x := rfl
theorem cv_tenth : cvB 3 0 4 4591870180066957722 = (1036831949, 8) := by
  have h1 : uC (mN 4) (eN 4) 4591870180066957722 = 1 := by decide +kernel
  have h2 : uS (mN 4) (eN 4) 4591870180066957722 = false := by decide +kernel
  have h3 : uE (mN 4) (eN 4) (eminI 4) 4591870180066957722 = -56 := by decide +kernel
  have h4 : uF (mN 4) (eN 4) 4591870180066957722 = 7205759403792794 := by decide +kernel
  unfold cvB
  generalize uQ (mN 4) (eN 4) 4591870180066957722 = q
  rw [h1, h2, h3, h4, cvN_one, rnd_tenth]
def awake12E : Env := mkE ty [(32, convC)] [] [] [] 0 (fun _ => false)
theorem awake12_ev : evFn awake12E Try.f31 [] =
    cond (decide ((1 ≤ (4 : Int) ∧ (4 : Int) ≤ 6) ∧ ((bitlen (val [4591870180066957722, 0, 0, 0]) : Nat) : Int) ≤ widthI 4 ∧ (1 ≤ (3 : Int) ∧ (3 : Int) ≤ 6) ∧ 0 ≤ (0 : Int) ∧ (0 : Int) ≤ 4))
      (cond (decide (wordsN 4 (cvB 3 0 4 (val [4591870180066957722, 0, 0, 0])).1 = [1036831949, 0, 0, 0])) (rb ((cvB 3 0 4 (val [4591870180066957722, 0, 0, 0])).2 == 8)) (rb false)) (rb false) := by kernel_rfl
theorem awake12_true : evFn awake12E Try.f31 [] = rb true := by
  rw [awake12_ev, show val [4591870180066957722, 0, 0, 0] = 4591870180066957722 from rfl, cv_tenth, decide_eq_true (by decide +kernel), cond_true, decide_eq_true (show wordsN 4 1036831949 = [1036831949, 0, 0, 0] by decide), cond_true]
  rfl
def awake12C : FnC := fun ds κ => match ds with
  | [] => κ [(.mine, .p (.bool true))]
  | _ => none
theorem awake12_he : ∀ ds κ r, (∀ d ∈ ds, d.wf) → awake12C ds κ = some r → ∃ res, κ res = some r ∧ evFn awake12E Try.f31 ds = some res := fun ds κ r hw h => by
  unfold awake12C at h
  split at h
  case h_2 => cases h
  exact ⟨_, h, awake12_true⟩
theorem awake12_fn : FnOK Try.prog 31 awake12C := fnOK_mk T mixed Try.func31 (by kernel_rfl) (fns := [(32, convC)]) (lps := []) (live := []) (out := []) (fuel := 0) (give := (fun _ => false)) ⟨conv_fn, trivial⟩ trivial awake12_he
def selfE : Env := mkE ty [(31, awake12C), (34, rGoodC), (29, rDirC), (32, convC), (28, bUnpackC), (38, bQuietC)] [] [] [] 0 (fun _ => false)
theorem self_ev (n d : Int) (b : List Int) : evFn selfE Try.f14 [.p (.int .i64 n), .p (.int .i64 d), .r .u64 4 b] =
    (cond (decide ((1 : Int) ≤ n ∧ n ≤ (6 : Int)))
     (cond (decide ((↑(bitlen (val b)) : Int) ≤ widthI n))
      (cond (!decide ((0 : Int) ≤ d ∧ d ≤ (4 : Int)))
       (some [(.mine, .p (.bool (true)))])
       (cond (decide
      (((1 : Int) ≤ n ∧ n ≤ (6 : Int)) ∧
        (↑(bitlen (val b)) : Int) ≤ widthI n ∧ ((1 : Int) ≤ n ∧ n ≤ (6 : Int)) ∧ (0 : Int) ≤ d ∧ d ≤ (4 : Int)))
        (cond (decide ((1 : Int) ≤ n ∧ n ≤ (6 : Int)))
         (cond (decide ((↑(bitlen (val b)) : Int) ≤ widthI n))
          (cond (uQ (mN n) (eN n) (val b))
           (cond (decide ((1 : Int) ≤ n ∧ n ≤ (6 : Int)))
            (cond (decide ((↑(bitlen (val b)) : Int) ≤ widthI n))
             (cond (decide (wordsN 4 (cvB n d n (val b)).1 = wordsN 4 (quietN n (val b))))
              (cond ((cvB n d n (val b)).2 == (1 : Int))
               (some [(.mine, .p (.bool ((0 : Int) == (0 : Int))))])
               (some [(.mine, .p (.bool (false)))]))
              (some [(.mine, .p (.bool (false)))]))
             (cond (decide (wordsN 4 (cvB n d n (val b)).1 = wordsN 4 0))
              (cond ((cvB n d n (val b)).2 == (1 : Int))
               (some [(.mine, .p (.bool ((0 : Int) == (0 : Int))))])
               (some [(.mine, .p (.bool (false)))]))
              (some [(.mine, .p (.bool (false)))])))
            (cond (decide (wordsN 4 (cvB n d n (val b)).1 = wordsN 4 0))
             (cond ((cvB n d n (val b)).2 == (1 : Int))
              (some [(.mine, .p (.bool ((0 : Int) == (0 : Int))))])
              (some [(.mine, .p (.bool (false)))]))
             (some [(.mine, .p (.bool (false)))])))
           (cond (decide (wordsN 4 (cvB n d n (val b)).1 = b))
            (cond ((cvB n d n (val b)).2 == (0 : Int))
             (some [(.mine, .p (.bool ((0 : Int) == (0 : Int))))])
             (some [(.mine, .p (.bool (false)))]))
            (some [(.mine, .p (.bool (false)))])))
          (cond (decide (wordsN 4 (cvB n d n (val b)).1 = b))
           (cond ((cvB n d n (val b)).2 == (0 : Int))
            (some [(.mine, .p (.bool ((0 : Int) == (0 : Int))))])
            (some [(.mine, .p (.bool (false)))]))
           (some [(.mine, .p (.bool (false)))])))
         (cond (decide (wordsN 4 (cvB n d n (val b)).1 = b))
          (cond ((cvB n d n (val b)).2 == (0 : Int))
           (some [(.mine, .p (.bool ((0 : Int) == (0 : Int))))])
           (some [(.mine, .p (.bool (false)))]))
          (some [(.mine, .p (.bool (false)))])))
        (cond (decide ((1 : Int) ≤ n ∧ n ≤ (6 : Int)))
         (cond (decide ((↑(bitlen (val b)) : Int) ≤ widthI n))
          (cond (uQ (mN n) (eN n) (val b))
           (cond (decide ((1 : Int) ≤ n ∧ n ≤ (6 : Int)))
            (cond (decide ((↑(bitlen (val b)) : Int) ≤ widthI n))
             (cond (decide (wordsN 4 0 = wordsN 4 (quietN n (val b))))
              (some [(.mine, .p (.bool (false)))])
              (some [(.mine, .p (.bool (false)))]))
             (some [(.mine, .p (.bool (false)))]))
            (some [(.mine, .p (.bool (false)))]))
           (cond (decide (wordsN 4 0 = b))
            (some [(.mine, .p (.bool ((1 : Int) == (0 : Int))))])
            (some [(.mine, .p (.bool (false)))])))
          (cond (decide (wordsN 4 0 = b))
           (some [(.mine, .p (.bool ((1 : Int) == (0 : Int))))])
           (some [(.mine, .p (.bool (false)))])))
         (cond (decide (wordsN 4 0 = b))
          (some [(.mine, .p (.bool ((1 : Int) == (0 : Int))))])
          (some [(.mine, .p (.bool (false)))])))))
      (some [(.mine, .p (.bool (true)))]))
     (some [(.mine, .p (.bool (true)))])) := by kernel_rfl
theorem self_true {w : World} {vs : List Value} (n d : Int) (b : List Int) (hds : all2 (DR w) [D.p (.int .i64 n), D.p (.int .i64 d), D.r .u64 4 b] vs) :
    evFn selfE Try.f14 [.p (.int .i64 n), .p (.int .i64 d), .r .u64 4 b] = some [(.mine, .p (.bool true))] := by
  have hw := all_wf _ _ hds
  obtain ⟨bl, hx⟩ := wfR hw (xs := b) (n := 4) (by simp)
  rw [self_ev]
  by_cases h6 : 1 ≤ n ∧ n ≤ 6
  · by_cases hb : ((bitlen (val b) : Nat) : Int) ≤ widthI n
    · by_cases hd : 0 ≤ d ∧ d ≤ 4
      · obtain ⟨f1, f2, f3, f4, f5, f6, f7, f8, f9, f10, f11, f12⟩ := fmt h6
        have hB : val b < 2 ^ (mN n + eN n + 1) := (bitlen_le_iff _ _).1 (by omega)
        have e : cvB n d n (val b) = (quietN n (val b), cond (uQ (mN n) (eN n) (val b)) 1 0) := cv_self h6 hB
        have hall : ((1 ≤ n ∧ n ≤ 6) ∧ ((bitlen (val b) : Nat) : Int) ≤ widthI n ∧ (1 ≤ n ∧ n ≤ 6) ∧ 0 ≤ d ∧ d ≤ 4) := ⟨h6, hb, h6, hd⟩
        rw [e]
        simp only [decide_eq_true h6, decide_eq_true hb, decide_eq_true hd, decide_eq_true hall, cond_true, Bool.not_true, cond_false]
        cases hq : uQ (mN n) (eN n) (val b)
        · have e2 : quietN n (val b) = val b := by
            have := pack_unpack h6 hB
            rw [hq] at this
            exact this
          rw [e2, cond_false, words_val4 hx bl, decide_eq_true rfl, cond_true]
          rfl
        · rfl
      · rw [decide_eq_true h6, cond_true, decide_eq_true hb, cond_true, decide_eq_false hd, Bool.not_false, cond_true]
    · rw [decide_eq_true h6, cond_true, decide_eq_false hb, cond_false]
  · rw [decide_eq_false h6, cond_false]
theorem self_call {w : World} {ds : List D} {vs : List Value} {res : List (Own × D)} (hds : all2 (DR w) ds vs) (he : evFn selfE Try.f14 ds = some res) : CallTo Try.prog 14 w vs res := call_mk T mixed Try.func14 (by kernel_rfl) (fns := [(31, awake12C), (34, rGoodC), (29, rDirC), (32, convC), (28, bUnpackC), (38, bQuietC)]) (lps := []) (live := []) (out := []) (fuel := 0) (give := (fun _ => false)) ⟨awake12_fn, rGood_fn, rDir_fn, conv_fn, bUnpack_fn, bQuiet_fn, trivial⟩ trivial hds he
end
end Go.Proofs.Ytdpcokahhleopaa.Vm
