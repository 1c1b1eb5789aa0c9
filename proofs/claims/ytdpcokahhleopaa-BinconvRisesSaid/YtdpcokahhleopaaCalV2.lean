/-
  Conversions between formats, evaluated: binconv.Convert. No statement is proved here.
-/
import Derived.Test.YtdpcokahhleopaaCalV1
namespace Go.Proofs.Ytdpcokahhleopaa.Vm
open Go Go.Vm
noncomputable section
set_option linter.unusedVariables false
abbrev rroundC := rRoundC
def rNatC : FnC := fun ds κ => match ds with
  | [.r .u64 4 b] => κ [(.mine, .w .u64 (words (val b)))]
  | _ => none
def rNatE : Env := mkE ty [(51, trimC)] [] [] [] 0 (fun _ => false)
theorem rNat_ev (b : List Int) : evFn rNatE Try.f97 [.r .u64 4 b] = cond (decide (b.length ≤ 1099511627776)) (some [(.mine, .w .u64 (words (val b)))]) none := by kernel_rfl
theorem rNat_he : ∀ ds κ r, (∀ d ∈ ds, d.wf) → rNatC ds κ = some r → ∃ res, κ res = some r ∧ evFn rNatE Try.f97 ds = some res := fun ds κ r hw h => by
  unfold rNatC at h
  split at h
  case h_2 => cases h
  rename_i b
  obtain ⟨hl, hx⟩ := wfR hw (xs := b) (n := 4) (by simp)
  refine ⟨_, h, (rNat_ev b).trans ?_⟩
  rw [decide_eq_true (by omega), cond_true]
theorem rNat_fn : FnOK Try.prog 97 rNatC := fnOK_mk T mixed Try.func97 (by kernel_rfl) (fns := [(51, trimC)]) (lps := []) (live := []) (out := []) (fuel := 0) (give := (fun _ => false)) ⟨trim_fn, trivial⟩ trivial rNat_he

def cvB (n d m : Int) (B : Nat) : Nat × Int := cvN n d (uC (mN m) (eN m) B) (uS (mN m) (eN m) B) (uQ (mN m) (eN m) B) (uE (mN m) (eN m) (eminI m) B) (uF (mN m) (eN m) B)
def convC : FnC := fun ds κ => match ds with
  | [.p (.int .i64 m), .p (.int .i64 n), .p (.int .i64 d), .r .u64 4 b] => cond (decide ((1 ≤ m ∧ m ≤ 6) ∧ ((bitlen (val b) : Nat) : Int) ≤ widthI m ∧ (1 ≤ n ∧ n ≤ 6) ∧ 0 ≤ d ∧ d ≤ 4))
      (κ [(.mine, .r .u64 4 (wordsN 4 (cvB n d m (val b)).1)), (.mine, .p (.int .i64 (cvB n d m (val b)).2)), (.mine, .p (.int .i64 0))])
      (κ [(.mine, .r .u64 4 (wordsN 4 0)), (.mine, .p (.int .i64 0)), (.mine, .p (.int .i64 1))])
  | _ => none
def convE : Env := mkE ty [(28, bUnpackC), (39, dBinaryC), (41, fRightC), (65, specialC), (26, sclPC)] [] [] [] 0 (fun _ => false)
def badR : R := some [(.mine, .r .u64 4 (List.replicate 4 (0 : Int))), (.mine, .p (.int .i64 0)), (.mine, .p (.int .i64 1))]
def convT (n d C : Int) (S Q : Bool) (X : Int) (V : Nat) : R :=
  cond (decide ((1 ≤ n ∧ n ≤ 6) ∧ datOK n C Q X V))
    (cond (C == 1 && !decide (V = 0))
      (cond (decide ((1 ≤ n ∧ n ≤ 6) ∧ 0 ≤ d ∧ d ≤ 4)) (some [(.mine, .r .u64 4 (wordsN 4 (rnd n d S V 1 X).1)), (.mine, .p (.int .i64 (rnd n d S V 1 X).2)), (.mine, .p (.int .i64 0))])
        (some [(.mine, .r .u64 4 (wordsN 4 0)), (.mine, .p (.int .i64 0)), (.mine, .p (.int .i64 1))]))
      (some [(.mine, .r .u64 4 (wordsN 4 (cvN n 0 C S Q X V).1)), (.mine, .p (.int .i64 (cvN n 0 C S Q X V).2)), (.mine, .p (.int .i64 0))])) none
theorem conv_ev (m n d : Int) (b : List Int) : evFn convE Try.f32 [.p (.int .i64 m), .p (.int .i64 n), .p (.int .i64 d), .r .u64 4 b] =
    cond (decide (1 ≤ m ∧ m ≤ 6))
     (cond (decide (((bitlen (val b) : Nat) : Int) ≤ widthI m))
      (cond (decide (1 ≤ n ∧ n ≤ 12))
       (cond (baseI n == 2)
        (cond (!decide (((0 : Nat) : Int) ≤ widthI n)) badR (cond (!decide (0 ≤ d ∧ d ≤ 4)) badR
          (convT n d (uC (mN m) (eN m) (val b)) (uS (mN m) (eN m) (val b)) (uQ (mN m) (eN m) (val b)) (uE (mN m) (eN m) (eminI m) (val b)) (val (wordsN 4 (uF (mN m) (eN m) (val b)))))))
        badR) badR)
      (cond (decide (1 ≤ n ∧ n ≤ 12)) (cond (baseI n == 2) badR badR) badR))
     (cond (decide (1 ≤ n ∧ n ≤ 12)) (cond (baseI n == 2) badR badR) badR) := by kernel_rfl
theorem dat_ok {m : Int} (n : Int) (h6 : 1 ≤ m ∧ m ≤ 6) {c x : Int} {q : Bool} {F : Nat} (h : isN m c q x F = true) : datOK n c q x F ∧ -20000 ≤ x ∧ x ≤ 20000 := by
  have := emin20 h6
  rcases (isN_iff h6).1 h with ⟨rfl, rfl, h1, h2, _⟩ | ⟨rfl, rfl, rfl, rfl⟩ | ⟨rfl, rfl, _⟩
  · exact ⟨.inl ⟨rfl, rfl⟩, by omega, by omega⟩
  · exact ⟨.inr (.inl ⟨rfl, rfl, rfl, rfl⟩), by omega, by omega⟩
  · exact ⟨.inr (.inr ⟨rfl, rfl⟩), by omega, by omega⟩
theorem cv_any {n d c x : Int} {s q : Bool} {F : Nat} (hd : datOK n c q x F) (h : (c == 1 && !decide (F = 0)) = false) : cvN n 0 c s q x F = cvN n d c s q x F := by
  rcases hd with ⟨rfl, rfl⟩ | ⟨rfl, rfl, rfl, rfl⟩ | ⟨rfl, rfl⟩
  · have : F = 0 := by simpa using h
    subst this
    show rnd n 0 s 0 1 x = rnd n d s 0 1 x
    exact (if_pos rfl).trans (if_pos rfl).symm
  · rfl
  · rfl
theorem bad_of {n : Int} : (cond (decide (1 ≤ n ∧ n ≤ 12)) (cond (baseI n == 2) badR badR) badR) = badR := by
  cases decide (1 ≤ n ∧ n ≤ 12) <;> cases (baseI n == 2) <;> rfl
theorem conv_he : ∀ ds κ r, (∀ d ∈ ds, d.wf) → convC ds κ = some r → ∃ res, κ res = some r ∧ evFn convE Try.f32 ds = some res := fun ds κ r hw h => by
  unfold convC at h
  split at h
  case h_2 => cases h
  rename_i m n d b
  rw [conv_ev]
  by_cases hm : 1 ≤ m ∧ m ≤ 6
  · obtain ⟨f1, f2, f3, f4, f5, f6, f7, f8, f9, f10, f11, f12⟩ := fmt hm
    rw [decide_eq_true hm, cond_true]
    by_cases hb : ((bitlen (val b) : Nat) : Int) ≤ widthI m
    · rw [decide_eq_true hb, cond_true, lo4 (uF_lt (by omega))]
      obtain ⟨hd, _⟩ := dat_ok n hm (is_unpack hm (val b))
      by_cases hn : 1 ≤ n ∧ n ≤ 6
      · have g := fmt hn
        rw [decide_eq_true (show 1 ≤ n ∧ n ≤ 12 by omega), cond_true, beq_iff_eq.2 g.1, cond_true, decide_eq_true (show ((0 : Nat) : Int) ≤ widthI n by omega), Bool.not_true, cond_false]
        by_cases hd4 : 0 ≤ d ∧ d ≤ 4
        · rw [decide_eq_true ⟨hm, hb, hn, hd4⟩, cond_true] at h
          unfold convT
          rw [decide_eq_true hd4, Bool.not_true, cond_false, decide_eq_true ⟨hn, hd⟩, cond_true, decide_eq_true (show (1 ≤ n ∧ n ≤ 6) ∧ 0 ≤ d ∧ d ≤ 4 from ⟨hn, hd4⟩), cond_true]
          unfold cvB at h
          cases hk : (uC (mN m) (eN m) (val b) == 1 && !decide (uF (mN m) (eN m) (val b) = 0))
          · rw [cond_false, cv_any hd hk]
            exact ⟨_, h, rfl⟩
          · have h1 : uC (mN m) (eN m) (val b) = 1 := by
              rw [Bool.and_eq_true] at hk
              exact beq_iff_eq.1 hk.1
            rw [cond_true]
            rw [h1] at h
            exact ⟨_, h, rfl⟩
        · rw [decide_eq_false (fun q => hd4 q.2.2.2), cond_false] at h
          rw [decide_eq_false hd4, Bool.not_false, cond_true]
          exact ⟨_, h, rfl⟩
      · rw [decide_eq_false (fun q => hn q.2.2.1), cond_false] at h
        refine ⟨_, h, ?_⟩
        by_cases h12 : 1 ≤ n ∧ n ≤ 12
        · rw [decide_eq_true h12, cond_true, beq_eq_false_iff_ne.2 (by rw [base10 h12 hn]; decide), cond_false]
          rfl
        · rw [decide_eq_false h12, cond_false]
          rfl
    · rw [decide_eq_false (fun q => hb q.2.1), cond_false] at h
      rw [decide_eq_false hb, cond_false, bad_of]
      exact ⟨_, h, rfl⟩
  · rw [decide_eq_false (fun q => hm q.1), cond_false] at h
    rw [decide_eq_false hm, cond_false, bad_of]
    exact ⟨_, h, rfl⟩
theorem conv_fn : FnOK Try.prog 32 convC := fnOK_mk T mixed Try.func32 (by kernel_rfl) (fns := [(28, bUnpackC), (39, dBinaryC), (41, fRightC), (65, specialC), (26, sclPC)]) (lps := []) (live := []) (out := []) (fuel := 0) (give := (fun _ => false)) ⟨bUnpack_fn, dBinary_fn, fRight_fn, special_fn, sclP_fn, trivial⟩ trivial conv_he
end
end Go.Proofs.Ytdpcokahhleopaa.Vm
