/-
  The law BinconvWidens, evaluated. No statement is proved here.
-/
import Derived.Test.YtdpcokahhleopaaCalV7
namespace Go.Proofs.Ytdpcokahhleopaa.Vm
open Go Go.Vm
noncomputable section
set_option linter.unusedVariables false
def widensE : Env := mkE ty [(31, awake12C), (34, rGoodC), (35, holdsC), (29, rDirC), (28, bUnpackC), (32, convC), (38, bQuietC)] [] [] [] 0 (fun _ => false)
theorem widens_ev (m n d e : Int) (b : List Int) : evFn widensE Try.f13 [.p (.int .i64 m), .p (.int .i64 n), .p (.int .i64 d), .p (.int .i64 e), .r .u64 4 b] =
    (cond (decide ((1 : Int) ≤ m ∧ m ≤ (6 : Int)))
     (cond (decide ((↑(bitlen (val b)) : Int) ≤ widthI m))
      (cond (decide ((1 : Int) ≤ m ∧ m ≤ (6 : Int)))
       (cond (!holdB m n)
        (some [(.mine, .p (.bool (true)))])
        (cond (!decide ((0 : Int) ≤ d ∧ d ≤ (4 : Int)))
         (some [(.mine, .p (.bool (true)))])
         (cond (!decide ((0 : Int) ≤ e ∧ e ≤ (4 : Int)))
          (some [(.mine, .p (.bool (true)))])
          (cond (decide ((1 : Int) ≤ m ∧ m ≤ (6 : Int)))
           (cond (decide ((↑(bitlen (val b)) : Int) ≤ widthI m))
            (cond (decide
      (((1 : Int) ≤ m ∧ m ≤ (6 : Int)) ∧
        (↑(bitlen (val b)) : Int) ≤ widthI m ∧ ((1 : Int) ≤ n ∧ n ≤ (6 : Int)) ∧ (0 : Int) ≤ d ∧ d ≤ (4 : Int)))
             (cond (decide
      (((1 : Int) ≤ n ∧ n ≤ (6 : Int)) ∧
        (↑(bitlen (val (wordsN 4 (cvB n d m (val b)).1))) : Int) ≤ widthI n ∧
          ((1 : Int) ≤ m ∧ m ≤ (6 : Int)) ∧ (0 : Int) ≤ e ∧ e ≤ (4 : Int)))
              (cond (uQ (mN m) (eN m) (val b))
               (cond (decide ((1 : Int) ≤ m ∧ m ≤ (6 : Int)))
                (cond (decide ((↑(bitlen (val b)) : Int) ≤ widthI m))
                 (cond ((cvB n d m (val b)).2 == (1 : Int))
                  (cond ((cvB m e n (val (wordsN 4 (cvB n d m (val b)).fst))).2 == (0 : Int))
                   (some [(.mine, .p (.bool (decide
      (wordsN 4 (cvB m e n (val (wordsN 4 (cvB n d m (val b)).fst))).1 =
        wordsN 4 (quietN m (val b))))))])
                   (some [(.mine, .p (.bool (false)))]))
                  (some [(.mine, .p (.bool (false)))]))
                 (cond ((cvB n d m (val b)).2 == (1 : Int))
                  (cond ((cvB m e n (val (wordsN 4 (cvB n d m (val b)).fst))).2 == (0 : Int))
                   (some [(.mine, .p (.bool (decide (wordsN 4 (cvB m e n (val (wordsN 4 (cvB n d m (val b)).fst))).1 = wordsN 4 0))))])
                   (some [(.mine, .p (.bool (false)))]))
                  (some [(.mine, .p (.bool (false)))])))
                (cond ((cvB n d m (val b)).2 == (1 : Int))
                 (cond ((cvB m e n (val (wordsN 4 (cvB n d m (val b)).fst))).2 == (0 : Int))
                  (some [(.mine, .p (.bool (decide (wordsN 4 (cvB m e n (val (wordsN 4 (cvB n d m (val b)).fst))).1 = wordsN 4 0))))])
                  (some [(.mine, .p (.bool (false)))]))
                 (some [(.mine, .p (.bool (false)))])))
               (cond ((cvB n d m (val b)).2 == (0 : Int))
                (cond ((cvB m e n (val (wordsN 4 (cvB n d m (val b)).fst))).2 == (0 : Int))
                 (some [(.mine, .p (.bool (decide (wordsN 4 (cvB m e n (val (wordsN 4 (cvB n d m (val b)).fst))).1 = b))))])
                 (some [(.mine, .p (.bool (false)))]))
                (some [(.mine, .p (.bool (false)))])))
              (cond (uQ (mN m) (eN m) (val b))
               (cond (decide ((1 : Int) ≤ m ∧ m ≤ (6 : Int)))
                (cond (decide ((↑(bitlen (val b)) : Int) ≤ widthI m))
                 (some [(.mine, .p (.bool (false)))])
                 (some [(.mine, .p (.bool (false)))]))
                (some [(.mine, .p (.bool (false)))]))
               (some [(.mine, .p (.bool (false)))])))
             (cond (decide
      (((1 : Int) ≤ n ∧ n ≤ (6 : Int)) ∧
        (↑0 : Int) ≤ widthI n ∧ ((1 : Int) ≤ m ∧ m ≤ (6 : Int)) ∧ (0 : Int) ≤ e ∧ e ≤ (4 : Int)))
              (cond (uQ (mN m) (eN m) (val b))
               (cond (decide ((1 : Int) ≤ m ∧ m ≤ (6 : Int)))
                (cond (decide ((↑(bitlen (val b)) : Int) ≤ widthI m))
                 (some [(.mine, .p (.bool (false)))])
                 (some [(.mine, .p (.bool (false)))]))
                (some [(.mine, .p (.bool (false)))]))
               (some [(.mine, .p (.bool (false)))]))
              (cond (uQ (mN m) (eN m) (val b))
               (cond (decide ((1 : Int) ≤ m ∧ m ≤ (6 : Int)))
                (cond (decide ((↑(bitlen (val b)) : Int) ≤ widthI m))
                 (some [(.mine, .p (.bool (false)))])
                 (some [(.mine, .p (.bool (false)))]))
                (some [(.mine, .p (.bool (false)))]))
               (some [(.mine, .p (.bool (false)))]))))
            (cond (decide
      (((1 : Int) ≤ m ∧ m ≤ (6 : Int)) ∧
        (↑(bitlen (val b)) : Int) ≤ widthI m ∧ ((1 : Int) ≤ n ∧ n ≤ (6 : Int)) ∧ (0 : Int) ≤ d ∧ d ≤ (4 : Int)))
             (cond (decide
      (((1 : Int) ≤ n ∧ n ≤ (6 : Int)) ∧
        (↑(bitlen (val (wordsN 4 (cvB n d m (val b)).1))) : Int) ≤ widthI n ∧
          ((1 : Int) ≤ m ∧ m ≤ (6 : Int)) ∧ (0 : Int) ≤ e ∧ e ≤ (4 : Int)))
              (cond ((cvB n d m (val b)).2 == (0 : Int))
               (cond ((cvB m e n (val (wordsN 4 (cvB n d m (val b)).fst))).2 == (0 : Int))
                (some [(.mine, .p (.bool (decide (wordsN 4 (cvB m e n (val (wordsN 4 (cvB n d m (val b)).fst))).1 = b))))])
                (some [(.mine, .p (.bool (false)))]))
               (some [(.mine, .p (.bool (false)))]))
              (some [(.mine, .p (.bool (false)))]))
             (cond (decide
      (((1 : Int) ≤ n ∧ n ≤ (6 : Int)) ∧
        (↑0 : Int) ≤ widthI n ∧ ((1 : Int) ≤ m ∧ m ≤ (6 : Int)) ∧ (0 : Int) ≤ e ∧ e ≤ (4 : Int)))
              (some [(.mine, .p (.bool (false)))])
              (some [(.mine, .p (.bool (false)))]))))
           (cond (decide
      (((1 : Int) ≤ m ∧ m ≤ (6 : Int)) ∧
        (↑(bitlen (val b)) : Int) ≤ widthI m ∧ ((1 : Int) ≤ n ∧ n ≤ (6 : Int)) ∧ (0 : Int) ≤ d ∧ d ≤ (4 : Int)))
            (cond (decide
      (((1 : Int) ≤ n ∧ n ≤ (6 : Int)) ∧
        (↑(bitlen (val (wordsN 4 (cvB n d m (val b)).1))) : Int) ≤ widthI n ∧
          ((1 : Int) ≤ m ∧ m ≤ (6 : Int)) ∧ (0 : Int) ≤ e ∧ e ≤ (4 : Int)))
             (cond ((cvB n d m (val b)).2 == (0 : Int))
              (cond ((cvB m e n (val (wordsN 4 (cvB n d m (val b)).fst))).2 == (0 : Int))
               (some [(.mine, .p (.bool (decide (wordsN 4 (cvB m e n (val (wordsN 4 (cvB n d m (val b)).fst))).1 = b))))])
               (some [(.mine, .p (.bool (false)))]))
              (some [(.mine, .p (.bool (false)))]))
             (some [(.mine, .p (.bool (false)))]))
            (cond (decide
      (((1 : Int) ≤ n ∧ n ≤ (6 : Int)) ∧
        (↑0 : Int) ≤ widthI n ∧ ((1 : Int) ≤ m ∧ m ≤ (6 : Int)) ∧ (0 : Int) ≤ e ∧ e ≤ (4 : Int)))
             (some [(.mine, .p (.bool (false)))])
             (some [(.mine, .p (.bool (false)))])))))))
       none)
      (some [(.mine, .p (.bool (true)))]))
     (some [(.mine, .p (.bool (true)))])) := by kernel_rfl
theorem cv_there {m n : Int} (hm : 1 ≤ m ∧ m ≤ 6) (hn : 1 ≤ n ∧ n ≤ 6) (h1 : mN m ≤ mN n) (h2 : eminI n ≤ eminI m) (h3 : emaxI m + (mN m : Int) ≤ emaxI n + (mN n : Int)) (B : Nat) :
    ∃ P, P < 2 ^ (mN n + eN n + 1) ∧ (∀ d, cvB n d m B = (P, cond (uQ (mN m) (eN m) B) 1 0)) ∧ ∀ e, cvB m e n P = (quietN m B, 0) := by
  obtain ⟨x', F', i', cv, on⟩ := cv_widen hm hn h1 h2 h3 (is_unpack hm B) (uS (mN m) (eN m) B)
  obtain ⟨u1, u2, u3, u4, u5, u6⟩ := unpack_pack hn (uS (mN m) (eN m) B) i' rfl
  refine ⟨_, u1, cv, fun e => ?_⟩
  obtain ⟨q0, q1, q2, q3, q4, q5⟩ := quiet_unpack hm B
  have key := cv_self (d := e) hm q0
  rw [q1, q2, q3, q4, q5, quiet_quiet hm] at key
  unfold cvB
  rw [u2, u3, u4, u5, u6, on m e hm]
  exact key
theorem widens_true {w : World} {vs : List Value} (m n d e : Int) (b : List Int) (hds : all2 (DR w) [D.p (.int .i64 m), D.p (.int .i64 n), D.p (.int .i64 d), D.p (.int .i64 e), D.r .u64 4 b] vs) :
    evFn widensE Try.f13 [.p (.int .i64 m), .p (.int .i64 n), .p (.int .i64 d), .p (.int .i64 e), .r .u64 4 b] = some [(.mine, .p (.bool true))] := by
  have hw := all_wf _ _ hds
  obtain ⟨bl, hx⟩ := wfR hw (xs := b) (n := 4) (by simp)
  rw [widens_ev]
  by_cases hm : 1 ≤ m ∧ m ≤ 6
  · by_cases hb : ((bitlen (val b) : Nat) : Int) ≤ widthI m
    · cases hh : holdB m n
      · simp only [decide_eq_true hm, decide_eq_true hb, cond_true, Bool.not_false]
      · obtain ⟨hn, h1, h2, h3⟩ := of_decide_eq_true hh
        by_cases hd : 0 ≤ d ∧ d ≤ 4
        · by_cases he : 0 ≤ e ∧ e ≤ 4
          · have f := fmt hm
            have g := fmt hn
            have hB : val b < 2 ^ (mN m + eN m + 1) := (bitlen_le_iff _ _).1 (by omega)
            obtain ⟨P, p1, p2, p3⟩ := cv_there hm hn h1 h2 h3 (val b)
            have p4 : P < 2 ^ 256 := Nat.lt_of_lt_of_le p1 (Nat.pow_le_pow_right (by decide) (by omega))
            have p5 : ((bitlen P : Nat) : Int) ≤ widthI n := by have := (bitlen_le_iff _ _).2 p1; omega
            have a1 : ((1 ≤ m ∧ m ≤ 6) ∧ ((bitlen (val b) : Nat) : Int) ≤ widthI m ∧ (1 ≤ n ∧ n ≤ 6) ∧ 0 ≤ d ∧ d ≤ 4) := ⟨hm, hb, hn, hd⟩
            have a2 : ((1 ≤ n ∧ n ≤ 6) ∧ ((bitlen P : Nat) : Int) ≤ widthI n ∧ (1 ≤ m ∧ m ≤ 6) ∧ 0 ≤ e ∧ e ≤ 4) := ⟨hn, p5, hm, he⟩
            rw [p2 d]
            simp only [lo4 p4, p3 e, decide_eq_true hm, decide_eq_true hb, decide_eq_true hd, decide_eq_true he, decide_eq_true a1, decide_eq_true a2, cond_true, Bool.not_true, cond_false]
            cases hq : uQ (mN m) (eN m) (val b)
            · have e2 : quietN m (val b) = val b := by
                have := pack_unpack hm hB
                rw [hq] at this
                exact this
              rw [e2, cond_false, words_val4 hx bl]
              simp
            · simp
          · simp only [decide_eq_true hm, decide_eq_true hb, decide_eq_true hd, decide_eq_false he, cond_true, Bool.not_true, cond_false, Bool.not_false]
        · simp only [decide_eq_true hm, decide_eq_true hb, decide_eq_false hd, cond_true, Bool.not_true, cond_false, Bool.not_false]
    · rw [decide_eq_true hm, cond_true, decide_eq_false hb, cond_false]
  · rw [decide_eq_false hm, cond_false]
theorem widens_call {w : World} {ds : List D} {vs : List Value} {res : List (Own × D)} (hds : all2 (DR w) ds vs) (he : evFn widensE Try.f13 ds = some res) : CallTo Try.prog 13 w vs res := call_mk T mixed Try.func13 (by kernel_rfl) (fns := [(31, awake12C), (34, rGoodC), (35, holdsC), (29, rDirC), (28, bUnpackC), (32, convC), (38, bQuietC)]) (lps := []) (live := []) (out := []) (fuel := 0) (give := (fun _ => false)) ⟨awake12_fn, rGood_fn, holds_fn, rDir_fn, bUnpack_fn, conv_fn, bQuiet_fn, trivial⟩ trivial hds he
end
end Go.Proofs.Ytdpcokahhleopaa.Vm
