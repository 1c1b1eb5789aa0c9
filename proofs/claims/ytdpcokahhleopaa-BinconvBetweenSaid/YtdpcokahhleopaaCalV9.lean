/-
  The law BinconvBetween, evaluated. No statement is proved here.
-/
import Derived.Test.YtdpcokahhleopaaCalVG
namespace Go.Proofs.Ytdpcokahhleopaa.Vm
open Go Go.Vm
noncomputable section
set_option linter.unusedVariables false
theorem finish_flags (n d : Int) (s : Bool) (low q : Int) (c : Nat) (ex : Bool) : (finish n d s low q c ex).2 = 0 ∨ (finish n d s low q c ex).2 = 8 ∨ (finish n d s low q c ex).2 = 10 ∨ (finish n d s low q c ex).2 = 12 := by
  unfold finish
  cases decide (((bitlen c : Nat) : Int) > precI n) <;> cases decide (q + 1 > emaxI n) <;> cases decide (q > emaxI n) <;> cases ex <;> cases decide (low < eminI n + precI n - 1) <;> simp
theorem rnd_flags (n d : Int) (s : Bool) (A B : Nat) (e : Int) : (rnd n d s A B e).2 = 0 ∨ (rnd n d s A B e).2 = 8 ∨ (rnd n d s A B e).2 = 10 ∨ (rnd n d s A B e).2 = 12 := by
  unfold rnd
  split
  · exact .inl rfl
  · exact finish_flags _ _ _ _ _ _ _
/-- By a format between, that holds the first one, it comes to the same as at once. -/
theorem cv_between {m n p : Int} (hm : 1 ≤ m ∧ m ≤ 6) (hn : 1 ≤ n ∧ n ≤ 6) (hp : 1 ≤ p ∧ p ≤ 6) (h1 : mN m ≤ mN n) (h2 : eminI n ≤ eminI m) (h3 : emaxI m + (mN m : Int) ≤ emaxI n + (mN n : Int)) (B : Nat) (d : Int) :
    ∃ P f1, P < 2 ^ (mN n + eN n + 1) ∧ cvB n d m B = (P, f1) ∧ (cvB p d n P).1 = (cvB p d m B).1 ∧ bits .or .i64 f1 (cvB p d n P).2 = (cvB p d m B).2 := by
  have hi := is_unpack hm B
  obtain ⟨x', F', i', cv, on⟩ := cv_widen hm hn h1 h2 h3 hi (uS (mN m) (eN m) B)
  obtain ⟨u1, u2, u3, u4, u5, u6⟩ := unpack_pack hn (uS (mN m) (eN m) B) i' rfl
  refine ⟨_, _, u1, cv d, ?_⟩
  unfold cvB
  rw [u2, u3, u4, u5, u6, on p d hp]
  generalize uC (mN m) (eN m) B = c at *
  generalize uS (mN m) (eN m) B = s at *
  generalize uQ (mN m) (eN m) B = q at *
  generalize uE (mN m) (eN m) (eminI m) B = x at *
  generalize uF (mN m) (eN m) B = F at *
  rcases (isN_iff hm).1 hi with ⟨rfl, rfl, _⟩ | ⟨rfl, rfl, rfl, rfl⟩ | ⟨rfl, rfl, _⟩
  · refine ⟨rfl, ?_⟩
    rw [cvN_one, cond_false]
    rcases rnd_flags p d s F 1 x with e | e | e | e <;> rw [e] <;> decide
  · exact ⟨rfl, by show bits .or .i64 0 0 = 0; decide⟩
  · exact ⟨rfl, by show bits .or .i64 (cond q 1 0) 0 = cond q 1 0; cases q <;> decide⟩
def betweenE : Env := mkE ty [(31, awake12C), (34, rGoodC), (35, holdsC), (19, rBinaryC), (29, rDirC), (32, convGC)] [] [] [] 0 (fun _ => false)
theorem between_ev (m n p d : Int) (b : List Int) : evFn betweenE Try.f10 [.p (.int .i64 m), .p (.int .i64 n), .p (.int .i64 p), .p (.int .i64 d), .r .u64 4 b] =
    (cond (decide ((1 : Int) ≤ m ∧ m ≤ (6 : Int)))
     (cond (decide ((↑(bitlen (val b)) : Int) ≤ widthI m))
      (cond (decide ((1 : Int) ≤ m ∧ m ≤ (6 : Int)))
       (cond (!holdB m n)
        (some [(.mine, .p (.bool (true)))])
        (cond (!decide ((1 : Int) ≤ p ∧ p ≤ (6 : Int)))
         (some [(.mine, .p (.bool (true)))])
         (cond (!decide ((0 : Int) ≤ d ∧ d ≤ (4 : Int)))
          (some [(.mine, .p (.bool (true)))])
          (cond (decide
      (((1 : Int) ≤ m ∧ m ≤ (6 : Int)) ∧
        (↑(bitlen (val b)) : Int) ≤ widthI m ∧ ((1 : Int) ≤ n ∧ n ≤ (6 : Int)) ∧ (0 : Int) ≤ d ∧ d ≤ (4 : Int)))
           (cond (decide
      (((1 : Int) ≤ n ∧ n ≤ (6 : Int)) ∧
        (↑(bitlen (val (wordsN 4 (cvB n d m (val b)).1))) : Int) ≤ widthI n ∧
          ((1 : Int) ≤ p ∧ p ≤ (6 : Int)) ∧ (0 : Int) ≤ d ∧ d ≤ (4 : Int)))
            (cond (decide
      (((1 : Int) ≤ m ∧ m ≤ (6 : Int)) ∧
        (↑(bitlen (val b)) : Int) ≤ widthI m ∧ ((1 : Int) ≤ p ∧ p ≤ (6 : Int)) ∧ (0 : Int) ≤ d ∧ d ≤ (4 : Int)))
             (cond (decide
      (wordsN 4 (cvB p d n (val (wordsN 4 (cvB n d m (val b)).fst))).1 =
        wordsN 4 (cvB p d m (val b)).1))
              (cond (bits BinOp.or IntKind.i64 (cvB n d m (val b)).2 (cvB p d n (val (wordsN 4 (cvB n d m (val b)).fst))).2 ==
      (cvB p d m (val b)).2)
               (some [(.mine, .p (.bool ((0 : Int) == (0 : Int))))])
               (some [(.mine, .p (.bool (false)))]))
              (some [(.mine, .p (.bool (false)))]))
             none)
            none)
           none))))
       none)
      (some [(.mine, .p (.bool (true)))]))
     (some [(.mine, .p (.bool (true)))])) := by kernel_rfl
theorem between_true {w : World} {vs : List Value} (m n p d : Int) (b : List Int) (hds : all2 (DR w) [D.p (.int .i64 m), D.p (.int .i64 n), D.p (.int .i64 p), D.p (.int .i64 d), D.r .u64 4 b] vs) :
    evFn betweenE Try.f10 [.p (.int .i64 m), .p (.int .i64 n), .p (.int .i64 p), .p (.int .i64 d), .r .u64 4 b] = some [(.mine, .p (.bool true))] := by
  rw [between_ev]
  by_cases hm : 1 ≤ m ∧ m ≤ 6
  · by_cases hb : ((bitlen (val b) : Nat) : Int) ≤ widthI m
    · rw [decide_eq_true hm, cond_true, decide_eq_true hb, cond_true, cond_true]
      cases hh : holdB m n
      · rfl
      · obtain ⟨hn, h1, h2, h3⟩ := of_decide_eq_true hh
        rw [Bool.not_true, cond_false]
        by_cases hp : 1 ≤ p ∧ p ≤ 6
        · rw [decide_eq_true hp, Bool.not_true, cond_false]
          by_cases hd : 0 ≤ d ∧ d ≤ 4
          · have f := fmt hm
            have g := fmt hn
            obtain ⟨P, f1, p1, p2, p3, p4⟩ := cv_between hm hn hp h1 h2 h3 (val b) d
            have pl : val (wordsN 4 P) = P := lo4 (lt256 p1 (by omega))
            have pb := (bitlen_le_iff _ _).2 p1
            rw [decide_eq_true hd, Bool.not_true, cond_false, decide_eq_true ⟨hm, hb, hn, hd⟩, cond_true, p2]
            dsimp only
            rw [pl, decide_eq_true ⟨hn, (show ((bitlen P : Nat) : Int) ≤ widthI n by omega), hp, hd⟩, cond_true, decide_eq_true ⟨hm, hb, hp, hd⟩, cond_true, p3, p4, decide_eq_true rfl, cond_true, beq_self_eq_true, cond_true]
            rfl
          · rw [decide_eq_false hd]
            rfl
        · rw [decide_eq_false hp]
          rfl
    · rw [decide_eq_true hm, cond_true, decide_eq_false hb, cond_false]
  · rw [decide_eq_false hm, cond_false]
theorem between_call {w : World} {ds : List D} {vs : List Value} {res : List (Own × D)} (hds : all2 (DR w) ds vs) (he : evFn betweenE Try.f10 ds = some res) : CallTo Try.prog 10 w vs res := call_mk T mixed Try.func10 (by kernel_rfl) (fns := [(31, awake12C), (34, rGoodC), (35, holdsC), (19, rBinaryC), (29, rDirC), (32, convGC)]) (lps := []) (live := []) (out := []) (fuel := 0) (give := (fun _ => false)) ⟨awake12_fn, rGood_fn, holds_fn, rBinary_fn, rDir_fn, convG_fn, trivial⟩ trivial hds he
end
end Go.Proofs.Ytdpcokahhleopaa.Vm
