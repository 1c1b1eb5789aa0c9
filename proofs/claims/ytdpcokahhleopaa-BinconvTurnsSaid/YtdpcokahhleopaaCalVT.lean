/-
  The law BinconvTurns, evaluated. No statement is proved here.
-/
import Derived.Test.YtdpcokahhleopaaCalVG
namespace Go.Proofs.Ytdpcokahhleopaa.Vm
open Go Go.Vm
noncomputable section
set_option linter.unusedVariables false
def turns12E : Env := mkE ty [(31, awake12C), (34, rGoodC), (19, rBinaryC), (29, rDirC), (28, bUnpackGC), (37, bPackGC), (32, convGC)] [] [] [] 0 (fun _ => false)
def tail12 (n : Int) (p q : Nat × Int) : R :=
  cond (decide ((1 ≤ n ∧ n ≤ 6) ∧ ((bitlen (val (wordsN 4 p.1)) : Nat) : Int) ≤ widthI n)) (cond (decide ((1 ≤ n ∧ n ≤ 6) ∧ ((bitlen (val (wordsN 4 q.1)) : Nat) : Int) ≤ widthI n))
    (cond (p.2 == q.2) (rb (eqD (uDat n (val (wordsN 4 p.1))) (datumCells (uC (mN n) (eN n) (val (wordsN 4 q.1))) (!uS (mN n) (eN n) (val (wordsN 4 q.1))) (uQ (mN n) (eN n) (val (wordsN 4 q.1))) (uE (mN n) (eN n) (eminI n) (val (wordsN 4 q.1))) (wordsN 4 (uF (mN n) (eN n) (val (wordsN 4 q.1))))))) (rb false)) none) none
def turnT12 (m n d o : Int) (b : List Int) (C : Nat) : R :=
  cond (decide ((1 ≤ m ∧ m ≤ 6) ∧ ((bitlen (val b) : Nat) : Int) ≤ widthI m ∧ (1 ≤ n ∧ n ≤ 6) ∧ 0 ≤ d ∧ d ≤ 4)) (cond (decide ((1 ≤ m ∧ m ≤ 6) ∧ ((bitlen (val (wordsN 4 C)) : Nat) : Int) ≤ widthI m ∧ (1 ≤ n ∧ n ≤ 6) ∧ 0 ≤ o ∧ o ≤ 4))
    (tail12 n (cvB n d m (val b)) (cvB n o m (val (wordsN 4 C)))) none) none
def four (f : List Int) : List Int := [f.getD 0 0, f.getD 1 0, f.getD 2 0, f.getD 3 0]
def flipN (m : Int) (B : Nat) : Nat := packN (mN m) (eN m) (eminI m) (uC (mN m) (eN m) B) (!uS (mN m) (eN m) B) (uQ (mN m) (eN m) B) (uE (mN m) (eN m) (eminI m) B) (val (four (wordsN 4 (uF (mN m) (eN m) B))))
theorem turns12_ev (m n d : Int) (b : List Int) : evFn turns12E Try.f12 [.p (.int .i64 m), .p (.int .i64 n), .p (.int .i64 d), .r .u64 4 b] =
    cond (decide (1 ≤ m ∧ m ≤ 6)) (cond (decide (((bitlen (val b) : Nat) : Int) ≤ widthI m)) (cond (!decide (1 ≤ n ∧ n ≤ 6)) (rb true) (cond (!decide (0 ≤ d ∧ d ≤ 4)) (rb true)
      (cond (decide ((1 ≤ m ∧ m ≤ 6) ∧ ((bitlen (val b) : Nat) : Int) ≤ widthI m))
        (cond (decide ((1 ≤ m ∧ m ≤ 6) ∧ isN m (uC (mN m) (eN m) (val b)) (uQ (mN m) (eN m) (val b)) (uE (mN m) (eN m) (eminI m) (val b)) (val (four (wordsN 4 (uF (mN m) (eN m) (val b))))) = true))
          (cond (d == 3) (turnT12 m n d (IntKind.i64.wrap (7 - d)) b (flipN m (val b))) (cond (d == 4) (turnT12 m n d (IntKind.i64.wrap (7 - d)) b (flipN m (val b))) (turnT12 m n d d b (flipN m (val b)))))
          none) none))) (rb true)) (rb true) := by kernel_rfl
theorem turns12_true {w : World} {vs : List Value} (m n d : Int) (b : List Int) (hds : all2 (DR w) [D.p (.int .i64 m), D.p (.int .i64 n), D.p (.int .i64 d), D.r .u64 4 b] vs) :
    evFn turns12E Try.f12 [.p (.int .i64 m), .p (.int .i64 n), .p (.int .i64 d), .r .u64 4 b] = some [(.mine, .p (.bool true))] := by
  have hw := all_wf _ _ hds
  obtain ⟨bl, hx⟩ := wfR hw (xs := b) (n := 4) (by simp)
  rw [turns12_ev]
  by_cases hm : 1 ≤ m ∧ m ≤ 6
  · have f := fmt hm
    rw [decide_eq_true hm, cond_true]
    by_cases hb : ((bitlen (val b) : Nat) : Int) ≤ widthI m
    · rw [decide_eq_true hb, cond_true]
      by_cases hn : 1 ≤ n ∧ n ≤ 6
      · have g := fmt hn
        rw [decide_eq_true hn, Bool.not_true, cond_false]
        by_cases hd : 0 ≤ d ∧ d ≤ 4
        · rw [decide_eq_true hd, Bool.not_true, cond_false]
          have h4 : four (wordsN 4 (uF (mN m) (eN m) (val b))) = wordsN 4 (uF (mN m) (eN m) (val b)) := (len4 (length_wordsN 4 _)).symm
          have hF : val (four (wordsN 4 (uF (mN m) (eN m) (val b)))) = uF (mN m) (eN m) (val b) := by rw [h4, lo4 (uF_lt (by omega))]
          have hi := is_unpack hm (val b)
          rw [hF, decide_eq_true ⟨hm, hb⟩, cond_true, decide_eq_true ⟨hm, hi⟩, cond_true]
          obtain ⟨c', x', F', fl, i1, i2, i3⟩ := cv_turns hm hn hd (val b)
          have hC : flipN m (val b) = packN (mN m) (eN m) (eminI m) (uC (mN m) (eN m) (val b)) (!uS (mN m) (eN m) (val b)) (uQ (mN m) (eN m) (val b)) (uE (mN m) (eN m) (eminI m) (val b)) (uF (mN m) (eN m) (val b)) := by unfold flipN; rw [hF]
          have key : ∀ o, o = turnD d → turnT12 m n d o b (flipN m (val b)) = rb true := by
            rintro o rfl
            have ht := turnD_ok hd
            obtain ⟨u1, _⟩ := unpack_pack hm (!uS (mN m) (eN m) (val b)) hi hC
            have c1 := (bitlen_le_iff _ _).2 u1
            have cl : val (wordsN 4 (flipN m (val b))) = flipN m (val b) := lo4 (lt256 u1 (by omega))
            obtain ⟨a1, a2, a3, a4, a5, a6⟩ := unpack_pack hn (uS (mN m) (eN m) (val b)) i1 rfl
            obtain ⟨b1, b2, b3, b4, b5, b6⟩ := unpack_pack hn (!uS (mN m) (eN m) (val b)) i1 rfl
            have a0 := (bitlen_le_iff _ _).2 a1
            have b0 := (bitlen_le_iff _ _).2 b1
            unfold turnT12
            rw [cl, decide_eq_true ⟨hm, hb, hn, hd⟩, cond_true, decide_eq_true ⟨hm, (show ((bitlen (flipN m (val b)) : Nat) : Int) ≤ widthI m by omega), hn, ht⟩, cond_true, i2, i3 _ hC]
            unfold tail12 uDat
            dsimp only
            rw [lo4 (lt256 a1 (by omega)), lo4 (lt256 b1 (by omega)), decide_eq_true ⟨hn, (by omega : _ ≤ widthI n)⟩, cond_true, decide_eq_true ⟨hn, (by omega : _ ≤ widthI n)⟩, cond_true, a2, a3, a4, a5, a6, b2, b3, b4, b5, b6, Bool.not_not, eqD_refl, beq_self_eq_true, cond_true]
          have h3 : (d == 3) = true → IntKind.i64.wrap (7 - d) = turnD d := fun e => by
            obtain rfl := beq_iff_eq.1 e
            rfl
          have h4 : (d == 4) = true → IntKind.i64.wrap (7 - d) = turnD d := fun e => by
            obtain rfl := beq_iff_eq.1 e
            rfl
          cases e3 : (d == 3)
          · rw [cond_false]
            cases e4 : (d == 4)
            · rw [cond_false, key d (by unfold turnD; rw [e3, e4]; rfl)]
              rfl
            · rw [cond_true, key _ (h4 e4)]
              rfl
          · rw [cond_true, key _ (h3 e3)]
            rfl
        · rw [decide_eq_false hd, Bool.not_false, cond_true]
          rfl
      · rw [decide_eq_false hn, Bool.not_false, cond_true]
        rfl
    · rw [decide_eq_false hb, cond_false]
      rfl
  · rw [decide_eq_false hm, cond_false]
    rfl
theorem turns12_call {w : World} {ds : List D} {vs : List Value} {res : List (Own × D)} (hds : all2 (DR w) ds vs) (he : evFn turns12E Try.f12 ds = some res) : CallTo Try.prog 12 w vs res := call_mk T mixed Try.func12 (by kernel_rfl) (fns := [(31, awake12C), (34, rGoodC), (19, rBinaryC), (29, rDirC), (28, bUnpackGC), (37, bPackGC), (32, convGC)]) (lps := []) (live := []) (out := []) (fuel := 0) (give := (fun _ => false)) ⟨awake12_fn, rGood_fn, rBinary_fn, rDir_fn, bUnpackG_fn, bPackG_fn, convG_fn, trivial⟩ trivial hds he
end
end Go.Proofs.Ytdpcokahhleopaa.Vm
