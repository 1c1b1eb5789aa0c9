/-
  The laws of package law06, evaluated: RoundKeeps, RoundTurns, RoundRises. No statement is proved here.
-/
import Derived.Test.YtdpcokahhleopaaCalR6
import Derived.Test.YtdpcokahhleopaaCalQF
import Derived.Test.YtdpcokahhleopaaCalC2
namespace Go.Proofs.Ytdpcokahhleopaa.Vm
open Go Go.Vm
noncomputable section
set_option linter.unusedVariables false
theorem rnd_one (n d : Int) (s : Bool) (F : Nat) (x : Int) : rnd n d s (F * 1) 1 x = rnd n d s F 1 x := by rw [Nat.mul_one]
theorem rndK_ok {n d e : Int} {s : Bool} {xs ys : List Int} (lx : xs.length ≤ 1000000) (ly : ys.length ≤ 1000000) (wx : wlen (val xs) ≤ 800) (wy : wlen (val ys) ≤ 800) (k : List Int → Int → Int → R) :
    rndK n d s xs ys e k = cond (decide ((1 ≤ n ∧ n ≤ 6) ∧ (0 ≤ d ∧ d ≤ 4) ∧ 0 < val ys)) (k (wordsN 4 (rnd n d s (val xs) (val ys) e).1) (rnd n d s (val xs) (val ys) e).2 0) (k (wordsN 4 0) 0 1) := by
  unfold rndK
  rw [decide_eq_true (show xs.length ≤ 1000000 ∧ ys.length ≤ 1000000 by omega), cond_true, decide_eq_false (show ¬ (wlen (val xs) > 800 ∨ wlen (val ys) > 800) by omega), cond_false]
/-! ### RoundKeeps -/
def keepsE : Env := mkE ty [(15, awake06C), (28, bUnpackC), (29, rDirC), (30, timesC), (17, rndPC), (26, sclPC)] [] [] [] 0 (fun _ => false)
def sclK2 (n d : Int) (s : Bool) (xs : List Int) (e : Int) (k : List Int → Int → Int → R) : R := cond (decide ((1 ≤ n ∧ n ≤ 6) ∧ (0 ≤ d ∧ d ≤ 4))) (k (wordsN 4 (rnd n d s (val xs) 1 e).1) (rnd n d s (val xs) 1 e).2 0) (k (wordsN 4 0) 0 1)
def keepsT (n d : Int) (b : List Int) (f : Int) (s : Bool) (x : Int) (F : List Int) : R :=
  let v := IntKind.u64.wrap (IntKind.u64.wrap (f.tdiv 2) + 1)
  let F4 := [F.getD 0 0, F.getD 1 0, F.getD 2 0, F.getD 3 0]
  cond (decide (F4.length ≤ 274877906944 ∧ [v].length ≤ 274877906944))
    (rndK n d s (words (val F4 * val [v])) [v] x fun c fl k => sclK2 n d s F4 x fun c' fl' k' =>
      cond (decide (c = b)) (cond (fl == 0) (cond (k == 0) (cond (decide (c' = b)) (cond (fl' == 0) (rb (k' == 0)) (rb false)) (rb false)) (rb false)) (rb false)) (rb false)) none
theorem keeps_ev (n d f : Int) (b : List Int) : evFn keepsE Try.f8 [.p (.int .i64 n), .r .u64 4 b, .p (.int .i64 d), .p (.int .u64 f)] =
    cond (decide (1 ≤ n ∧ n ≤ 6)) (cond (decide (((bitlen (val b) : Nat) : Int) ≤ widthI n))
      (cond (uC (mN n) (eN n) (val b) != 1) (rb true) (cond (!decide (0 ≤ d ∧ d ≤ 4)) (rb true) (keepsT n d b f (uS (mN n) (eN n) (val b)) (uE (mN n) (eN n) (eminI n) (val b)) (wordsN 4 (uF (mN n) (eN n) (val b))))))
      (rb true)) (rb true) := by kernel_rfl
theorem keeps_true {w : World} {vs : List Value} (n : Int) (b : List Int) (d f : Int) (hds : all2 (DR w) [.p (.int .i64 n), .r .u64 4 b, .p (.int .i64 d), .p (.int .u64 f)] vs) :
    evFn keepsE Try.f8 [.p (.int .i64 n), .r .u64 4 b, .p (.int .i64 d), .p (.int .u64 f)] = some [(.mine, .p (.bool true))] := by
  have hw := all_wf _ _ hds
  obtain ⟨bl, hb⟩ := wfR hw (xs := b) (n := 4) (by simp)
  have hf := wfU hw (x := f) (by simp)
  rw [keeps_ev]
  by_cases h6 : 1 ≤ n ∧ n ≤ 6
  · obtain ⟨f1, f2, f3, f4, f5, f6, f7, f8, f9, f10, f11, f12⟩ := fmt h6
    rw [decide_eq_true h6, cond_true]
    by_cases hk : ((bitlen (val b) : Nat) : Int) ≤ widthI n
    · have hB : val b < 2 ^ (mN n + eN n + 1) := (bitlen_le_iff _ _).1 (by omega)
      rw [decide_eq_true hk, cond_true]
      by_cases h1 : uC (mN n) (eN n) (val b) = 1
      · rw [h1, show ((1 : Int) != 1) = false from rfl, cond_false]
        by_cases hd : 0 ≤ d ∧ d ≤ 4
        · rw [decide_eq_true hd, Bool.not_true, cond_false]
          have hi := is_unpack h6 (val b)
          have hp := pack_unpack h6 hB
          have hq : uQ (mN n) (eN n) (val b) = false := by unfold uC at h1; unfold uQ; cases hN : uN (mN n) (eN n) (val b) <;> rw [hN] at h1 <;> first | rfl | (cases hT : (uT (mN n) (val b) == 0) <;> rw [hT] at h1 <;> cases h1)
          rw [h1, hq] at hi hp
          have hFlt := uF_lt (m := mN n) (e := eN n) (B := val b) (by omega)
          have hpk : ∀ s x F, pkN n s x F = packN (mN n) (eN n) (eminI n) 1 s false x F := fun _ _ _ => rfl
          unfold keepsT
          dsimp only
          rw [← len4 (length_wordsN 4 (uF (mN n) (eN n) (val b))), lo4 hFlt]
          obtain ⟨f, rfl⟩ := Int.eq_ofNat_of_zero_le hf.1
          have hv : IntKind.u64.wrap (IntKind.u64.wrap ((f : Int).tdiv 2) + 1) = ((f / 2 + 1 : Nat) : Int) := by
            have e1 : (f : Int).tdiv 2 = ((f / 2 : Nat) : Int) := rfl
            rw [e1, u64_wrap (x := ((f / 2 : Nat) : Int)) (by omega) (by omega), u64_wrap (by omega) (by omega)]
            rfl
          have hvv : val [((f / 2 + 1 : Nat) : Int)] = f / 2 + 1 := by rw [val_one, Int.toNat_natCast]
          have wF : wlen (uF (mN n) (eN n) (val b)) ≤ 4 := by rw [wlen_le, pow4]; exact hFlt
          have wv : wlen (f / 2 + 1) ≤ 1 := by rw [wlen_le, Nat.pow_one]; omega
          have wp : wlen (uF (mN n) (eN n) (val b) * (f / 2 + 1)) ≤ 4 + 1 := wlen_mul wF wv
          have hr1 := rnd_keeps (d := d) h6 (uS (mN n) (eN n) (val b)) hi (A := uF (mN n) (eN n) (val b) * (f / 2 + 1)) (B := f / 2 + 1) (by omega) rfl
          have hr2 := rnd_keeps (d := d) h6 (uS (mN n) (eN n) (val b)) hi (A := uF (mN n) (eN n) (val b)) (B := 1) (by omega) (Nat.mul_one _).symm
          have hbw : wordsN 4 (val b) = b := words_val4 hb bl
          unfold rndK sclK2
          rw [hv, hvv, val_words, length_words, length_wordsN, lo4 hFlt, hr1, hr2, hpk, hp]
          dsimp only
          rw [hbw, decide_eq_true (show 4 ≤ 274877906944 ∧ [((f / 2 + 1 : Nat) : Int)].length ≤ 274877906944 from ⟨by omega, (show 1 ≤ 274877906944 by decide)⟩), cond_true, decide_eq_true (show wlen (uF (mN n) (eN n) (val b) * (f / 2 + 1)) ≤ 1000000 ∧ [((f / 2 + 1 : Nat) : Int)].length ≤ 1000000 from ⟨by omega, (show 1 ≤ 1000000 by decide)⟩), cond_true,
            decide_eq_true (show (1 ≤ n ∧ n ≤ 6) ∧ (0 ≤ d ∧ d ≤ 4) ∧ 0 < f / 2 + 1 by omega), cond_true, decide_eq_false (show ¬ (wlen (uF (mN n) (eN n) (val b) * (f / 2 + 1)) > 800 ∨ wlen (f / 2 + 1) > 800) by omega), cond_false, decide_eq_true (show (1 ≤ n ∧ n ≤ 6) ∧ (0 ≤ d ∧ d ≤ 4) from ⟨h6, hd⟩), cond_true]
          simp [rb]
        · rw [decide_eq_false hd, Bool.not_false, cond_true]
          rfl
      · rw [bne_iff_ne.2 h1, cond_true]
        rfl
    · rw [decide_eq_false hk, cond_false]
      rfl
  · rw [decide_eq_false h6, cond_false]
    rfl
theorem keeps_call {w : World} {ds : List D} {vs : List Value} {res : List (Own × D)} (hds : all2 (DR w) ds vs) (he : evFn keepsE Try.f8 ds = some res) : CallTo Try.prog 8 w vs res := call_mk T mixed Try.func8 (by kernel_rfl) (fns := [(15, awake06C), (28, bUnpackC), (29, rDirC), (30, timesC), (17, rndPC), (26, sclPC)]) (lps := []) (live := []) (out := []) (fuel := 0) (give := (fun _ => false)) ⟨awake06_fn, bUnpack_fn, rDir_fn, times_fn, rndP_fn, sclP_fn, trivial⟩ trivial hds he
/-! ### RoundTurns -/
def turnsE : Env := mkE ty [(15, awake06C), (17, rndPC), (24, rUnpackC)] [] [] [] 0 (fun _ => false)
def unC (n : Int) (b : List Int) (k : Int → Bool → Bool → Int → List Int → R) : R :=
  cond (decide (1 ≤ n ∧ n ≤ 6)) (cond (decide (((bitlen (val b) : Nat) : Int) ≤ widthI n)) (k (uC (mN n) (eN n) (val b)) (uS (mN n) (eN n) (val b)) (uQ (mN n) (eN n) (val b)) (uE (mN n) (eN n) (eminI n) (val b)) (wordsN 4 (uF (mN n) (eN n) (val b)))) (k 0 false false 0 [0, 0, 0, 0])) (k 0 false false 0 [0, 0, 0, 0])
def turnsT (n d o : Int) (xs ys : List Int) (e : Int) : R :=
  rndK n d false xs ys e fun b f k => rndK n o true xs ys e fun b' f' k' => cond (k != k') (rb (k == k')) (cond (k != 0) (rb (k == k'))
    (unC n b fun c s q x F => unC n b' fun c' s' q' x' F' => cond (f == f') (rb (eqD (datumCells c s q x F) (datumCells c' false q' x' F'))) (rb false)))
theorem turns_ev (n d e : Int) (xs ys : List Int) : evFn turnsE Try.f5 [.p (.int .i64 n), .p (.int .i64 d), .w .u64 xs, .w .u64 ys, .p (.int .i64 e)] =
    cond (decide ((xs.length : Int) > 100)) (rb true) (cond (decide ((ys.length : Int) > 100)) (rb true)
      (cond (d == 3) (turnsT n d (IntKind.i64.wrap (7 - d)) xs ys e) (cond (d == 4) (turnsT n d (IntKind.i64.wrap (7 - d)) xs ys e) (turnsT n d d xs ys e)))) := by kernel_rfl
theorem turnsT_eq {n d e : Int} {xs ys : List Int} (hx : inR .u64 xs) (hy : inR .u64 ys) (lx : xs.length ≤ 100) (ly : ys.length ≤ 100) {o : Int} (ho : (0 ≤ d ∧ d ≤ 4 → o = turnD d) ∧ (¬ (0 ≤ d ∧ d ≤ 4) → ¬ (0 ≤ o ∧ o ≤ 4))) : turnsT n d o xs ys e = rb true := by
  have w1 := wlen_val hx
  have w2 := wlen_val hy
  unfold turnsT
  simp only [rndK_ok (xs := xs) (ys := ys) (by omega) (by omega) (by omega) (by omega)]
  by_cases hg : (1 ≤ n ∧ n ≤ 6) ∧ (0 ≤ d ∧ d ≤ 4) ∧ 0 < val ys
  · obtain ⟨h6, hd, hY⟩ := hg
    obtain ⟨f1, f2, f3, f4, f5, f6, f7, f8, f9, f10, f11, f12⟩ := fmt h6
    obtain rfl := ho.1 hd
    obtain ⟨c, x, F, i1, i2⟩ := rnd_datum (d := d) (e := e) h6 false (A := val xs) hY
    have ht := rnd_turn (n := n) (e := e) hd (val xs) (val ys)
    have hs : signed n true (rnd n d false (val xs) (val ys) e).1 = packN (mN n) (eN n) (eminI n) c true false x F := by
      rw [i2]
      unfold signed packN signN
      rw [cond_false, cond_true, Nat.add_zero]
    obtain ⟨a1, a2, a3, a4, a5, a6⟩ := unpack_pack h6 false i1 i2
    obtain ⟨b1, b2, b3, b4, b5, b6⟩ := unpack_pack h6 true i1 hs
    rw [decide_eq_true (show (1 ≤ n ∧ n ≤ 6) ∧ (0 ≤ d ∧ d ≤ 4) ∧ 0 < val ys from ⟨h6, hd, hY⟩), cond_true, decide_eq_true (show (1 ≤ n ∧ n ≤ 6) ∧ (0 ≤ turnD d ∧ turnD d ≤ 4) ∧ 0 < val ys from ⟨h6, turnD_ok hd, hY⟩), cond_true, ht]
    dsimp only
    generalize (rnd n d false (val xs) (val ys) e).1 = p at *
    generalize signed n true p = p' at *
    unfold unC
    have g1 := (bitlen_le_iff _ _).2 a1
    have g2 := (bitlen_le_iff _ _).2 b1
    rw [lo4 (lt256 a1 (by omega)), lo4 (lt256 b1 (by omega))]
    simp only [decide_eq_true h6, cond_true, decide_eq_true (show ((bitlen p : Nat) : Int) ≤ widthI n by omega), decide_eq_true (show ((bitlen p' : Nat) : Int) ≤ widthI n by omega), a2, a3, a4, a5, a6, b2, b4, b5, b6, eqD_refl]
    simp [rb]
  · have hg' : ¬ ((1 ≤ n ∧ n ≤ 6) ∧ (0 ≤ o ∧ o ≤ 4) ∧ 0 < val ys) := by
      rintro ⟨q1, q2, q3⟩
      by_cases hd : 0 ≤ d ∧ d ≤ 4
      · exact hg ⟨q1, hd, q3⟩
      · exact ho.2 hd q2
    rw [decide_eq_false hg, cond_false, decide_eq_false hg', cond_false]
    rfl
theorem turns_true {w : World} {vs : List Value} (n d : Int) (xs ys : List Int) (e : Int) (hds : all2 (DR w) [.p (.int .i64 n), .p (.int .i64 d), .w .u64 xs, .w .u64 ys, .p (.int .i64 e)] vs) :
    evFn turnsE Try.f5 [.p (.int .i64 n), .p (.int .i64 d), .w .u64 xs, .w .u64 ys, .p (.int .i64 e)] = some [(.mine, .p (.bool true))] := by
  have hw := all_wf _ _ hds
  obtain ⟨_, hx⟩ := wfW hw (xs := xs) (by simp)
  obtain ⟨_, hy⟩ := wfW hw (xs := ys) (by simp)
  have hd := wfI hw (x := d) (by simp)
  rw [turns_ev]
  by_cases h1 : xs.length > 100
  · rw [decide_eq_true (by omega), cond_true]; rfl
  · rw [decide_eq_false (by omega), cond_false]
    by_cases h2 : ys.length > 100
    · rw [decide_eq_true (by omega), cond_true]; rfl
    · rw [decide_eq_false (by omega), cond_false]
      have t := fun o ho => turnsT_eq (n := n) (d := d) (e := e) hx hy (by omega) (by omega) (o := o) ho
      by_cases h3 : d = 3
      · subst h3
        exact t _ ⟨fun _ => by decide, fun h => absurd (by decide) h⟩
      · rw [beq_eq_false_iff_ne.2 h3, cond_false]
        by_cases h4 : d = 4
        · subst h4
          exact t _ ⟨fun _ => by decide, fun h => absurd (by decide) h⟩
        · rw [beq_eq_false_iff_ne.2 h4, cond_false]
          refine t _ ⟨fun _ => ?_, fun h => h⟩
          unfold turnD
          rw [beq_eq_false_iff_ne.2 h3, beq_eq_false_iff_ne.2 h4]
          rfl
theorem turns_call {w : World} {ds : List D} {vs : List Value} {res : List (Own × D)} (hds : all2 (DR w) ds vs) (he : evFn turnsE Try.f5 ds = some res) : CallTo Try.prog 5 w vs res := call_mk T mixed Try.func5 (by kernel_rfl) (fns := [(15, awake06C), (17, rndPC), (24, rUnpackC)]) (lps := []) (live := []) (out := []) (fuel := 0) (give := (fun _ => false)) ⟨awake06_fn, rndP_fn, rUnpack_fn, trivial⟩ trivial hds he
/-! ### RoundRises -/
def rrisesE : Env := mkE ty [(15, awake06C), (17, rndPC), (25, addC), (22, cmpC)] [] [] [] 0 (fun _ => false)
theorem rrises_ev (n d e : Int) (xs ys zs : List Int) : evFn rrisesE Try.f6 [.p (.int .i64 n), .p (.int .i64 d), .w .u64 xs, .w .u64 ys, .w .u64 zs, .p (.int .i64 e)] =
    cond (decide ((xs.length : Int) > 100)) (rb true) (cond (decide ((ys.length : Int) > 100)) (rb true) (cond (decide ((zs.length : Int) > 100)) (rb true)
      (rndK n d false xs zs e fun b f k => cond (decide (xs.length ≤ 549755813888 ∧ ys.length ≤ 549755813888)) (rndK n d false (words (val xs + val ys)) zs e fun b' f' k' =>
        cond (k != 0) (rb true) (cond (k' == 0) (rb (decide (cmpI (val b) (val b') ≤ 0))) (rb false))) none))) := by kernel_rfl
theorem rrises_true {w : World} {vs : List Value} (n d : Int) (xs ys zs : List Int) (e : Int) (hds : all2 (DR w) [.p (.int .i64 n), .p (.int .i64 d), .w .u64 xs, .w .u64 ys, .w .u64 zs, .p (.int .i64 e)] vs) :
    evFn rrisesE Try.f6 [.p (.int .i64 n), .p (.int .i64 d), .w .u64 xs, .w .u64 ys, .w .u64 zs, .p (.int .i64 e)] = some [(.mine, .p (.bool true))] := by
  have hw := all_wf _ _ hds
  obtain ⟨_, hx⟩ := wfW hw (xs := xs) (by simp)
  obtain ⟨_, hy⟩ := wfW hw (xs := ys) (by simp)
  obtain ⟨_, hz⟩ := wfW hw (xs := zs) (by simp)
  have w1 := wlen_val hx
  have w2 := wlen_val hy
  have w3 := wlen_val hz
  rw [rrises_ev]
  by_cases h1 : xs.length > 100
  · rw [decide_eq_true (by omega), cond_true]; rfl
  · rw [decide_eq_false (by omega), cond_false]
    by_cases h2 : ys.length > 100
    · rw [decide_eq_true (by omega), cond_true]; rfl
    · rw [decide_eq_false (by omega), cond_false]
      by_cases h3 : zs.length > 100
      · rw [decide_eq_true (by omega), cond_true]; rfl
      · rw [decide_eq_false (by omega), cond_false]
        have wa : wlen (val xs + val ys) ≤ 100 + 1 := wlen_add (by omega) (by omega)
        simp only [rndK_ok (xs := xs) (ys := zs) (by omega) (by omega) (by omega) (by omega), rndK_ok (xs := words (val xs + val ys)) (ys := zs) (by rw [length_words]; omega) (by omega) (by rw [val_words]; omega) (by omega), val_words]
        rw [decide_eq_true (show xs.length ≤ 549755813888 ∧ ys.length ≤ 549755813888 by omega)]
        by_cases hg : (1 ≤ n ∧ n ≤ 6) ∧ (0 ≤ d ∧ d ≤ 4) ∧ 0 < val zs
        · obtain ⟨h6, hd, hZ⟩ := hg
          obtain ⟨f1, f2, f3, f4, f5, f6, f7, f8, f9, f10, f11, f12⟩ := fmt h6
          have hm := rnd_rises (n := n) (d := d) (e := e) h6 hd (A := val xs) (A' := val xs + val ys) hZ (Nat.le_add_right _ _)
          obtain ⟨c, x, F, i1, i2⟩ := rnd_datum (d := d) (e := e) h6 false (A := val xs) hZ
          obtain ⟨c', x', F', j1, j2⟩ := rnd_datum (d := d) (e := e) h6 false (A := val xs + val ys) hZ
          have a1 := (unpack_pack h6 false i1 i2).1
          have b1 := (unpack_pack h6 false j1 j2).1
          have hc : cmpI (rnd n d false (val xs) (val zs) e).1 (rnd n d false (val xs + val ys) (val zs) e).1 ≤ 0 := by
            unfold cmpI
            split
            · omega
            · rw [if_neg (by omega)]; omega
          rw [decide_eq_true ⟨h6, hd, hZ⟩]
          simp only [cond_true]
          rw [lo4 (lt256 a1 (by omega)), lo4 (lt256 b1 (by omega)), decide_eq_true hc]
          rfl
        · rw [decide_eq_false hg]
          rfl
theorem rrises_call {w : World} {ds : List D} {vs : List Value} {res : List (Own × D)} (hds : all2 (DR w) ds vs) (he : evFn rrisesE Try.f6 ds = some res) : CallTo Try.prog 6 w vs res := call_mk T mixed Try.func6 (by kernel_rfl) (fns := [(15, awake06C), (17, rndPC), (25, addC), (22, cmpC)]) (lps := []) (live := []) (out := []) (fuel := 0) (give := (fun _ => false)) ⟨awake06_fn, rndP_fn, add_fn, cmp_fn, trivial⟩ trivial hds he
end
end Go.Proofs.Ytdpcokahhleopaa.Vm
