/-
  ref12.Into, ref12.Convert and the law BinconvConverts, evaluated. No statement is proved here.
-/
import Derived.Test.YtdpcokahhleopaaCalVG
import Derived.Test.YtdpcokahhleopaaCalC3
namespace Go.Proofs.Ytdpcokahhleopaa.Vm
open Go Go.Vm
noncomputable section
set_option linter.unusedVariables false
def rPackGC : FnC := bPackGC
theorem rPackG_fn : FnOK Try.prog 81 rPackGC := fnOK_cut rPack_fn fun ds κ r h => by
  unfold rPackGC bPackGC at h
  split at h
  case h_2 => cases h
  replace h := cond_none h
  obtain ⟨hc, h⟩ := h
  obtain ⟨h1, h2⟩ := of_decide_eq_true hc
  show cond _ (cond _ _ _) _ = some r
  rw [decide_eq_true h1, h2]
  exact h
def into12E : Env := mkE ty [(81, rPackGC), (96, rNaNC), (97, rNatC), (82, rScaleC), (50, rroundC)] [] [] [] 0 (fun k => k == 82)
def outR3 (p : Nat) (f : Int) : R := some [(.mine, .r .u64 4 (wordsN 4 p)), (.mine, .p (.int .i64 f)), (.mine, .p (.int .i64 0))]
def rdT (n d : Int) (s : Bool) (xs ys : List Int) : R :=
  cond (decide ((1 ≤ n ∧ n ≤ 6) ∧ xs = words (val xs) ∧ ys = words (val ys) ∧ 0 < val ys ∧ wlen (val xs) ≤ 900 ∧ wlen (val ys) ≤ 900)) (outR3 (rnd n d s (val xs) (val ys) 0).1 (rnd n d s (val xs) (val ys) 0).2) none
theorem into12_ev (n d c x : Int) (s q : Bool) (w0 w1 w2 w3 : Int) : evFn into12E Try.f66 [.p (.int .i64 n), .p (.int .i64 d), .g [.int .i64 c, .bool s, .bool q, .int .i64 x, .int .u64 w0, .int .u64 w1, .int .u64 w2, .int .u64 w3], .p (.int .u64 2)] =
    cond (c == 2) (cond (decide ((1 ≤ n ∧ n ≤ 6) ∧ isN n 2 false 0 0 = true)) (outR3 (packN (mN n) (eN n) (eminI n) 2 s false 0 0) 0) none)
      (cond (c == 3) (cond (decide (1 ≤ n ∧ n ≤ 6)) (cond (decide (val [w0, w1, w2, w3] < 2 ^ (payI n).toNat))
          (cond (decide ((1 ≤ n ∧ n ≤ 6) ∧ isN n c false x (val [w0, w1, w2, w3]) = true)) (outR3 (packN (mN n) (eN n) (eminI n) c s false x (val [w0, w1, w2, w3])) (cond q 1 0)) none)
          (cond (decide ((1 ≤ n ∧ n ≤ 6) ∧ isN n c false x 0 = true)) (outR3 (packN (mN n) (eN n) (eminI n) c s false x 0) (cond q 1 0)) none)) none)
        (cond (decide (((words (val [w0, w1, w2, w3])).length : Int) > 0))
          (cond (decide (((2 : Int) = 2 ∨ (2 : Int) = 10) ∧ words (val [w0, w1, w2, w3]) = words (val (words (val [w0, w1, w2, w3]))) ∧ [(1 : Int)] = words (val [(1 : Int)]) ∧ (words (val [w0, w1, w2, w3])).length ≤ 1000000 ∧ [(1 : Int)].length ≤ 1000000))
            (rdT n d s (words (val (words (val [w0, w1, w2, w3])) * upP (2 : Int).toNat (clm 2 x))) (words (val [(1 : Int)] * dnP (2 : Int).toNat (clm 2 x)))) none)
          (rdT n d s (words (val [w0, w1, w2, w3])) [1]))) := by kernel_rfl
def into12C : FnC := fun ds κ => match ds with
  | [.p (.int .i64 n), .p (.int .i64 d), .g [.int .i64 c, .bool s, .bool q, .int .i64 x, .int .u64 w0, .int .u64 w1, .int .u64 w2, .int .u64 w3], .p (.int .u64 2)] =>
    cond (decide ((1 ≤ n ∧ n ≤ 6) ∧ datOK n c q x (val [w0, w1, w2, w3]) ∧ -20000 ≤ x ∧ x ≤ 20000))
      (κ [(.mine, .r .u64 4 (wordsN 4 (cvN n d c s q x (val [w0, w1, w2, w3])).1)), (.mine, .p (.int .i64 (cvN n d c s q x (val [w0, w1, w2, w3])).2)), (.mine, .p (.int .i64 0))]) none
  | _ => none
theorem one_words : [(1 : Int)] = words 1 := by decide
theorem rdT_eq {n d : Int} {s : Bool} {A B : Nat} (hn : 1 ≤ n ∧ n ≤ 6) (hB : 0 < B) (h1 : wlen A ≤ 900) (h2 : wlen B ≤ 900) : rdT n d s (words A) (words B) = outR3 (rnd n d s A B 0).1 (rnd n d s A B 0).2 := by
  unfold rdT
  rw [val_words, val_words, decide_eq_true ⟨hn, rfl, rfl, hB, h1, h2⟩, cond_true]
theorem into12_he : ∀ ds κ r, (∀ d ∈ ds, d.wf) → into12C ds κ = some r → ∃ res, κ res = some r ∧ evFn into12E Try.f66 ds = some res := fun ds κ r hw h => by
  unfold into12C at h
  split at h
  case h_2 => cases h
  rename_i n d c s q x w0 w1 w2 w3
  replace h := cond_none h
  obtain ⟨hc, h⟩ := h
  obtain ⟨hn, hk, x1, x2⟩ := of_decide_eq_true hc
  have hf := four_wf (show wfL [.int .i64 c, .bool s, .bool q, .int .i64 x, .int .u64 w0, .int .u64 w1, .int .u64 w2, .int .u64 w3] from hw (.g _) (by simp))
  have hV : val [w0, w1, w2, w3] < 2 ^ 256 := by
    have := val_lt hf
    rwa [show [w0, w1, w2, w3].length = 4 from rfl, pow4] at this
  rw [into12_ev]
  generalize val [w0, w1, w2, w3] = V at *
  refine ⟨_, h, ?_⟩
  rcases hk with ⟨rfl, rfl⟩ | ⟨rfl, rfl, rfl, rfl⟩ | ⟨rfl, rfl⟩
  · rw [show ((1 : Int) == 2) = false from rfl, cond_false, show ((1 : Int) == 3) = false from rfl, cond_false, cvN_one, length_words]
    have wV : wlen V ≤ 4 := by rw [wlen_le, pow4]; exact hV
    by_cases h0 : V = 0
    · subst h0
      rw [decide_eq_false (by decide), cond_false, one_words, rdT_eq hn (by decide) (by omega) (by decide), rnd_zero, rnd_zero]
      rfl
    · have hV0 : 0 < V := Nat.pos_of_ne_zero h0
      have hw0 : wlen V ≠ 0 := fun e => h0 (wlen_eq_zero.1 e)
      have hcl : clm 2 x = x := by
        unfold clm
        rw [show ((2 : Int) == 10) = false from rfl, cond_false]
        omega
      have b1 : wlen (upP 2 x) ≤ x.toNat / 64 + 1 := wlen_two_pow _
      have b2 : wlen (dnP 2 x) ≤ (-x).toNat / 64 + 1 := wlen_two_pow _
      have b3 := wlen_mul wV b1
      rw [decide_eq_true (by omega), cond_true, decide_eq_true ⟨.inl rfl, by rw [val_words], by decide, by omega, by decide⟩, cond_true, val_words, hcl, show val [(1 : Int)] = 1 from rfl, show (2 : Int).toNat = 2 from rfl,
        rdT_eq hn (Nat.mul_pos (by decide) (dnP_pos (by decide) x)) (by omega) (by rw [Nat.one_mul]; omega), rnd_move hV0 (by decide), Int.zero_add]
      rfl
  · rw [show ((2 : Int) == 2) = true from rfl, cond_true, decide_eq_true ⟨hn, is_inf hn⟩, cond_true]
    rfl
  · rw [show ((3 : Int) == 2) = false from rfl, cond_false, show ((3 : Int) == 3) = true from rfl, cond_true, decide_eq_true hn, cond_true]
    show _ = some [(Own.mine, D.r .u64 4 (wordsN 4 (packN (mN n) (eN n) (eminI n) 3 s false 0 (payF n V)))), (.mine, .p (.int .i64 (cond q 1 0))), (.mine, .p (.int .i64 0))]
    have hi := is_nan hn V
    unfold payF at hi ⊢
    cases hp : decide (V < 2 ^ (payI n).toNat)
    · rw [hp, cond_false] at hi
      rw [cond_false, cond_false, decide_eq_true ⟨hn, hi⟩, cond_true]
      rfl
    · rw [hp, cond_true] at hi
      rw [cond_true, cond_true, decide_eq_true ⟨hn, hi⟩, cond_true]
      rfl
theorem into12_fn : FnOK Try.prog 66 into12C := fnOK_mk T mixed Try.func66 (by kernel_rfl) (fns := [(81, rPackGC), (96, rNaNC), (97, rNatC), (82, rScaleC), (50, rroundC)]) (lps := []) (live := []) (out := []) (fuel := 0) (give := (fun k => k == 82)) ⟨rPackG_fn, rNaN_fn, rNat_fn, rScale_fn, rround_fn, trivial⟩ trivial into12_he
def rUnpackGC : FnC := bUnpackGC
theorem rUnpackG_fn : FnOK Try.prog 24 rUnpackGC := fnOK_cut rUnpack_fn fun ds κ r h => by
  unfold rUnpackGC bUnpackGC at h
  split at h
  case h_2 => cases h
  replace h := cond_none h
  obtain ⟨hc, h⟩ := h
  obtain ⟨h1, h2⟩ := of_decide_eq_true hc
  show cond _ (cond _ _ _) _ = some r
  rw [decide_eq_true h1, decide_eq_true h2]
  exact h
def rconvE : Env := mkE ty [(34, rGoodC), (19, rBinaryC), (29, rDirC), (24, rUnpackGC), (66, into12C)] [] [] [] 0 (fun _ => false)
def fourW (f : List Int) : List Int := [f.getD 0 0, f.getD 1 0, f.getD 2 0, f.getD 3 0]
theorem rconv_ev (m n d : Int) (b : List Int) : evFn rconvE Try.f33 [.p (.int .i64 m), .p (.int .i64 n), .p (.int .i64 d), .r .u64 4 b] =
    cond (decide (1 ≤ m ∧ m ≤ 6)) (cond (decide (((bitlen (val b) : Nat) : Int) ≤ widthI m)) (cond (!decide (1 ≤ n ∧ n ≤ 6)) badR (cond (!decide (0 ≤ d ∧ d ≤ 4)) badR
      (cond (decide ((1 ≤ m ∧ m ≤ 6) ∧ ((bitlen (val b) : Nat) : Int) ≤ widthI m))
        (cond (decide ((1 ≤ n ∧ n ≤ 6) ∧ datOK n (uC (mN m) (eN m) (val b)) (uQ (mN m) (eN m) (val b)) (uE (mN m) (eN m) (eminI m) (val b)) (val (fourW (wordsN 4 (uF (mN m) (eN m) (val b))))) ∧ -20000 ≤ uE (mN m) (eN m) (eminI m) (val b) ∧ uE (mN m) (eN m) (eminI m) (val b) ≤ 20000))
          (outR3 (cvN n d (uC (mN m) (eN m) (val b)) (uS (mN m) (eN m) (val b)) (uQ (mN m) (eN m) (val b)) (uE (mN m) (eN m) (eminI m) (val b)) (val (fourW (wordsN 4 (uF (mN m) (eN m) (val b)))))).1
            (cvN n d (uC (mN m) (eN m) (val b)) (uS (mN m) (eN m) (val b)) (uQ (mN m) (eN m) (val b)) (uE (mN m) (eN m) (eminI m) (val b)) (val (fourW (wordsN 4 (uF (mN m) (eN m) (val b)))))).2) none) none))) badR) badR := by kernel_rfl
theorem rconv_he : ∀ ds κ r, (∀ d ∈ ds, d.wf) → convC ds κ = some r → ∃ res, κ res = some r ∧ evFn rconvE Try.f33 ds = some res := fun ds κ r hw h => by
  unfold convC at h
  split at h
  case h_2 => cases h
  rename_i m n d b
  rw [rconv_ev]
  by_cases hm : 1 ≤ m ∧ m ≤ 6
  case neg =>
    rw [decide_eq_false (fun q => hm q.1), cond_false] at h
    rw [decide_eq_false hm, cond_false]
    exact ⟨_, h, rfl⟩
  rw [decide_eq_true hm, cond_true]
  by_cases hb : ((bitlen (val b) : Nat) : Int) ≤ widthI m
  case neg =>
    rw [decide_eq_false (fun q => hb q.2.1), cond_false] at h
    rw [decide_eq_false hb, cond_false]
    exact ⟨_, h, rfl⟩
  rw [decide_eq_true hb, cond_true]
  by_cases hn : 1 ≤ n ∧ n ≤ 6
  case neg =>
    rw [decide_eq_false (fun q => hn q.2.2.1), cond_false] at h
    rw [decide_eq_false hn, Bool.not_false, cond_true]
    exact ⟨_, h, rfl⟩
  rw [decide_eq_true hn, Bool.not_true, cond_false]
  by_cases hd : 0 ≤ d ∧ d ≤ 4
  case neg =>
    rw [decide_eq_false (fun q => hd q.2.2.2), cond_false] at h
    rw [decide_eq_false hd, Bool.not_false, cond_true]
    exact ⟨_, h, rfl⟩
  rw [decide_eq_true ⟨hm, hb, hn, hd⟩, cond_true] at h
  have f := fmt hm
  have hF : val (fourW (wordsN 4 (uF (mN m) (eN m) (val b)))) = uF (mN m) (eN m) (val b) := by
    rw [show fourW (wordsN 4 (uF (mN m) (eN m) (val b))) = wordsN 4 (uF (mN m) (eN m) (val b)) from (len4 (length_wordsN 4 _)).symm, lo4 (uF_lt (by omega))]
  obtain ⟨k1, k2, k3⟩ := dat_ok n hm (is_unpack hm (val b))
  rw [decide_eq_true hd, Bool.not_true, cond_false, decide_eq_true ⟨hm, hb⟩, cond_true, hF, decide_eq_true ⟨hn, k1, k2, k3⟩, cond_true]
  exact ⟨_, h, rfl⟩
theorem rconv_fn : FnOK Try.prog 33 convC := fnOK_mk T mixed Try.func33 (by kernel_rfl) (fns := [(34, rGoodC), (19, rBinaryC), (29, rDirC), (24, rUnpackGC), (66, into12C)]) (lps := []) (live := []) (out := []) (fuel := 0) (give := (fun _ => false)) ⟨rGood_fn, rBinary_fn, rDir_fn, rUnpackG_fn, into12_fn, trivial⟩ trivial rconv_he
abbrev rconvC := convC
def converts12E : Env := mkE ty [(31, awake12C), (32, convC), (33, rconvC)] [] [] [] 0 (fun _ => false)
def cvK (m n d : Int) (b : List Int) (k : List Int → Int → Int → R) : R :=
  cond (decide ((1 ≤ m ∧ m ≤ 6) ∧ ((bitlen (val b) : Nat) : Int) ≤ widthI m ∧ (1 ≤ n ∧ n ≤ 6) ∧ 0 ≤ d ∧ d ≤ 4)) (k (wordsN 4 (cvB n d m (val b)).1) (cvB n d m (val b)).2 0) (k (wordsN 4 0) 0 1)
theorem converts12_ev (m n d : Int) (b : List Int) : evFn converts12E Try.f9 [.p (.int .i64 m), .p (.int .i64 n), .p (.int .i64 d), .r .u64 4 b] =
    cvK m n d b fun c f e => cvK m n d b fun c' f' e' => cond (decide (c = c')) (cond (f == f') (rb (e == e')) (rb false)) (rb false) := by kernel_rfl
theorem converts12_true {w : World} {vs : List Value} (m n d : Int) (b : List Int) (_ : all2 (DR w) [D.p (.int .i64 m), D.p (.int .i64 n), D.p (.int .i64 d), D.r .u64 4 b] vs) :
    evFn converts12E Try.f9 [.p (.int .i64 m), .p (.int .i64 n), .p (.int .i64 d), .r .u64 4 b] = some [(.mine, .p (.bool true))] := by
  rw [converts12_ev]
  unfold cvK
  cases decide ((1 ≤ m ∧ m ≤ 6) ∧ ((bitlen (val b) : Nat) : Int) ≤ widthI m ∧ (1 ≤ n ∧ n ≤ 6) ∧ 0 ≤ d ∧ d ≤ 4) <;> simp [rb]
theorem converts12_call {w : World} {ds : List D} {vs : List Value} {res : List (Own × D)} (hds : all2 (DR w) ds vs) (he : evFn converts12E Try.f9 ds = some res) : CallTo Try.prog 9 w vs res := call_mk T mixed Try.func9 (by kernel_rfl) (fns := [(31, awake12C), (32, convC), (33, rconvC)]) (lps := []) (live := []) (out := []) (fuel := 0) (give := (fun _ => false)) ⟨awake12_fn, conv_fn, rconv_fn, trivial⟩ trivial hds he
end
end Go.Proofs.Ytdpcokahhleopaa.Vm
