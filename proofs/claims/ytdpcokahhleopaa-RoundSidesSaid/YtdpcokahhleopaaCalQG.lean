/-
  The five directions side by side, plain, and the law RoundSides, evaluated. No statement is proved here.
-/
import Derived.Test.YtdpcokahhleopaaCalVG
namespace Go.Proofs.Ytdpcokahhleopaa.Vm
open Go Go.Vm
noncomputable section
set_option linter.unusedVariables false
theorem rndF_exact {d : Int} {s : Bool} {x y : Nat} (h : exF x y = true) : rndF d s x y = x / y := (rnd_bounds d s x y).2.2 h
theorem rndF_else {d : Int} {s : Bool} {x y : Nat} (h : exF x y = false) : rndF d s x y = x / y + cond (upB d s (x / y % 2 == 1) (cmpI (2 * (x % y)) y)) 1 0 := by
  unfold exF at h
  unfold rndF
  rw [h, cond_false]
  cases upB d s (x / y % 2 == 1) (cmpI (2 * (x % y)) y) <;> rfl
theorem finish_else (n d : Int) (s : Bool) (low q : Int) (c : Nat) : (finish n d s low q c false).2 = 8 ∨ (finish n d s low q c false).2 = 10 ∨ (finish n d s low q c false).2 = 12 := by
  unfold finish
  cases decide (((bitlen c : Nat) : Int) > precI n) <;> cases decide (q + 1 > emaxI n) <;> cases decide (q > emaxI n) <;> cases decide (low < eminI n + precI n - 1) <;> simp
/-- What the five directions come to: all to the same, or Up to the next one, and the other three to one of both. -/
theorem rnd_sides {n e : Int} (h6 : 1 ≤ n ∧ n ≤ 6) (A : Nat) {B : Nat} (hB : 0 < B) :
    (∃ P, ∀ d, 0 ≤ d ∧ d ≤ 4 → rnd n d false A B e = (P, 0)) ∨
    (∃ (L : Nat) (u : Int → Bool), u 2 = false ∧ u 4 = false ∧ u 3 = true ∧ ∀ d, 0 ≤ d ∧ d ≤ 4 → (rnd n d false A B e).1 = L + cond (u d) 1 0 ∧ ((rnd n d false A B e).2 = 8 ∨ (rnd n d false A B e).2 = 10 ∨ (rnd n d false A B e).2 = 12)) := by
  by_cases h0 : A = 0
  · subst h0
    exact .inl ⟨_, fun d _ => rnd_zero n d false B e⟩
  · have hA : 0 < A := Nat.pos_of_ne_zero h0
    obtain ⟨q, hq⟩ : ∃ q, q = qOf n (flog 2 A B + e) := ⟨_, rfl⟩
    by_cases hm : q ≤ emaxI n
    · obtain ⟨x, hx⟩ : ∃ x, x = A * upP 2 (e - q) := ⟨_, rfl⟩
      obtain ⟨y, hy⟩ : ∃ y, y = B * dnP 2 (e - q) := ⟨_, rfl⟩
      cases hex : exF x y
      · refine .inr ⟨(q - eminI n).toNat * 2 ^ mN n + x / y, fun d => upB d false (x / y % 2 == 1) (cmpI (2 * (x % y)) y), rfl, rfl, rfl, fun d hd => ⟨?_, ?_⟩⟩
        · have h1 := rnd_val (e := e) h6 hd hA hB hq (c := rndF d false x y) (by rw [hx, hy]) hm
          rw [h1, rndF_else hex, Nat.add_assoc]
        · unfold rnd
          rw [if_neg h0, ← hq, ← hx, ← hy, hex]
          exact finish_else _ _ _ _ _ _
      · refine .inl ⟨pkN n false q (x / y), fun d hd => ?_⟩
        have hsz := rnd_size hA hB (e := e) (q := q) (m := mN n) (by
          obtain ⟨f1, f2, f3, f4, f5, f6, f7, f8, f9, f10, f11, f12⟩ := fmt h6
          rw [hq]; unfold qOf; omega)
        obtain ⟨f1, f2, f3, f4, f5, f6, f7, f8, f9, f10, f11, f12⟩ := fmt h6
        rw [← hx, ← hy] at hsz
        have hb := (bitlen_le_iff _ _).2 hsz
        unfold rnd
        rw [if_neg h0, ← hq, ← hx, ← hy, hex, rndF_exact hex]
        unfold finish
        rw [decide_eq_false (by omega), cond_false, decide_eq_false (by omega), cond_false, cond_true]
    · refine .inr ⟨pkN n false (emaxI n) (topN n), fun d => farB d false, rfl, rfl, rfl, fun d hd => ?_⟩
      have h1 : rnd n d false A B e = (overP n d false, 10) := by
        unfold rnd
        rw [if_neg h0, ← hq, finish_over (by omega)]
      rw [h1]
      refine ⟨?_, .inr (.inl rfl)⟩
      have := top_val h6
      show overP n d false = pkN n false (emaxI n) (topN n) + cond (farB d false) 1 0
      unfold overP
      cases farB d false
      · rfl
      · rw [cond_true, cond_true, this]
def rndGC : FnC := fun ds κ => match ds with
  | [.p (.int .i64 n), .p (.int .i64 d), .p (.bool s), .w .u64 xs, .w .u64 ys, .p (.int .i64 e)] => cond (decide ((1 ≤ n ∧ n ≤ 6) ∧ (0 ≤ d ∧ d ≤ 4) ∧ 0 < val ys ∧ xs.length ≤ 100 ∧ ys.length ≤ 100))
      (κ [(.mine, .r .u64 4 (wordsN 4 (rnd n d s (val xs) (val ys) e).1)), (.mine, .p (.int .i64 (rnd n d s (val xs) (val ys) e).2)), (.mine, .p (.int .i64 0))]) none
  | _ => none
theorem rndG_fn : FnOK Try.prog 17 rndGC := fun ds κ r hd hr => by
  refine rndP_fn ds κ r hd ?_
  unfold rndGC at hr
  split at hr
  case h_2 => cases hr
  rename_i n d s xs ys e
  replace hr := cond_none hr
  obtain ⟨hc, hr⟩ := hr
  obtain ⟨h1, h2, h3, h4, h5⟩ := of_decide_eq_true hc
  have hx := (wfW hd (xs := xs) (by simp)).2
  have hy := (wfW hd (xs := ys) (by simp)).2
  have w1 := wlen_val hx
  have w2 := wlen_val hy
  show cond _ (cond _ (cond _ _ _) _) _ = some r
  rw [decide_eq_true (show xs.length ≤ 1000000 ∧ ys.length ≤ 1000000 by omega), cond_true, decide_eq_true ⟨h1, h2, h3⟩, cond_true, decide_eq_false (show ¬ (wlen (val xs) > 800 ∨ wlen (val ys) > 800) by omega), cond_false]
  exact hr
def sides06E : Env := mkE ty [(15, awake06C), (19, rBinaryC), (20, sizeC), (17, rndGC), (21, lessC), (22, cmpC), (23, sameC)] [] [(0, [0, 1, 2, 3, 4, 11, 12, 41])] [] 6 (fun _ => false)
def sdG (n d : Int) (xs ys : List Int) (k : R) : R := cond (decide ((1 ≤ n ∧ n ≤ 6) ∧ (0 ≤ d ∧ d ≤ 4) ∧ 0 < val ys ∧ xs.length ≤ 100 ∧ ys.length ≤ 100)) k none
def four4 (f : List Int) : List Int := [f.getD 0 0, f.getD 1 0, f.getD 2 0, f.getD 3 0]
def inc8 (i f : Int) : Int := IntKind.i64.wrap (i + IntKind.i64.wrap (f.tdiv 8))
def sdF (I : Int) (x0 x1 x2 low high : List Int) : R :=
  cond (decide (high.length ≤ 549755813888 ∧ low.length ≤ 549755813888 ∧ val low ≤ val high))
    (cond (I == 0) (cond (decide (low = high)) (cond (decide (x0 = low)) (cond (decide (x1 = low)) (rb (decide (x2 = low))) (rb false)) (rb false)) (rb false))
      (cond (decide (cmpI (val high) (val low) > 0)) (cond (decide (val (words (val high - val low)) = val [(1 : Int)])) (cond (decide (x2 = low))
          (cond (decide (x0 = low)) (cond (decide (x1 = low)) (rb true) (rb (decide (x1 = high)))) (cond (decide (x0 = high)) (cond (decide (x1 = low)) (rb true) (rb (decide (x1 = high)))) (rb false)))
        (rb false)) (rb false)) (rb false))) none
def sdR (s : Bool) (I : Int) (x0 x1 x2 x3 x4 : List Int) : R := cond s (sdF I x0 x1 x2 x3 x4) (sdF I x0 x1 x2 x4 x3)
def sdT (s : Bool) (I : Int) (x0 x1 x2 x3 x4 : List Int) : R := cond (I != 0) (cond (I != 5) (rb false) (sdR s I x0 x1 x2 x3 x4)) (sdR s I x0 x1 x2 x3 x4)
def sdX (n d : Int) (s : Bool) (xs ys : List Int) (e : Int) : List Int := four4 (wordsN 4 (rnd n d s (val xs) (val ys) e).1)
def sdI (n d : Int) (s : Bool) (xs ys : List Int) (e : Int) : Int := (rnd n d s (val xs) (val ys) e).2
theorem sides06_ev (n e : Int) (s : Bool) (xs ys : List Int) : evFn sides06E Try.f4 [.p (.int .i64 n), .p (.bool s), .w .u64 xs, .w .u64 ys, .p (.int .i64 e)] =
    cond (decide ((xs.length : Int) > 100)) (rb true) (cond (decide ((ys.length : Int) > 100)) (rb true) (cond (!decide (1 ≤ n ∧ n ≤ 6)) (rb true) (cond (((wlen (val ys) : Nat) : Int) == 0) (rb true)
      (sdG n 0 xs ys (sdG n 1 xs ys (sdG n 2 xs ys (sdG n 3 xs ys (sdG n 4 xs ys
        (sdT s (inc8 (inc8 (inc8 (inc8 (inc8 0 (sdI n 0 s xs ys e)) (sdI n 1 s xs ys e)) (sdI n 2 s xs ys e)) (sdI n 3 s xs ys e)) (sdI n 4 s xs ys e))
          (sdX n 0 s xs ys e) (sdX n 1 s xs ys e) (sdX n 2 s xs ys e) (sdX n 3 s xs ys e) (sdX n 4 s xs ys e))))))))))  := by kernel_rfl
theorem rnd_sidesS {n e : Int} (h6 : 1 ≤ n ∧ n ≤ 6) (s : Bool) (A : Nat) {B : Nat} (hB : 0 < B) :
    (∃ P, ∀ d, 0 ≤ d ∧ d ≤ 4 → rnd n d s A B e = (P, 0)) ∨
    (∃ (L : Nat) (u : Int → Bool), u 2 = false ∧ u (cond s 3 4) = false ∧ u (cond s 4 3) = true ∧ ∀ d, 0 ≤ d ∧ d ≤ 4 → (rnd n d s A B e).1 = L + cond (u d) 1 0 ∧ ((rnd n d s A B e).2 = 8 ∨ (rnd n d s A B e).2 = 10 ∨ (rnd n d s A B e).2 = 12)) := by
  cases s
  · exact rnd_sides h6 A hB
  · have turn : ∀ d, 0 ≤ d ∧ d ≤ 4 → rnd n d true A B e = (signed n true (rnd n (turnD d) false A B e).1, (rnd n (turnD d) false A B e).2) := fun d hd => by
      have := rnd_turn (n := n) (e := e) (turnD_ok hd) A B
      rwa [turn_turn hd] at this
    rcases rnd_sides (e := e) h6 A hB with ⟨P, hP⟩ | ⟨L, u, u2, u4, u3, hu⟩
    · refine .inl ⟨signed n true P, fun d hd => ?_⟩
      rw [turn d hd, hP _ (turnD_ok hd)]
    · refine .inr ⟨L + signN (mN n) (eN n) true, fun d => u (turnD d), u2, u4, u3, fun d hd => ?_⟩
      obtain ⟨g1, g2⟩ := hu _ (turnD_ok hd)
      rw [turn d hd]
      refine ⟨?_, g2⟩
      show signed n true (rnd n (turnD d) false A B e).1 = _
      unfold signed
      rw [g1]
      exact Nat.add_right_comm _ _ _
theorem rnd_lt {n d e : Int} (h6 : 1 ≤ n ∧ n ≤ 6) (s : Bool) (A : Nat) {B : Nat} (hB : 0 < B) : (rnd n d s A B e).1 < 2 ^ 256 := by
  have g := fmt h6
  obtain ⟨c, x, F, i1, i2⟩ := rnd_datum (d := d) (e := e) h6 s (A := A) hB
  rw [i2]
  exact lt256 (unpack_pack h6 s i1 rfl).1 (by omega)
theorem words_inj {a b : Nat} (ha : a < 2 ^ 256) (hb : b < 2 ^ 256) (h : wordsN 4 a = wordsN 4 b) : a = b := by rw [← lo4 ha, ← lo4 hb, h]
theorem sdF_same {P : Nat} : sdF 0 (wordsN 4 P) (wordsN 4 P) (wordsN 4 P) (wordsN 4 P) (wordsN 4 P) = rb true := by
  unfold sdF
  rw [length_wordsN, decide_eq_true ⟨by decide, by decide, Nat.le_refl _⟩, cond_true, show ((0 : Int) == 0) = true from rfl, cond_true, decide_eq_true rfl, cond_true, cond_true, cond_true]
theorem sdF_next {L : Nat} (h : L + 1 < 2 ^ 256) (u0 u1 : Bool) : sdF 5 (wordsN 4 (L + cond u0 1 0)) (wordsN 4 (L + cond u1 1 0)) (wordsN 4 L) (wordsN 4 L) (wordsN 4 (L + 1)) = rb true := by
  have hL : L < 2 ^ 256 := by omega
  have ne : wordsN 4 (L + 1) ≠ wordsN 4 L := fun e => by have := words_inj h hL e; omega
  have c : cmpI (L + 1) L > 0 := by
    unfold cmpI
    rw [if_neg (by omega), if_pos (by omega)]
    decide
  unfold sdF
  rw [length_wordsN, length_wordsN, lo4 h, lo4 hL, decide_eq_true ⟨by decide, by decide, by omega⟩, cond_true, show ((5 : Int) == 0) = false from rfl, cond_false, decide_eq_true c, cond_true, show L + 1 - L = 1 by omega, decide_eq_true (show val (words 1) = val [(1 : Int)] by decide), cond_true, decide_eq_true rfl, cond_true]
  cases u0 <;> cases u1 <;> simp [ne, rb]
theorem inc8_zero : inc8 0 0 = 0 := by decide
theorem inc8_one {i f : Int} (hi : 0 ≤ i ∧ i ≤ 10) (hf : f = 8 ∨ f = 10 ∨ f = 12) : inc8 i f = i + 1 := by
  have : IntKind.i64.wrap (f.tdiv 8) = 1 := by rcases hf with rfl | rfl | rfl <;> decide
  unfold inc8
  rw [this, i64_wrap (by omega) (by omega)]
theorem sides06_true {w : World} {vs : List Value} (n : Int) (s : Bool) (xs ys : List Int) (e : Int) (hds : all2 (DR w) [.p (.int .i64 n), .p (.bool s), .w .u64 xs, .w .u64 ys, .p (.int .i64 e)] vs) :
    evFn sides06E Try.f4 [.p (.int .i64 n), .p (.bool s), .w .u64 xs, .w .u64 ys, .p (.int .i64 e)] = some [(.mine, .p (.bool true))] := by
  rw [sides06_ev]
  by_cases lx : (xs.length : Int) > 100
  · rw [decide_eq_true lx]
    rfl
  rw [decide_eq_false lx, cond_false]
  by_cases ly : (ys.length : Int) > 100
  · rw [decide_eq_true ly]
    rfl
  rw [decide_eq_false ly, cond_false]
  by_cases hn : 1 ≤ n ∧ n ≤ 6
  case neg =>
    rw [decide_eq_false hn]
    rfl
  rw [decide_eq_true hn, Bool.not_true, cond_false]
  by_cases h0 : val ys = 0
  · rw [h0]
    rfl
  have hB : 0 < val ys := Nat.pos_of_ne_zero h0
  have hw0 : wlen (val ys) ≠ 0 := fun e => h0 (wlen_eq_zero.1 e)
  rw [beq_eq_false_iff_ne.2 (show ((wlen (val ys) : Nat) : Int) ≠ 0 by omega), cond_false]
  have hg : ∀ d : Int, 0 ≤ d ∧ d ≤ 4 → ∀ k, sdG n d xs ys k = k := fun d hd k => by
    unfold sdG
    rw [decide_eq_true ⟨hn, hd, hB, by omega, by omega⟩, cond_true]
  rw [hg 0 (by decide), hg 1 (by decide), hg 2 (by decide), hg 3 (by decide), hg 4 (by decide)]
  have hx : ∀ d : Int, sdX n d s xs ys e = wordsN 4 (rnd n d s (val xs) (val ys) e).1 := fun d => (len4 (length_wordsN 4 _)).symm
  have lt := rnd_lt (d := cond s 4 3) (e := e) hn s (val xs) hB
  rcases rnd_sidesS (e := e) hn s (val xs) hB with ⟨P, hP⟩ | ⟨L, u, u2, u4, u3, hu⟩
  · have hi : ∀ d : Int, 0 ≤ d ∧ d ≤ 4 → sdI n d s xs ys e = 0 := fun d hd => by unfold sdI; rw [hP d hd]
    rw [hi 0 (by decide), hi 1 (by decide), hi 2 (by decide), hi 3 (by decide), hi 4 (by decide), inc8_zero, inc8_zero, inc8_zero, inc8_zero, inc8_zero, hx, hx, hx, hx, hx, hP 0 (by decide), hP 1 (by decide), hP 2 (by decide), hP 3 (by decide), hP 4 (by decide)]
    unfold sdT sdR
    rw [show ((0 : Int) != 0) = false from rfl, cond_false]
    dsimp only
    cases s <;> exact sdF_same
  · have hf := fun d hd => (hu d hd).2
    have hv := fun d hd => (hu d hd).1
    rw [hv _ (by cases s <;> decide), u3] at lt
    have i0 : inc8 0 (sdI n 0 s xs ys e) = 1 := inc8_one (by decide) (hf 0 (by decide))
    have i1 : inc8 1 (sdI n 1 s xs ys e) = 2 := inc8_one (by decide) (hf 1 (by decide))
    have i2 : inc8 2 (sdI n 2 s xs ys e) = 3 := inc8_one (by decide) (hf 2 (by decide))
    have i3 : inc8 3 (sdI n 3 s xs ys e) = 4 := inc8_one (by decide) (hf 3 (by decide))
    have i4 : inc8 4 (sdI n 4 s xs ys e) = 5 := inc8_one (by decide) (hf 4 (by decide))
    rw [i0, i1, i2, i3, i4, hx, hx, hx, hx, hx, hv 0 (by decide), hv 1 (by decide), hv 2 (by decide), hv 3 (by decide), hv 4 (by decide), u2]
    unfold sdT sdR
    rw [show ((5 : Int) != 0) = true from rfl, cond_true, show ((5 : Int) != 5) = false from rfl, cond_false]
    cases s
    · rw [cond_false] at u4 u3
      rw [cond_false, u4, u3]
      exact sdF_next lt (u 0) (u 1)
    · rw [cond_true] at u4 u3
      rw [cond_true, u4, u3]
      exact sdF_next lt (u 0) (u 1)
theorem sides06_call {w : World} {ds : List D} {vs : List Value} {res : List (Own × D)} (hds : all2 (DR w) ds vs) (he : evFn sides06E Try.f4 ds = some res) : CallTo Try.prog 4 w vs res := call_mk T mixed Try.func4 (by kernel_rfl) (fns := [(15, awake06C), (19, rBinaryC), (20, sizeC), (17, rndGC), (21, lessC), (22, cmpC), (23, sameC)]) (lps := []) (live := [(0, [0, 1, 2, 3, 4, 11, 12, 41])]) (out := []) (fuel := 6) (give := (fun _ => false)) ⟨awake06_fn, rBinary_fn, size_fn, rndG_fn, less_fn, cmp_fn, same_fn, trivial⟩ trivial hds he
end
end Go.Proofs.Ytdpcokahhleopaa.Vm
