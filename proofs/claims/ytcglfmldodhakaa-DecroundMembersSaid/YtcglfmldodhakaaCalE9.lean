/-
  The law DecroundSides, evaluated. No statement is proved here.
-/
import Derived.Test.YtcglfmldodhakaaCalE7
namespace Go.Proofs.Ytcglfmldodhakaa.Vm
open Go Go.Vm
noncomputable section
set_option linter.unusedVariables false
/-- decround.Decimal, of right arguments. -/
def decGC : FnC := fun ds κ => match ds with
  | [.p (.int .i64 n), .p (.int .i64 d), .p (.bool s), .w .u64 xs, .w .u64 ys, .p (.int .i64 e), .p (.int .i64 w)] => cond (decide ((7 ≤ n ∧ n ≤ 12) ∧ (0 ≤ d ∧ d ≤ 4) ∧ 0 < val ys ∧ xs.length ≤ 400 ∧ ys.length ≤ 400))
      (κ [(.mine, .g (datumCells (drn n d s (val xs) (val ys) e w).1 s false (drn n d s (val xs) (val ys) e w).2.1 (wordsN 4 (drn n d s (val xs) (val ys) e w).2.2.1))), (.mine, .p (.int .i64 (drn n d s (val xs) (val ys) e w).2.2.2)), (.mine, .p (.int .i64 0))]) none
  | _ => none
theorem decG_fn : FnOK Try.prog 10 decGC := fun ds κ r hd hr => by
  refine dec_fn ds κ r hd ?_
  unfold decGC at hr
  split at hr
  case h_2 => cases hr
  rename_i n d s xs ys e w
  replace hr := cond_none hr
  obtain ⟨hc, hr⟩ := hr
  obtain ⟨h1, h2, h3, h4, h5⟩ := of_decide_eq_true hc
  have w1 := wlen_val (wfW hd (xs := xs) (by simp)).2
  have w2 := wlen_val (wfW hd (xs := ys) (by simp)).2
  show cond _ (cond _ (cond _ _ _) _) _ = some r
  rw [decide_eq_true (show xs.length ≤ 1000000 ∧ ys.length ≤ 1000000 by omega), cond_true, decide_eq_true ⟨h1, h2, h3⟩, cond_true, decide_eq_false (show ¬ (wlen (val xs) > 400 ∨ wlen (val ys) > 400) by omega), cond_false]
  exact hr
/-- Data are alike just if their parts are. -/
theorem eqD_iff {C X C' X' : Int} {s : Bool} {F F' : Nat} (hF : F < 2 ^ 256) (hF' : F' < 2 ^ 256) : eqD (datumCells C s false X (wordsN 4 F)) (datumCells C' s false X' (wordsN 4 F')) = decide (C = C' ∧ X = X' ∧ F = F') := by
  have h4 : (wordsN 4 F).getD 0 0 = (wordsN 4 F').getD 0 0 → (wordsN 4 F).getD 1 0 = (wordsN 4 F').getD 1 0 → (wordsN 4 F).getD 2 0 = (wordsN 4 F').getD 2 0 → (wordsN 4 F).getD 3 0 = (wordsN 4 F').getD 3 0 → F = F' := fun a b c d => by
    have e1 := len4 (length_wordsN 4 F)
    have e2 := len4 (length_wordsN 4 F')
    rw [a, b, c, d, ← e2] at e1
    rw [← lo4 hF, ← lo4 hF', e1]
  have key : eqD (datumCells C s false X (wordsN 4 F)) (datumCells C' s false X' (wordsN 4 F')) = true ↔ (C = C' ∧ X = X' ∧ F = F') := by
    constructor
    · intro h
      simp only [eqD, datumCells, eqCells, Option.map_some, Option.getD_some, if_true, beq_self_eq_true, cond_true] at h
      cases h1 : (C == C') <;> rw [h1] at h
      · cases h
      cases h2 : (X == X') <;> rw [h2] at h
      · cases h
      cases h3 : ((wordsN 4 F).getD 0 0 == (wordsN 4 F').getD 0 0) <;> rw [h3] at h
      · cases h
      cases h5 : ((wordsN 4 F).getD 1 0 == (wordsN 4 F').getD 1 0) <;> rw [h5] at h
      · cases h
      cases h6 : ((wordsN 4 F).getD 2 0 == (wordsN 4 F').getD 2 0) <;> rw [h6] at h
      · cases h
      cases h7 : ((wordsN 4 F).getD 3 0 == (wordsN 4 F').getD 3 0) <;> rw [h7] at h
      · cases h
      exact ⟨beq_iff_eq.1 h1, beq_iff_eq.1 h2, h4 (beq_iff_eq.1 h3) (beq_iff_eq.1 h5) (beq_iff_eq.1 h6) (beq_iff_eq.1 h7)⟩
    · rintro ⟨rfl, rfl, rfl⟩
      exact eqD_refl _ _ _ _ _
  by_cases hk : C = C' ∧ X = X' ∧ F = F'
  · rw [decide_eq_true hk, key.2 hk]
  · rw [decide_eq_false hk]
    cases hE : eqD (datumCells C s false X (wordsN 4 F)) (datumCells C' s false X' (wordsN 4 F'))
    · rfl
    · exact absurd (key.1 hE) hk
def sides15E : Env := mkE ty [(9, awake15C), (22, rDecimC), (23, sizeC), (10, decGC)] [] [(0, [0, 1, 2, 3, 4, 11, 12, 42])] [] 6 (fun _ => false)
def dsG (n d : Int) (xs ys : List Int) (k : R) : R := cond (decide ((7 ≤ n ∧ n ≤ 12) ∧ (0 ≤ d ∧ d ≤ 4) ∧ 0 < val ys ∧ xs.length ≤ 400 ∧ ys.length ≤ 400)) k none
def inc8d (i f : Int) : Int := IntKind.i64.wrap (i + IntKind.i64.wrap (f.tdiv 8))
def dsF (I : Int) (x0 x1 x2 low high : List Value) : R :=
  cond (I == 0) (cond (eqD low high) (cond (eqD x0 low) (cond (eqD x1 low) (rb (eqD x2 low)) (rb false)) (rb false)) (rb false))
    (cond (I == 5) (cond (!eqD low high) (cond (eqD x2 low) (cond (eqD x0 low) (cond (eqD x1 low) (rb true) (rb (eqD x1 high))) (cond (eqD x0 high) (cond (eqD x1 low) (rb true) (rb (eqD x1 high))) (rb false))) (rb false)) (rb false)) (rb false))
def dsX (n d : Int) (s : Bool) (xs ys : List Int) (e : Int) : List Value := datumCells (drn n d s (val xs) (val ys) e 0).1 s false (drn n d s (val xs) (val ys) e 0).2.1 (wordsN 4 (drn n d s (val xs) (val ys) e 0).2.2.1)
def dsI (n d : Int) (s : Bool) (xs ys : List Int) (e : Int) : Int := (drn n d s (val xs) (val ys) e 0).2.2.2
def dsR (s : Bool) (I : Int) (x0 x1 x2 x3 x4 : List Value) : R := cond s (dsF I x0 x1 x2 x3 x4) (dsF I x0 x1 x2 x4 x3)
theorem sides15_ev (n e : Int) (s : Bool) (xs ys : List Int) : evFn sides15E Try.f5 [.p (.int .i64 n), .p (.bool s), .w .u64 xs, .w .u64 ys, .p (.int .i64 e)] =
    cond (decide ((xs.length : Int) > 60)) (rb true) (cond (decide ((ys.length : Int) > 60)) (rb true) (cond (!decide (7 ≤ n ∧ n ≤ 12)) (rb true) (cond (((wlen (val ys) : Nat) : Int) == 0) (rb true)
      (dsG n 0 xs ys (dsG n 1 xs ys (dsG n 2 xs ys (dsG n 3 xs ys (dsG n 4 xs ys
        (dsR s (inc8d (inc8d (inc8d (inc8d (inc8d 0 (dsI n 0 s xs ys e)) (dsI n 1 s xs ys e)) (dsI n 2 s xs ys e)) (dsI n 3 s xs ys e)) (dsI n 4 s xs ys e))
          (dsX n 0 s xs ys e) (dsX n 1 s xs ys e) (dsX n 2 s xs ys e) (dsX n 3 s xs ys e) (dsX n 4 s xs ys e)))))))))) := by kernel_rfl
theorem drn_lt {n d e w : Int} (h7 : 7 ≤ n ∧ n ≤ 12) (s : Bool) (A B : Nat) : (drn n d s A B e w).2.2.1 < 2 ^ 256 := by
  obtain ⟨f1, f2, f3, f4, f5, f6, f7, f8, f9⟩ := fmt10 h7
  have h1 : 10 ^ pN n ≤ 2 ^ (4 * pN n) := by rw [Nat.pow_mul]; exact Nat.pow_le_pow_left (by decide) _
  have h2 : 2 ^ (4 * pN n) ≤ 2 ^ 256 := Nat.pow_le_pow_right (by decide) (by omega)
  rcases drn_is (d := d) (e := e) (w := w) (s := s) (A := A) (B := B) h7 with ⟨_, _, _, h⟩ | ⟨_, _, h⟩
  · exact Nat.lt_of_lt_of_le h (Nat.le_trans h1 h2)
  · rw [h]
    exact Nat.two_pow_pos _
def dat (s : Bool) (t : Int × Int × Nat × Int) : List Value := datumCells t.1 s false t.2.1 (wordsN 4 t.2.2.1)
theorem dat_refl (s : Bool) (t : Int × Int × Nat × Int) : eqD (dat s t) (dat s t) = true := eqD_refl _ _ _ _ _
theorem dsF_same {s : Bool} {P : Int × Int × Nat × Int} : dsF 0 (dat s P) (dat s P) (dat s P) (dat s P) (dat s P) = rb true := by
  unfold dsF
  rw [show ((0 : Int) == 0) = true from rfl, cond_true, dat_refl, cond_true, cond_true, cond_true]
theorem dsF_next {s : Bool} {D U : Int × Int × Nat × Int} (h1 : eqD (dat s D) (dat s U) = false) (h2 : eqD (dat s U) (dat s D) = false) (u0 u1 : Bool) : dsF 5 (dat s (cond u0 U D)) (dat s (cond u1 U D)) (dat s D) (dat s D) (dat s U) = rb true := by
  unfold dsF
  rw [show ((5 : Int) == 0) = false from rfl, cond_false, show ((5 : Int) == 5) = true from rfl, cond_true, h1, Bool.not_false, cond_true, dat_refl, cond_true]
  cases u0 <;> cases u1 <;> simp only [cond_true, cond_false, dat_refl, h1, h2]
theorem inc8d_zero : inc8d 0 0 = 0 := by decide
theorem inc8d_one {i f : Int} (hi : 0 ≤ i ∧ i ≤ 10) (hf : f = 8 ∨ f = 10 ∨ f = 12) : inc8d i f = i + 1 := by
  have : IntKind.i64.wrap (f.tdiv 8) = 1 := by rcases hf with rfl | rfl | rfl <;> decide
  unfold inc8d
  rw [this, i64_wrap (by omega) (by omega)]
theorem sides15_true {v : World} {vs : List Value} (n : Int) (s : Bool) (xs ys : List Int) (e : Int) (_ : all2 (DR v) [.p (.int .i64 n), .p (.bool s), .w .u64 xs, .w .u64 ys, .p (.int .i64 e)] vs) :
    evFn sides15E Try.f5 [.p (.int .i64 n), .p (.bool s), .w .u64 xs, .w .u64 ys, .p (.int .i64 e)] = some [(.mine, .p (.bool true))] := by
  rw [sides15_ev]
  by_cases lx : (xs.length : Int) > 60
  · rw [decide_eq_true lx]
    rfl
  rw [decide_eq_false lx, cond_false]
  by_cases ly : (ys.length : Int) > 60
  · rw [decide_eq_true ly]
    rfl
  rw [decide_eq_false ly, cond_false]
  by_cases hn : 7 ≤ n ∧ n ≤ 12
  case neg =>
    rw [decide_eq_false hn]
    rfl
  rw [decide_eq_true hn, Bool.not_true, cond_false]
  by_cases h0 : val ys = 0
  · rw [h0]
    rfl
  have hB : 0 < val ys := Nat.pos_of_ne_zero h0
  have hw0 : wlen (val ys) ≠ 0 := fun e => h0 (wlen_eq_zero.1 e)
  rw [beq_eq_false_iff_ne.2 (show ((wlen (val ys) : Nat) : Int) ≠ 0 by omega), cond_false]
  have hg : ∀ d : Int, 0 ≤ d ∧ d ≤ 4 → ∀ k, dsG n d xs ys k = k := fun d hd k => by
    unfold dsG
    rw [decide_eq_true ⟨hn, hd, hB, by omega, by omega⟩, cond_true]
  rw [hg 0 (by decide), hg 1 (by decide), hg 2 (by decide), hg 3 (by decide), hg 4 (by decide)]
  have hx : ∀ d : Int, dsX n d s xs ys e = dat s (drn n d s (val xs) (val ys) e 0) := fun d => rfl
  rcases drn_sidesS (e := e) (w := 0) hn s (val xs) hB with ⟨P, hP0, hP⟩ | ⟨D, U, u, hne, fD, fU, u2, u4, u3, hu⟩
  · have hi : ∀ d : Int, 0 ≤ d ∧ d ≤ 4 → dsI n d s xs ys e = 0 := fun d hd => by unfold dsI; rw [hP d hd, hP0]
    rw [hi 0 (by decide), hi 1 (by decide), hi 2 (by decide), hi 3 (by decide), hi 4 (by decide), inc8d_zero, inc8d_zero, inc8d_zero, inc8d_zero, inc8d_zero, hx, hx, hx, hx, hx, hP 0 (by decide), hP 1 (by decide), hP 2 (by decide), hP 3 (by decide), hP 4 (by decide)]
    unfold dsR
    cases s <;> exact dsF_same
  · have hf : ∀ d : Int, 0 ≤ d ∧ d ≤ 4 → dsI n d s xs ys e = 8 ∨ dsI n d s xs ys e = 10 ∨ dsI n d s xs ys e = 12 := fun d hd => by
      unfold dsI
      rw [hu d hd]
      cases u d
      · exact fD
      · exact fU
    have lD := drn_lt (d := cond s 3 4) (e := e) (w := 0) hn s (val xs) (val ys)
    have lU := drn_lt (d := cond s 4 3) (e := e) (w := 0) hn s (val xs) (val ys)
    rw [hu _ (by cases s <;> decide), u4, cond_false] at lD
    rw [hu _ (by cases s <;> decide), u3, cond_true] at lU
    have e1 : eqD (dat s D) (dat s U) = false := by
      unfold dat
      rw [eqD_iff lD lU, decide_eq_false (fun ⟨a, b, c⟩ => hne.elim (fun h => h a) (fun h => h.elim (fun h => h b) fun h => h c))]
    have e2 : eqD (dat s U) (dat s D) = false := by
      unfold dat
      rw [eqD_iff lU lD, decide_eq_false (fun ⟨a, b, c⟩ => hne.elim (fun h => h a.symm) (fun h => h.elim (fun h => h b.symm) fun h => h c.symm))]
    have i0 : inc8d 0 (dsI n 0 s xs ys e) = 1 := inc8d_one (by decide) (hf 0 (by decide))
    have i1 : inc8d 1 (dsI n 1 s xs ys e) = 2 := inc8d_one (by decide) (hf 1 (by decide))
    have i2 : inc8d 2 (dsI n 2 s xs ys e) = 3 := inc8d_one (by decide) (hf 2 (by decide))
    have i3 : inc8d 3 (dsI n 3 s xs ys e) = 4 := inc8d_one (by decide) (hf 3 (by decide))
    have i4 : inc8d 4 (dsI n 4 s xs ys e) = 5 := inc8d_one (by decide) (hf 4 (by decide))
    rw [i0, i1, i2, i3, i4, hx, hx, hx, hx, hx, hu 0 (by decide), hu 1 (by decide), hu 2 (by decide), hu 3 (by decide), hu 4 (by decide), u2, cond_false]
    unfold dsR
    cases s
    · rw [cond_false] at u4 u3
      rw [cond_false, u4, u3, cond_false, cond_true]
      exact dsF_next e1 e2 (u 0) (u 1)
    · rw [cond_true] at u4 u3
      rw [cond_true, u4, u3, cond_false, cond_true]
      exact dsF_next e1 e2 (u 0) (u 1)
theorem sides15_call {w : World} {ds : List D} {vs : List Value} {res : List (Own × D)} (hds : all2 (DR w) ds vs) (he : evFn sides15E Try.f5 ds = some res) : CallTo Try.prog 5 w vs res := call_mk T mixed Try.func5 (by kernel_rfl) (fns := [(9, awake15C), (22, rDecimC), (23, sizeC), (10, decGC)]) (lps := []) (live := [(0, [0, 1, 2, 3, 4, 11, 12, 42])]) (out := []) (fuel := 6) (give := (fun _ => false)) ⟨awake15_fn, rDecim_fn, size_fn, decG_fn, trivial⟩ trivial hds he
end
end Go.Proofs.Ytcglfmldodhakaa.Vm
