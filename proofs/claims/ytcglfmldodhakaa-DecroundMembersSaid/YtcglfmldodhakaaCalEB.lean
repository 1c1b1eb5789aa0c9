/-
  The law DecroundRises, evaluated. No statement is proved here.
-/
import Derived.Test.YtcglfmldodhakaaCalE9
import Derived.Test.YtcglfmldodhakaaCalEA
namespace Go.Vm
open Go
variable {P : Program}
/-- A contract whose one result, a slice of the call's own, is told as new alone. -/
theorem fnOK_new {f : FuncId} {F H : List D → (List (Own × D) → R) → R} (h : FnOK P f F) (hw : ∀ ds κ r, (∀ d ∈ ds, d.wf) → H ds κ = some r → ∃ k xs, κ [(.new, .w k xs)] = some r ∧ F ds some = some [(.mine, .w k xs)]) : FnOK P f H := fun ds κ r hd hr => by
  obtain ⟨k, xs, h1, h2⟩ := hw ds κ r hd hr
  obtain ⟨l2, h4, h5⟩ := h ds some _ hd h2
  cases h4
  refine ⟨_, h1, fun w vs hv => ?_⟩
  have key : ∀ rv w', (Go.RowKit.Below w.heap.size w w' ∧ ∃ rs, rv = tupleOf rs ∧ all2 (ResOK w w' vs (([(Own.mine, D.w k xs)] : List (Own × D)).length = 1)) [(Own.mine, D.w k xs)] rs) →
      (Go.RowKit.Below w.heap.size w w' ∧ ∃ rs, rv = tupleOf rs ∧ all2 (ResOK w w' vs (([(Own.new, D.w k xs)] : List (Own × D)).length = 1)) [(Own.new, D.w k xs)] rs) := by
    rintro rv w' ⟨g1, rs, g2, g3⟩
    refine ⟨g1, rs, g2, ?_⟩
    match rs, g3 with
    | [x], ⟨g4, _⟩ =>
      obtain ⟨g5, g6⟩ := g4
      refine ⟨⟨g5, fun hs b ad n cap e hn hb => ?_⟩, trivial⟩
      obtain ⟨ad', n', cap', e', g7⟩ := g6 hs
      rw [e] at e'
      cases e'
      obtain ⟨ad2, cap2, e2, g8, _⟩ := g5
      rw [e] at e2
      cases e2
      rcases g7 with g7 | ⟨b', g7, g9, _⟩
      · omega
      · cases g7
        rw [← hb]
        exact g9
  rcases h5 w vs hv with ⟨rv, w', g1, g2⟩ | ⟨g1, g2⟩
  · exact .inl ⟨rv, w', g1, key rv w' g2⟩
  · exact .inr ⟨g1, g2.mono fun e w' ⟨rv, g3, g4⟩ => ⟨rv, g3, key rv w' g4⟩⟩
end Go.Vm
namespace Go.Proofs.Ytcglfmldodhakaa.Vm
open Go Go.Vm
noncomputable section
set_option linter.unusedVariables false
def rNatBE : Env := mkE ty [(42, trimC)] [] [] [] 0 (fun _ => false)
def rNatBC : FnC := evC rNatBE Try.f16
theorem rNatB_fn : FnOK Try.prog 16 rNatBC := fnOK_mk T mixed Try.func16 (by kernel_rfl) (fns := [(42, trimC)]) (lps := []) (live := []) (out := []) (fuel := 0) (give := (fun _ => false)) ⟨trim_fn, trivial⟩ trivial evC_he
theorem rNatB_ev (b : List Int) : evFn rNatBE Try.f16 [.r .u64 4 b] = cond (decide (b.length ≤ 1099511627776)) (some [(.mine, .w .u64 (words (val b)))]) none := by kernel_rfl
def rNatNC : FnC := fun ds κ => match ds with
  | [.r .u64 4 b] => κ [(.new, .w .u64 (words (val b)))]
  | _ => none
theorem rNatN_fn : FnOK Try.prog 16 rNatNC := fnOK_new rNatB_fn fun ds κ r hw h => by
  unfold rNatNC at h
  split at h
  case h_2 => cases h
  rename_i b
  obtain ⟨hl, _⟩ := wfR hw (xs := b) (n := 4) (by simp)
  refine ⟨_, _, h, ?_⟩
  unfold rNatBC evC
  rw [rNatB_ev, decide_eq_true (by omega), cond_true]
def rises15E : Env := mkE ty [(9, awake15C), (10, decC), (24, addC), (16, rNatNC), (15, rScl10C), (18, timesC), (25, cmpC)] [] [] [] 0 (fun k => k == softId)
def cI (D : List Value) (k : Nat) : Int := intOf' (D.getD k (.bool false))
def rsT (C X : Int) (f : List Int) (C' X' : Int) (f' : List Int) : R :=
  cond (C != 1) (rb (C' == 2)) (cond (C' != 1) (rb (C' == 2))
    (cond (rOK10 X (words (val f)) [1]) (cond (rOK10 X' (words (val f')) [1])
      (cond (decide ((words (val (words (val f)) * upP 10 X)).length ≤ 274877906944 ∧ (words (val [(1 : Int)] * dnP 10 X')).length ≤ 274877906944))
        (cond (decide ((words (val (words (val f')) * upP 10 X')).length ≤ 274877906944 ∧ (words (val [(1 : Int)] * dnP 10 X)).length ≤ 274877906944))
          (rb (decide (cmpI (val (words (val (words (val (words (val f)) * upP 10 X)) * val (words (val [(1 : Int)] * dnP 10 X'))))) (val (words (val (words (val (words (val f')) * upP 10 X')) * val (words (val [(1 : Int)] * dnP 10 X))))) ≤ 0))) none) none) none) none))
def rsD (D D' : List Value) : R := rsT (cI D 0) (cI D 3) [cI D 4, cI D 5, cI D 6, cI D 7] (cI D' 0) (cI D' 3) [cI D' 4, cI D' 5, cI D' 6, cI D' 7]
theorem rises15_ev (n d e : Int) (xs ms ys : List Int) : evFn rises15E Try.f7 [.p (.int .i64 n), .p (.int .i64 d), .w .u64 xs, .w .u64 ms, .w .u64 ys, .p (.int .i64 e)] =
    cond (decide ((xs.length : Int) > 60)) (rb true) (cond (decide ((ms.length : Int) > 60)) (rb true) (cond (decide ((ys.length : Int) > 60)) (rb true)
      (drnK n d false xs ys e 0 fun D f k => cond (decide (xs.length ≤ 549755813888 ∧ ms.length ≤ 549755813888))
        (drnK n d false (words (val xs + val ms)) ys e 0 fun D' f' k' => cond (k != 0) (rb (k == k')) (cond (k' != 0) (rb (k == k')) (rsD D D'))) none))) := by kernel_rfl
theorem wlen_sum {a b k : Nat} (ha : wlen a ≤ k) (hb : wlen b ≤ k) : wlen (a + b) ≤ k + 1 := by
  have h1 : wlen (a + b) ≤ wlen (2 * max a b) := wlen_mono (by omega)
  have h2 : wlen (max a b) ≤ k := by rcases Nat.le_total a b with h | h <;> simp [Nat.max_eq_left, Nat.max_eq_right, h] <;> assumption
  have h3 := wlen_mul (a := 2) (b := max a b) (i := 1) (j := k) (by decide) h2
  omega
theorem rsD_dat {C X C' X' : Int} {F F' : Nat} : rsD (datumCells C false false X (wordsN 4 F)) (datumCells C' false false X' (wordsN 4 F')) = rsT C X (wordsN 4 F) C' X' (wordsN 4 F') := by
  have h : ∀ (C X : Int) (F : Nat), [cI (datumCells C false false X (wordsN 4 F)) 4, cI (datumCells C false false X (wordsN 4 F)) 5, cI (datumCells C false false X (wordsN 4 F)) 6, cI (datumCells C false false X (wordsN 4 F)) 7] = wordsN 4 F := fun C X F => (len4 (length_wordsN 4 F)).symm
  unfold rsD
  rw [h, h]
  rfl
theorem rsT_ok {n X X' : Int} {F F' : Nat} (h7 : 7 ≤ n ∧ n ≤ 12) (hX : eminI n ≤ X ∧ X ≤ emaxI n) (hX' : eminI n ≤ X' ∧ X' ≤ emaxI n) (lF : F < 2 ^ 256) (lF' : F' < 2 ^ 256) (h : numU n X F ≤ numU n X' F') : rsT 1 X (wordsN 4 F) 1 X' (wordsN 4 F') = rb true := by
  obtain ⟨f1, f2, f3, f4, f5, f6, f7, f8, f9⟩ := fmt10 h7
  have w4 : ∀ F : Nat, F < 2 ^ 256 → wlen F ≤ 4 := fun F hF => by rw [wlen_le, pow4]; exact hF
  have hr : ∀ (F : Nat) (X : Int), F < 2 ^ 256 → eminI n ≤ X ∧ X ≤ emaxI n → rOK10 X (words F) [1] = true := fun F X hF hX => by
    have := w4 F hF
    exact decide_eq_true ⟨by omega, by rw [val_words], by decide, by rw [length_words]; omega, (by decide : 1 ≤ 1000000)⟩
  have hu : ∀ (F : Nat) (X : Int), F < 2 ^ 256 → eminI n ≤ X ∧ X ≤ emaxI n → wlen (F * upP 10 X) ≤ 1000 := fun F X hF hX => by
    have b1 : wlen (upP 10 X) ≤ 4 * X.toNat / 64 + 1 := pow10_wl _
    have := wlen_mul (w4 F hF) b1
    omega
  have hdn : ∀ (X : Int), eminI n ≤ X ∧ X ≤ emaxI n → wlen (1 * dnP 10 X) ≤ 1000 := fun X hX => by
    have b1 : wlen (dnP 10 X) ≤ 4 * (-X).toNat / 64 + 1 := pow10_wl _
    rw [Nat.one_mul]
    omega
  have u1 := hu F X lF hX
  have u2 := hu F' X' lF' hX'
  have d1 := hdn X hX
  have d2 := hdn X' hX'
  unfold rsT
  rw [show ((1 : Int) != 1) = false from rfl, cond_false, cond_false, lo4 lF, lo4 lF', hr F X lF hX, cond_true, hr F' X' lF' hX', cond_true, show val [(1 : Int)] = 1 from rfl, val_words, val_words, val_words, val_words, val_words, val_words, val_words, val_words,
    length_words, length_words, length_words, length_words, decide_eq_true ⟨by omega, by omega⟩, cond_true, decide_eq_true ⟨by omega, by omega⟩, cond_true, Nat.one_mul, Nat.one_mul]
  have := num_cross h7 hX.1 hX'.1 h
  have hc : cmpI (F * upP 10 X * dnP 10 X') (F' * upP 10 X' * dnP 10 X) ≤ 0 := by
    unfold cmpI
    split
    · decide
    · rw [if_neg (by omega)]
      decide
  rw [decide_eq_true hc]
theorem rises15_true {v : World} {vs : List Value} (n d : Int) (xs ms ys : List Int) (e : Int) (hds : all2 (DR v) [.p (.int .i64 n), .p (.int .i64 d), .w .u64 xs, .w .u64 ms, .w .u64 ys, .p (.int .i64 e)] vs) :
    evFn rises15E Try.f7 [.p (.int .i64 n), .p (.int .i64 d), .w .u64 xs, .w .u64 ms, .w .u64 ys, .p (.int .i64 e)] = some [(.mine, .p (.bool true))] := by
  have hw := all_wf _ _ hds
  have hx := (wfW hw (xs := xs) (by simp)).2
  have hm := (wfW hw (xs := ms) (by simp)).2
  have hy := (wfW hw (xs := ys) (by simp)).2
  rw [rises15_ev]
  by_cases lx : (xs.length : Int) > 60
  · rw [decide_eq_true lx]
    rfl
  rw [decide_eq_false lx, cond_false]
  by_cases lm : (ms.length : Int) > 60
  · rw [decide_eq_true lm]
    rfl
  rw [decide_eq_false lm, cond_false]
  by_cases ly : (ys.length : Int) > 60
  · rw [decide_eq_true ly]
    rfl
  rw [decide_eq_false ly, cond_false]
  have w1 := wlen_val hx
  have w2 := wlen_val hm
  have w3 := wlen_val hy
  have ws := wlen_sum (a := val xs) (b := val ms) (k := 60) (by omega) (by omega)
  have ad : decide (xs.length ≤ 549755813888 ∧ ms.length ≤ 549755813888) = true := decide_eq_true (by omega)
  have l2 : (words (val xs + val ms)).length ≤ 1000000 := by rw [length_words]; omega
  rw [drnK_eq (by omega) (by omega)]
  by_cases hg : (7 ≤ n ∧ n ≤ 12) ∧ (0 ≤ d ∧ d ≤ 4) ∧ 0 < val ys
  case neg =>
    rw [decide_eq_false hg, cond_false, ad, cond_true, drnK_eq l2 (by omega), decide_eq_false hg, cond_false]
    rfl
  obtain ⟨h7, hd, hB⟩ := hg
  rw [decide_eq_true ⟨h7, hd, hB⟩, cond_true, decide_eq_false (by omega), cond_false, ad, cond_true, drnK_eq l2 (by omega), decide_eq_true ⟨h7, hd, hB⟩, cond_true, val_words, decide_eq_false (by omega), cond_false, show ((0 : Int) != 0) = false from rfl, cond_false, cond_false, rsD_dat]
  obtain ⟨g1, g2⟩ := drn_rises (n := n) (d := d) (e := e) (w := 0) h7 hd hB (show val xs ≤ val xs + val ms by omega)
  have i1 := drn_is (d := d) (e := e) (w := 0) (s := false) (A := val xs) (B := val ys) h7
  have i2 := drn_is (d := d) (e := e) (w := 0) (s := false) (A := val xs + val ms) (B := val ys) h7
  have j1 := drn_lt (d := d) (e := e) (w := 0) h7 false (val xs) (val ys)
  have j2 := drn_lt (d := d) (e := e) (w := 0) h7 false (val xs + val ms) (val ys)
  generalize drn n d false (val xs) (val ys) e 0 = t at *
  generalize drn n d false (val xs + val ms) (val ys) e 0 = t' at *
  rcases i1 with ⟨c1, a1, a2, a3⟩ | ⟨c1, _⟩
  · rcases i2 with ⟨c2, b1, b2, b3⟩ | ⟨c2, _⟩
    · rw [c1, c2, rsT_ok h7 ⟨a1, a2⟩ ⟨b1, b2⟩ j1 j2 (g2 c1 c2)]
      rfl
    · unfold rsT
      rw [c1, c2]
      rfl
  · unfold rsT
    rw [c1, g1 c1]
    rfl
theorem rises15_call {w : World} {ds : List D} {vs : List Value} {res : List (Own × D)} (hds : all2 (DR w) ds vs) (he : evFn rises15E Try.f7 ds = some res) : CallTo Try.prog 7 w vs res := call_mk T mixed Try.func7 (by kernel_rfl) (fns := [(9, awake15C), (10, decC), (24, addC), (16, rNatNC), (15, rScl10C), (18, timesC), (25, cmpC)]) (lps := []) (live := []) (out := []) (fuel := 0) (give := (fun k => k == softId)) ⟨awake15_fn, dec_fn, add_fn, rNatN_fn, rScl10_fn, times_fn, cmp_fn, trivial⟩ trivial hds he
end
end Go.Proofs.Ytcglfmldodhakaa.Vm
