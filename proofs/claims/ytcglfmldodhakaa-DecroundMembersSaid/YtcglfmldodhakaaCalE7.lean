/-
  The laws DecroundDecimal and DecroundTurns, evaluated. No statement is proved here.
-/
import Derived.Test.YtcglfmldodhakaaCalE6
import Derived.Test.YtcglfmldodhakaaCalE8
import Derived.Test.YtcglfmldodhakaaCalBA
namespace Go.Proofs.Ytcglfmldodhakaa.Vm
open Go Go.Vm
noncomputable section
set_option linter.unusedVariables false
theorem drn_third : drn 7 0 false 1 3 0 0 = (1, -7, 3333333, 8) := by
  have hf : flog 10 1 3 = -1 := flog_eq (by decide) ⟨by decide, by decide⟩
  unfold drn
  rw [if_neg (by decide), hf]
  decide +kernel
/-- The program's Decimal, with what follows. -/
def drnK (n d : Int) (s : Bool) (xs ys : List Int) (e w : Int) (k : List Value → Int → Int → R) : R :=
  cond (decide (xs.length ≤ 1000000 ∧ ys.length ≤ 1000000)) (cond (decide ((7 ≤ n ∧ n ≤ 12) ∧ (0 ≤ d ∧ d ≤ 4) ∧ 0 < val ys)) (cond (decide (wlen (val xs) > 400 ∨ wlen (val ys) > 400)) (k zeroDatum 0 4)
    (k (datumCells (drn n d s (val xs) (val ys) e w).1 s false (drn n d s (val xs) (val ys) e w).2.1 (wordsN 4 (drn n d s (val xs) (val ys) e w).2.2.1)) (drn n d s (val xs) (val ys) e w).2.2.2 0)) (k zeroDatum 0 1)) none
theorem drnK_eq {n d : Int} {s : Bool} {xs ys : List Int} {e w : Int} (lx : xs.length ≤ 1000000) (ly : ys.length ≤ 1000000) (k : List Value → Int → Int → R) :
    drnK n d s xs ys e w k = cond (decide ((7 ≤ n ∧ n ≤ 12) ∧ (0 ≤ d ∧ d ≤ 4) ∧ 0 < val ys)) (cond (decide (wlen (val xs) > 400 ∨ wlen (val ys) > 400)) (k zeroDatum 0 4)
      (k (datumCells (drn n d s (val xs) (val ys) e w).1 s false (drn n d s (val xs) (val ys) e w).2.1 (wordsN 4 (drn n d s (val xs) (val ys) e w).2.2.1)) (drn n d s (val xs) (val ys) e w).2.2.2 0)) (k zeroDatum 0 1) := by
  unfold drnK
  rw [decide_eq_true ⟨lx, ly⟩, cond_true]
def awake15E : Env := mkE ty [(10, decC)] [] [] [] 0 (fun _ => false)
theorem awake15_ev : evFn awake15E Try.f9 [] =
    cond (decide ([(1 : Int)].length ≤ 1000000 ∧ [(3 : Int)].length ≤ 1000000)) (cond (decide ((7 ≤ (7 : Int) ∧ (7 : Int) ≤ 12) ∧ (0 ≤ (0 : Int) ∧ (0 : Int) ≤ 4) ∧ 0 < val [(3 : Int)])) (cond (decide (wlen (val [(1 : Int)]) > 400 ∨ wlen (val [(3 : Int)]) > 400)) (rb false)
      (cond ((drn 7 0 false (val [(1 : Int)]) (val [(3 : Int)]) 0 0).2.2.2 == 8) (cond ((drn 7 0 false (val [(1 : Int)]) (val [(3 : Int)]) 0 0).2.1 == -7)
        (rb (decide ([(wordsN 4 (drn 7 0 false (val [(1 : Int)]) (val [(3 : Int)]) 0 0).2.2.1).getD 0 0, (wordsN 4 (drn 7 0 false (val [(1 : Int)]) (val [(3 : Int)]) 0 0).2.2.1).getD 1 0, (wordsN 4 (drn 7 0 false (val [(1 : Int)]) (val [(3 : Int)]) 0 0).2.2.1).getD 2 0, (wordsN 4 (drn 7 0 false (val [(1 : Int)]) (val [(3 : Int)]) 0 0).2.2.1).getD 3 0] = [3333333, 0, 0, 0]))) (rb false)) (rb false))) (rb false)) none := by kernel_rfl
theorem awake15_true : evFn awake15E Try.f9 [] = rb true := by
  rw [awake15_ev, show val [(1 : Int)] = 1 from rfl, show val [(3 : Int)] = 3 from rfl, drn_third]
  rw [decide_eq_true (show [(1 : Int)].length ≤ 1000000 ∧ [(3 : Int)].length ≤ 1000000 from ⟨(show 1 ≤ 1000000 by decide), (show 1 ≤ 1000000 by decide)⟩), cond_true, decide_eq_true (show (7 ≤ (7 : Int) ∧ (7 : Int) ≤ 12) ∧ (0 ≤ (0 : Int) ∧ (0 : Int) ≤ 4) ∧ 0 < 3 by decide), cond_true,
    decide_eq_false (show ¬ (wlen 1 > 400 ∨ wlen 3 > 400) by decide), cond_false]
  dsimp only
  rw [show wordsN 4 3333333 = [3333333, 0, 0, 0] by decide]
  rfl
def awake15C : FnC := fun ds κ => match ds with
  | [] => κ [(.mine, .p (.bool true))]
  | _ => none
theorem awake15_he : ∀ ds κ r, (∀ d ∈ ds, d.wf) → awake15C ds κ = some r → ∃ res, κ res = some r ∧ evFn awake15E Try.f9 ds = some res := fun ds κ r hw h => by
  unfold awake15C at h
  split at h
  case h_2 => cases h
  exact ⟨_, h, awake15_true⟩
theorem awake15_fn : FnOK Try.prog 9 awake15C := fnOK_mk T mixed Try.func9 (by kernel_rfl) (fns := [(10, decC)]) (lps := []) (live := []) (out := []) (fuel := 0) (give := (fun _ => false)) ⟨dec_fn, trivial⟩ trivial awake15_he
/-! ### DecroundDecimal -/
def ldecE : Env := mkE ty [(9, awake15C), (10, decC), (11, rdecC)] [] [] [] 0 (fun _ => false)
theorem ldec_ev (n d e w : Int) (s : Bool) (xs ys : List Int) : evFn ldecE Try.f3 [.p (.int .i64 n), .p (.int .i64 d), .p (.bool s), .w .u64 xs, .w .u64 ys, .g [.int .i64 e, .int .i64 w]] =
    cond (decide ((xs.length : Int) > 600)) (rb true) (cond (decide ((ys.length : Int) > 600)) (rb true)
      (drnK n d s xs ys e w fun D f k => drnK n d s xs ys e w fun D' f' k' => cond (eqD D D') (cond (f == f') (rb (k == k')) (rb false)) (rb false))) := by kernel_rfl
theorem eqD_zero : eqD zeroDatum zeroDatum = true := by decide
theorem ldec_true {v : World} {vs : List Value} (n d : Int) (s : Bool) (xs ys : List Int) (e w : Int) (_ : all2 (DR v) [.p (.int .i64 n), .p (.int .i64 d), .p (.bool s), .w .u64 xs, .w .u64 ys, .g [.int .i64 e, .int .i64 w]] vs) :
    evFn ldecE Try.f3 [.p (.int .i64 n), .p (.int .i64 d), .p (.bool s), .w .u64 xs, .w .u64 ys, .g [.int .i64 e, .int .i64 w]] = some [(.mine, .p (.bool true))] := by
  rw [ldec_ev]
  by_cases lx : (xs.length : Int) > 600
  · rw [decide_eq_true lx]
    rfl
  rw [decide_eq_false lx, cond_false]
  by_cases ly : (ys.length : Int) > 600
  · rw [decide_eq_true ly]
    rfl
  rw [decide_eq_false ly, cond_false]
  unfold drnK
  rw [decide_eq_true (show xs.length ≤ 1000000 ∧ ys.length ≤ 1000000 by omega)]
  cases decide ((7 ≤ n ∧ n ≤ 12) ∧ (0 ≤ d ∧ d ≤ 4) ∧ 0 < val ys) <;> cases decide (wlen (val xs) > 400 ∨ wlen (val ys) > 400) <;> simp only [cond_true, cond_false, eqD_zero, eqD_refl, beq_self_eq_true] <;> rfl
theorem ldec_call {w : World} {ds : List D} {vs : List Value} {res : List (Own × D)} (hds : all2 (DR w) ds vs) (he : evFn ldecE Try.f3 ds = some res) : CallTo Try.prog 3 w vs res := call_mk T mixed Try.func3 (by kernel_rfl) (fns := [(9, awake15C), (10, decC), (11, rdecC)]) (lps := []) (live := []) (out := []) (fuel := 0) (give := (fun _ => false)) ⟨awake15_fn, dec_fn, rdec_fn, trivial⟩ trivial hds he
/-! ### DecroundTurns -/
def turns15E : Env := mkE ty [(9, awake15C), (10, decC)] [] [] [] 0 (fun _ => false)
def unsign (l : List Value) : List Value := l.take 1 ++ [.bool false] ++ l.drop 2
def turnT15 (n d o : Int) (xs ys : List Int) (e w : Int) : R :=
  drnK n d false xs ys e w fun D f k => drnK n o true xs ys e w fun D' f' k' => cond (k != 0) (rb (k == k')) (cond (k' != 0) (rb (k == k')) (cond (eqD D (unsign D')) (rb (f == f')) (rb false)))
theorem turns15_ev (n d e w : Int) (xs ys : List Int) : evFn turns15E Try.f6 [.p (.int .i64 n), .p (.int .i64 d), .w .u64 xs, .w .u64 ys, .p (.int .i64 e), .p (.int .i64 w)] =
    cond (decide ((xs.length : Int) > 100)) (rb true) (cond (decide ((ys.length : Int) > 100)) (rb true)
      (cond (d == 3) (turnT15 n d (IntKind.i64.wrap (7 - d)) xs ys e w) (cond (d == 4) (turnT15 n d (IntKind.i64.wrap (7 - d)) xs ys e w) (turnT15 n d d xs ys e w)))) := by kernel_rfl
theorem unsign_eq (c x : Int) (s q : Bool) (f : List Int) : unsign (datumCells c s q x f) = datumCells c false q x f := rfl
theorem turnT15_eq {n d e w : Int} {xs ys : List Int} (lx : xs.length ≤ 100) (ly : ys.length ≤ 100) {o : Int} (ho : (0 ≤ d ∧ d ≤ 4 → o = turnD d) ∧ (¬ (0 ≤ d ∧ d ≤ 4) → ¬ (0 ≤ o ∧ o ≤ 4))) : turnT15 n d o xs ys e w = rb true := by
  unfold turnT15
  rw [drnK_eq (by omega) (by omega)]
  by_cases hg : (7 ≤ n ∧ n ≤ 12) ∧ (0 ≤ d ∧ d ≤ 4) ∧ 0 < val ys
  · obtain ⟨h7, hd, hB⟩ := hg
    obtain rfl := ho.1 hd
    rw [decide_eq_true ⟨h7, hd, hB⟩, cond_true]
    cases hl : decide (wlen (val xs) > 400 ∨ wlen (val ys) > 400)
    · rw [cond_false, drnK_eq (by omega) (by omega), decide_eq_true ⟨h7, turnD_ok hd, hB⟩, cond_true, hl, cond_false, drn_turn hd, unsign_eq, eqD_refl, beq_self_eq_true]
      simp [rb]
    · rw [cond_true, drnK_eq (by omega) (by omega), decide_eq_true ⟨h7, turnD_ok hd, hB⟩, cond_true, hl, cond_true]
      rfl
  · have hg' : ¬ ((7 ≤ n ∧ n ≤ 12) ∧ (0 ≤ o ∧ o ≤ 4) ∧ 0 < val ys) := fun h => by
      by_cases hd : 0 ≤ d ∧ d ≤ 4
      · exact hg ⟨h.1, hd, h.2.2⟩
      · exact ho.2 hd h.2.1
    rw [decide_eq_false hg, cond_false, drnK_eq (by omega) (by omega), decide_eq_false hg', cond_false]
    rfl
theorem turns15_true {v : World} {vs : List Value} (n d : Int) (xs ys : List Int) (e w : Int) (_ : all2 (DR v) [.p (.int .i64 n), .p (.int .i64 d), .w .u64 xs, .w .u64 ys, .p (.int .i64 e), .p (.int .i64 w)] vs) :
    evFn turns15E Try.f6 [.p (.int .i64 n), .p (.int .i64 d), .w .u64 xs, .w .u64 ys, .p (.int .i64 e), .p (.int .i64 w)] = some [(.mine, .p (.bool true))] := by
  rw [turns15_ev]
  by_cases lx : (xs.length : Int) > 100
  · rw [decide_eq_true lx]
    rfl
  rw [decide_eq_false lx, cond_false]
  by_cases ly : (ys.length : Int) > 100
  · rw [decide_eq_true ly]
    rfl
  rw [decide_eq_false ly, cond_false]
  cases e3 : (d == 3)
  · rw [cond_false]
    cases e4 : (d == 4)
    · rw [cond_false, turnT15_eq (by omega) (by omega) ⟨fun h => by unfold turnD; rw [e3, e4]; rfl, fun h => h⟩]
      rfl
    · obtain rfl := beq_iff_eq.1 e4
      rw [cond_true]
      exact turnT15_eq (d := 4) (by omega) (by omega) ⟨fun _ => (by decide : IntKind.i64.wrap (7 - 4) = turnD 4), fun h => absurd ⟨by decide, by decide⟩ h⟩
  · obtain rfl := beq_iff_eq.1 e3
    rw [cond_true]
    exact turnT15_eq (d := 3) (by omega) (by omega) ⟨fun _ => (by decide : IntKind.i64.wrap (7 - 3) = turnD 3), fun h => absurd ⟨by decide, by decide⟩ h⟩
theorem turns15_call {w : World} {ds : List D} {vs : List Value} {res : List (Own × D)} (hds : all2 (DR w) ds vs) (he : evFn turns15E Try.f6 ds = some res) : CallTo Try.prog 6 w vs res := call_mk T mixed Try.func6 (by kernel_rfl) (fns := [(9, awake15C), (10, decC)]) (lps := []) (live := []) (out := []) (fuel := 0) (give := (fun _ => false)) ⟨awake15_fn, dec_fn, trivial⟩ trivial hds he
end
end Go.Proofs.Ytcglfmldodhakaa.Vm
namespace Go.Proofs.Ytcglfmldodhakaa.Vm
open Go Go.Vm Go.ChangeShapes Go.WideShapes Go.RowKit
variable {P : Program} {w : World} {r : Reach} {base : Nat}
/-- Two whole numbers in a struct, handed to a law. -/
theorem arg_pair {t i : TypeId} {F : Array Field} {v : Value} (ht : P.underlying t = some (.struct F)) (hc : P.cellTypes P.depth t = some [i, i]) (hs : P.cellsOf t = 2)
    (hi : P.underlying i = some (.int .i64)) (h : Value.okWide P w r base t v) : ∃ x y, DR w (.g [.int .i64 x, .int .i64 y]) v := by
  simp only [Value.okWide, ht] at h
  obtain ⟨cs, rfl, hsz, ts, hts, _, hall⟩ := h
  rw [hc] at hts
  cases hts
  obtain ⟨l⟩ := cs
  simp only [List.size_toArray] at hsz
  rw [hs] at hsz
  match l, hsz, hall with
  | [v0, v1], _, hall =>
    obtain ⟨_, h0, g0⟩ := hall 0 v0 rfl; cases h0
    obtain ⟨_, h1, g1⟩ := hall 1 v1 rfl; cases h1
    obtain ⟨x, rfl, w0⟩ := cell_int hi g0
    obtain ⟨y, rfl, w1⟩ := cell_int hi g1
    refine ⟨x, y, rfl, ?_⟩
    intro v hv
    simp only [List.mem_cons, List.not_mem_nil, or_false] at hv
    rcases hv with rfl | rfl
    · exact w0
    · exact w1
end Go.Proofs.Ytcglfmldodhakaa.Vm
