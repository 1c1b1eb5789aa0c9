/-
  The laws of package law06, evaluated: RoundBinary, RoundScaled. No statement is proved here.
-/
import Derived.Test.YtdpcokahhleopaaCalQE
import Derived.Test.YtdpcokahhleopaaCalY
import Derived.Test.YtdpcokahhleopaaCalX
namespace Go.Proofs.Ytdpcokahhleopaa.Vm
open Go Go.Vm
noncomputable section
set_option linter.unusedVariables false
abbrev rndPC := rndC
abbrev rndRC := rndC
theorem rndP_fn : FnOK Try.prog 17 rndPC := bin_fn
theorem rndR_fn : FnOK Try.prog 18 rndRC := rbin_fn
/-! ### awake, few -/
theorem rnd_third : rnd 3 0 false 1 3 0 = (1051372203, 8) := by
  have hf : flog 2 1 3 = -2 := by
    rw [flog2 (by decide) (by decide) (q := -1) (by decide)]
    decide
  unfold rnd
  rw [if_neg (by decide), hf]
  decide +kernel
def awake06C : FnC := fun ds κ => match ds with
  | [] => κ [(.mine, .p (.bool true))]
  | _ => none
def awake06E : Env := mkE ty [(17, rndPC)] [] [] [] 0 (fun _ => false)
theorem awake06_ev : evFn awake06E Try.f15 [] =
    cond (decide ([(1 : Int)].length ≤ 1000000 ∧ [(3 : Int)].length ≤ 1000000)) (cond (decide ((1 ≤ (3 : Int) ∧ (3 : Int) ≤ 6) ∧ (0 ≤ (0 : Int) ∧ (0 : Int) ≤ 4) ∧ 0 < val [(3 : Int)])) (cond (decide (wlen (val [(1 : Int)]) > 800 ∨ wlen (val [(3 : Int)]) > 800)) (rb false)
      (cond (decide (wordsN 4 (rnd 3 0 false (val [(1 : Int)]) (val [(3 : Int)]) 0).1 = [1051372203, 0, 0, 0])) (rb ((rnd 3 0 false (val [(1 : Int)]) (val [(3 : Int)]) 0).2 == 8)) (rb false))) (rb false)) none := by kernel_rfl
theorem awake06_true : evFn awake06E Try.f15 [] = some [(.mine, .p (.bool true))] := by
  rw [awake06_ev, show val [(1 : Int)] = 1 from rfl, show val [(3 : Int)] = 3 from rfl, rnd_third]
  rw [decide_eq_true (show [(1 : Int)].length ≤ 1000000 ∧ [(3 : Int)].length ≤ 1000000 from ⟨(show 1 ≤ 1000000 by decide), (show 1 ≤ 1000000 by decide)⟩), cond_true, decide_eq_true (show (1 ≤ (3 : Int) ∧ (3 : Int) ≤ 6) ∧ (0 ≤ (0 : Int) ∧ (0 : Int) ≤ 4) ∧ 0 < 3 by decide), cond_true,
    decide_eq_false (show ¬ (wlen 1 > 800 ∨ wlen 3 > 800) by decide), cond_false, decide_eq_true (show wordsN 4 1051372203 = [1051372203, 0, 0, 0] by decide), cond_true]
  rfl
theorem awake06_he : ∀ ds κ r, (∀ d ∈ ds, d.wf) → awake06C ds κ = some r → ∃ res, κ res = some r ∧ evFn awake06E Try.f15 ds = some res := fun ds κ r hw h => by
  unfold awake06C at h
  split at h
  case h_2 => cases h
  exact ⟨_, h, awake06_true⟩
theorem awake06_fn : FnOK Try.prog 15 awake06C := fnOK_mk T mixed Try.func15 (by kernel_rfl) (fns := [(17, rndPC)]) (lps := []) (live := []) (out := []) (fuel := 0) (give := (fun _ => false)) ⟨rndP_fn, trivial⟩ trivial awake06_he
def few06C : FnC := fun ds κ => match ds with
  | [.w .u64 xs, .w .u64 ys] => κ [(.mine, .p (.bool (decide (xs.length ≤ 1000 ∧ ys.length ≤ 1000))))]
  | _ => none
def few06E : Env := mkE ty [] [] [] [] 0 (fun _ => false)
theorem few06_ev (xs ys : List Int) : evFn few06E Try.f16 [.w .u64 xs, .w .u64 ys] = cond (decide ((xs.length : Int) ≤ 1000)) (rb (decide ((ys.length : Int) ≤ 1000))) (rb false) := by kernel_rfl
theorem few06_he : ∀ ds κ r, (∀ d ∈ ds, d.wf) → few06C ds κ = some r → ∃ res, κ res = some r ∧ evFn few06E Try.f16 ds = some res := fun ds κ r hw h => by
  unfold few06C at h
  split at h
  case h_2 => cases h
  rename_i xs ys
  refine ⟨_, h, (few06_ev xs ys).trans ?_⟩
  by_cases h1 : xs.length ≤ 1000
  · by_cases h2 : ys.length ≤ 1000
    · rw [decide_eq_true (by omega), cond_true, decide_eq_true (by omega), decide_eq_true ⟨h1, h2⟩]; rfl
    · rw [decide_eq_true (by omega), cond_true, decide_eq_false (by omega), decide_eq_false (fun h => h2 h.2)]; rfl
  · rw [decide_eq_false (by omega), cond_false, decide_eq_false (fun h => h1 h.1)]; rfl
theorem few06_fn : FnOK Try.prog 16 few06C := fnOK_mk T mixed Try.func16 (by kernel_rfl) (fns := []) (lps := []) (live := []) (out := []) (fuel := 0) (give := (fun _ => false)) trivial trivial few06_he
/-- Both programs' Binary, with what follows. -/
def rndK (n d : Int) (s : Bool) (xs ys : List Int) (e : Int) (k : List Int → Int → Int → R) : R :=
  cond (decide (xs.length ≤ 1000000 ∧ ys.length ≤ 1000000)) (cond (decide ((1 ≤ n ∧ n ≤ 6) ∧ (0 ≤ d ∧ d ≤ 4) ∧ 0 < val ys)) (cond (decide (wlen (val xs) > 800 ∨ wlen (val ys) > 800)) (k (wordsN 4 0) 0 4)
    (k (wordsN 4 (rnd n d s (val xs) (val ys) e).1) (rnd n d s (val xs) (val ys) e).2 0)) (k (wordsN 4 0) 0 1)) none
/-! ### RoundBinary -/
def rbinaryE : Env := mkE ty [(15, awake06C), (16, few06C), (17, rndPC), (18, rndRC)] [] [] [] 0 (fun _ => false)
theorem rbinary_ev (n d e : Int) (s : Bool) (xs ys : List Int) : evFn rbinaryE Try.f3 [.p (.int .i64 n), .p (.int .i64 d), .p (.bool s), .w .u64 xs, .w .u64 ys, .p (.int .i64 e)] =
    cond (!decide (xs.length ≤ 1000 ∧ ys.length ≤ 1000)) (rb true) (rndK n d s xs ys e fun b f k => rndK n d s xs ys e fun b' f' k' => cond (decide (b = b')) (cond (f == f') (rb (k == k')) (rb false)) (rb false)) := by kernel_rfl
theorem rbinary_true {w : World} {vs : List Value} (n d : Int) (s : Bool) (xs ys : List Int) (e : Int) (_ : all2 (DR w) [.p (.int .i64 n), .p (.int .i64 d), .p (.bool s), .w .u64 xs, .w .u64 ys, .p (.int .i64 e)] vs) :
    evFn rbinaryE Try.f3 [.p (.int .i64 n), .p (.int .i64 d), .p (.bool s), .w .u64 xs, .w .u64 ys, .p (.int .i64 e)] = some [(.mine, .p (.bool true))] := by
  rw [rbinary_ev]
  by_cases hf : xs.length ≤ 1000 ∧ ys.length ≤ 1000
  · rw [decide_eq_true hf, Bool.not_true, cond_false]
    unfold rndK
    rw [decide_eq_true (show xs.length ≤ 1000000 ∧ ys.length ≤ 1000000 by omega)]
    cases decide ((1 ≤ n ∧ n ≤ 6) ∧ (0 ≤ d ∧ d ≤ 4) ∧ 0 < val ys) <;> cases decide (wlen (val xs) > 800 ∨ wlen (val ys) > 800) <;> simp [rb]
  · rw [decide_eq_false hf, Bool.not_false, cond_true]
    rfl
theorem rbinary_call {w : World} {ds : List D} {vs : List Value} {res : List (Own × D)} (hds : all2 (DR w) ds vs) (he : evFn rbinaryE Try.f3 ds = some res) : CallTo Try.prog 3 w vs res := call_mk T mixed Try.func3 (by kernel_rfl) (fns := [(15, awake06C), (16, few06C), (17, rndPC), (18, rndRC)]) (lps := []) (live := []) (out := []) (fuel := 0) (give := (fun _ => false)) ⟨awake06_fn, few06_fn, rndP_fn, rndR_fn, trivial⟩ trivial hds he
/-! ### Scaled -/
def sclC : FnC := fun ds κ => match ds with
  | [.p (.int .i64 n), .p (.int .i64 d), .p (.bool s), .r .u64 4 xs, .p (.int .i64 e)] => cond (decide ((1 ≤ n ∧ n ≤ 6) ∧ (0 ≤ d ∧ d ≤ 4)))
      (κ [(.mine, .r .u64 4 (wordsN 4 (rnd n d s (val xs) 1 e).1)), (.mine, .p (.int .i64 (rnd n d s (val xs) 1 e).2)), (.mine, .p (.int .i64 0))])
      (κ [(.mine, .r .u64 4 (wordsN 4 0)), (.mine, .p (.int .i64 0)), (.mine, .p (.int .i64 1))])
  | _ => none
theorem sclK {n d : Int} {s : Bool} {xs : List Int} {e : Int} (hx : inR .u64 xs) (hl : xs.length = 4) (one : List Int) (h1 : val one = 1) (hl1 : one.length = 1) (k : List Int → Int → Int → R) :
    rndK n d s xs one e k = cond (decide ((1 ≤ n ∧ n ≤ 6) ∧ (0 ≤ d ∧ d ≤ 4))) (k (wordsN 4 (rnd n d s (val xs) 1 e).1) (rnd n d s (val xs) 1 e).2 0) (k (wordsN 4 0) 0 1) := by
  have w1 := wlen_val hx
  have w2 : wlen 1 = 1 := by decide
  unfold rndK
  rw [h1, decide_eq_true (show xs.length ≤ 1000000 ∧ one.length ≤ 1000000 by omega), cond_true, decide_eq_false (show ¬ (wlen (val xs) > 800 ∨ wlen 1 > 800) by omega), cond_false]
  congr 1
  exact decide_eq_decide.2 ⟨fun h => ⟨h.1, h.2.1⟩, fun h => ⟨h.1, h.2, by decide⟩⟩
abbrev sclPC := sclC
def sclPE : Env := mkE ty [(46, nOfC), (17, rndPC)] [] [] [] 0 (fun _ => false)
theorem sclP_ev (n d e : Int) (s : Bool) (xs : List Int) : evFn sclPE Try.f26 [.p (.int .i64 n), .p (.int .i64 d), .p (.bool s), .r .u64 4 xs, .p (.int .i64 e)] =
    rndK n d s xs (words (1 : Int).toNat) e fun b f k => some [(.mine, .r .u64 4 b), (.mine, .p (.int .i64 f)), (.mine, .p (.int .i64 k))] := by kernel_rfl
theorem sclP_he : ∀ ds κ r, (∀ d ∈ ds, d.wf) → sclPC ds κ = some r → ∃ res, κ res = some r ∧ evFn sclPE Try.f26 ds = some res := fun ds κ r hw h => by
  unfold sclPC sclC at h
  split at h
  case h_2 => cases h
  rename_i n d s xs e
  obtain ⟨hl, hx⟩ := wfR hw (xs := xs) (n := 4) (by simp)
  rw [sclP_ev, show (1 : Int).toNat = 1 from rfl, sclK hx hl _ (val_words _) (by rw [length_words]; decide)]
  cases hc : decide ((1 ≤ n ∧ n ≤ 6) ∧ (0 ≤ d ∧ d ≤ 4)) <;> rw [hc] at h <;> exact ⟨_, h, rfl⟩
theorem sclP_fn : FnOK Try.prog 26 sclPC := fnOK_mk T mixed Try.func26 (by kernel_rfl) (fns := [(46, nOfC), (17, rndPC)]) (lps := []) (live := []) (out := []) (fuel := 0) (give := (fun _ => false)) ⟨nOf_fn, rndP_fn, trivial⟩ trivial sclP_he
abbrev sclRC := sclC
def sclRE : Env := mkE ty [(18, rndRC)] [] [] [] 0 (fun _ => false)
theorem sclR_ev (n d e : Int) (s : Bool) (xs : List Int) : evFn sclRE Try.f27 [.p (.int .i64 n), .p (.int .i64 d), .p (.bool s), .r .u64 4 xs, .p (.int .i64 e)] =
    rndK n d s xs [1] e fun b f k => some [(.mine, .r .u64 4 b), (.mine, .p (.int .i64 f)), (.mine, .p (.int .i64 k))] := by kernel_rfl
theorem sclR_he : ∀ ds κ r, (∀ d ∈ ds, d.wf) → sclRC ds κ = some r → ∃ res, κ res = some r ∧ evFn sclRE Try.f27 ds = some res := fun ds κ r hw h => by
  unfold sclRC sclC at h
  split at h
  case h_2 => cases h
  rename_i n d s xs e
  obtain ⟨hl, hx⟩ := wfR hw (xs := xs) (n := 4) (by simp)
  rw [sclR_ev, sclK hx hl [1] rfl rfl]
  cases hc : decide ((1 ≤ n ∧ n ≤ 6) ∧ (0 ≤ d ∧ d ≤ 4)) <;> rw [hc] at h <;> exact ⟨_, h, rfl⟩
theorem sclR_fn : FnOK Try.prog 27 sclRC := fnOK_mk T mixed Try.func27 (by kernel_rfl) (fns := [(18, rndRC)]) (lps := []) (live := []) (out := []) (fuel := 0) (give := (fun _ => false)) ⟨rndR_fn, trivial⟩ trivial sclR_he
def rscaledE : Env := mkE ty [(15, awake06C), (26, sclPC), (27, sclRC)] [] [] [] 0 (fun _ => false)
def sclT2 (n d : Int) (s : Bool) (xs : List Int) (e : Int) (k : List Int → Int → Int → R) : R := cond (decide ((1 ≤ n ∧ n ≤ 6) ∧ (0 ≤ d ∧ d ≤ 4))) (k (wordsN 4 (rnd n d s (val xs) 1 e).1) (rnd n d s (val xs) 1 e).2 0) (k (wordsN 4 0) 0 1)
theorem rscaled_ev (n d e : Int) (s : Bool) (xs : List Int) : evFn rscaledE Try.f7 [.p (.int .i64 n), .p (.int .i64 d), .p (.bool s), .r .u64 4 xs, .p (.int .i64 e)] =
    sclT2 n d s xs e fun b f k => sclT2 n d s xs e fun b' f' k' => cond (decide (b = b')) (cond (f == f') (rb (k == k')) (rb false)) (rb false) := by kernel_rfl
theorem rscaled_true {w : World} {vs : List Value} (n d : Int) (s : Bool) (xs : List Int) (e : Int) (_ : all2 (DR w) [.p (.int .i64 n), .p (.int .i64 d), .p (.bool s), .r .u64 4 xs, .p (.int .i64 e)] vs) :
    evFn rscaledE Try.f7 [.p (.int .i64 n), .p (.int .i64 d), .p (.bool s), .r .u64 4 xs, .p (.int .i64 e)] = some [(.mine, .p (.bool true))] := by
  rw [rscaled_ev]
  unfold sclT2
  cases decide ((1 ≤ n ∧ n ≤ 6) ∧ (0 ≤ d ∧ d ≤ 4)) <;> simp [rb]
theorem rscaled_call {w : World} {ds : List D} {vs : List Value} {res : List (Own × D)} (hds : all2 (DR w) ds vs) (he : evFn rscaledE Try.f7 ds = some res) : CallTo Try.prog 7 w vs res := call_mk T mixed Try.func7 (by kernel_rfl) (fns := [(15, awake06C), (26, sclPC), (27, sclRC)]) (lps := []) (live := []) (out := []) (fuel := 0) (give := (fun _ => false)) ⟨awake06_fn, sclP_fn, sclR_fn, trivial⟩ trivial hds he
end
end Go.Proofs.Ytdpcokahhleopaa.Vm
