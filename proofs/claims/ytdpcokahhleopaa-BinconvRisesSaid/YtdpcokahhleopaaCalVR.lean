/-
  The law BinconvRises, evaluated. No statement is proved here.
-/
import Derived.Test.YtdpcokahhleopaaCalVG
namespace Go.Proofs.Ytdpcokahhleopaa.Vm
open Go Go.Vm
noncomputable section
set_option linter.unusedVariables false
def less12E : Env := mkE ty [] [] [(0, [2, 3, 5, 7])] [] 6 (fun _ => false)
theorem less12_ev (a b : List Int) : evFn less12E Try.f36 [.r .u64 4 a, .r .u64 4 b] =
    (cond (a.getD 0 (0 : Int) != b.getD 0 (0 : Int))
     (cond (a.getD 1 (0 : Int) != b.getD 1 (0 : Int))
      (cond (a.getD 2 (0 : Int) != b.getD 2 (0 : Int))
       (cond (a.getD 3 (0 : Int) != b.getD 3 (0 : Int))
        (some [(.mine, .p (.bool (decide (a.getD 3 (0 : Int) < b.getD 3 (0 : Int)))))])
        (some [(.mine, .p (.bool (decide (a.getD 2 (0 : Int) < b.getD 2 (0 : Int)))))]))
       (cond (a.getD 3 (0 : Int) != b.getD 3 (0 : Int))
        (some [(.mine, .p (.bool (decide (a.getD 3 (0 : Int) < b.getD 3 (0 : Int)))))])
        (some [(.mine, .p (.bool (decide (a.getD 1 (0 : Int) < b.getD 1 (0 : Int)))))])))
      (cond (a.getD 2 (0 : Int) != b.getD 2 (0 : Int))
       (cond (a.getD 3 (0 : Int) != b.getD 3 (0 : Int))
        (some [(.mine, .p (.bool (decide (a.getD 3 (0 : Int) < b.getD 3 (0 : Int)))))])
        (some [(.mine, .p (.bool (decide (a.getD 2 (0 : Int) < b.getD 2 (0 : Int)))))]))
       (cond (a.getD 3 (0 : Int) != b.getD 3 (0 : Int))
        (some [(.mine, .p (.bool (decide (a.getD 3 (0 : Int) < b.getD 3 (0 : Int)))))])
        (some [(.mine, .p (.bool (decide (a.getD 0 (0 : Int) < b.getD 0 (0 : Int)))))]))))
     (cond (a.getD 1 (0 : Int) != b.getD 1 (0 : Int))
      (cond (a.getD 2 (0 : Int) != b.getD 2 (0 : Int))
       (cond (a.getD 3 (0 : Int) != b.getD 3 (0 : Int))
        (some [(.mine, .p (.bool (decide (a.getD 3 (0 : Int) < b.getD 3 (0 : Int)))))])
        (some [(.mine, .p (.bool (decide (a.getD 2 (0 : Int) < b.getD 2 (0 : Int)))))]))
       (cond (a.getD 3 (0 : Int) != b.getD 3 (0 : Int))
        (some [(.mine, .p (.bool (decide (a.getD 3 (0 : Int) < b.getD 3 (0 : Int)))))])
        (some [(.mine, .p (.bool (decide (a.getD 1 (0 : Int) < b.getD 1 (0 : Int)))))])))
      (cond (a.getD 2 (0 : Int) != b.getD 2 (0 : Int))
       (cond (a.getD 3 (0 : Int) != b.getD 3 (0 : Int))
        (some [(.mine, .p (.bool (decide (a.getD 3 (0 : Int) < b.getD 3 (0 : Int)))))])
        (some [(.mine, .p (.bool (decide (a.getD 2 (0 : Int) < b.getD 2 (0 : Int)))))]))
       (cond (a.getD 3 (0 : Int) != b.getD 3 (0 : Int))
        (some [(.mine, .p (.bool (decide (a.getD 3 (0 : Int) < b.getD 3 (0 : Int)))))])
        (some [(.mine, .p (.bool (false)))]))))) := by kernel_rfl
def less12C : FnC := fun ds κ => match ds with
  | [.r .u64 4 a, .r .u64 4 b] => κ [(.mine, .p (.bool (decide (val a < val b))))]
  | _ => none
theorem of_four {a : List Int} (h : a.length = 4) : ∃ x0 x1 x2 x3, a = [x0, x1, x2, x3] := by
  rcases a with _ | ⟨x0, _ | ⟨x1, _ | ⟨x2, _ | ⟨x3, _ | ⟨x4, l⟩⟩⟩⟩⟩ <;> simp at h
  exact ⟨_, _, _, _, rfl⟩
theorem lt_words {x y : Int} {p q : Nat} (hx : 0 ≤ x ∧ x < 18446744073709551616) (hy : 0 ≤ y ∧ y < 18446744073709551616) : x.toNat + 18446744073709551616 * p < y.toNat + 18446744073709551616 * q ↔ p < q ∨ (p = q ∧ x < y) := by omega
theorem lt_same {x y : Int} {p q : Nat} (hx : 0 ≤ x ∧ x < 18446744073709551616) (hy : 0 ≤ y ∧ y < 18446744073709551616) : x.toNat + 18446744073709551616 * p = y.toNat + 18446744073709551616 * q ↔ p = q ∧ x = y := by omega
theorem less12_is {a b : List Int} (ha : inR .u64 a) (hb : inR .u64 b) (la : a.length = 4) (lb : b.length = 4) : evFn less12E Try.f36 [.r .u64 4 a, .r .u64 4 b] = some [(.mine, .p (.bool (decide (val a < val b))))] := by
  rw [less12_ev]
  obtain ⟨x0, x1, x2, x3, rfl⟩ := of_four la
  obtain ⟨y0, y1, y2, y3, rfl⟩ := of_four lb
  obtain ⟨a0, ha⟩ := inR_cons ha
  obtain ⟨a1, ha⟩ := inR_cons ha
  obtain ⟨a2, ha⟩ := inR_cons ha
  obtain ⟨a3, ha⟩ := inR_cons ha
  obtain ⟨b0, hb⟩ := inR_cons hb
  obtain ⟨b1, hb⟩ := inR_cons hb
  obtain ⟨b2, hb⟩ := inR_cons hb
  obtain ⟨b3, hb⟩ := inR_cons hb
  have e : (val [x0, x1, x2, x3] < val [y0, y1, y2, y3]) ↔ x3 < y3 ∨ (x3 = y3 ∧ (x2 < y2 ∨ (x2 = y2 ∧ (x1 < y1 ∨ (x1 = y1 ∧ x0 < y0))))) := by
    show x0.toNat + 18446744073709551616 * (x1.toNat + 18446744073709551616 * (x2.toNat + 18446744073709551616 * (x3.toNat + 18446744073709551616 * 0))) < y0.toNat + 18446744073709551616 * (y1.toNat + 18446744073709551616 * (y2.toNat + 18446744073709551616 * (y3.toNat + 18446744073709551616 * 0))) ↔ _
    rw [lt_words a0 b0, lt_words a1 b1, lt_words a2 b2, lt_words a3 b3, lt_same a1 b1, lt_same a2 b2, lt_same a3 b3]
    constructor <;> intro h <;> omega
  have k : ∀ {p q : Prop} [Decidable p] [Decidable q], (p ↔ q) → (some [(Own.mine, D.p (.bool (decide p)))] : R) = some [(Own.mine, D.p (.bool (decide q)))] := fun h => by rw [decide_eq_decide.2 h]
  have g0 : ∀ (p q r s : Int), [p, q, r, s].getD 0 0 = p := fun _ _ _ _ => rfl
  have g1 : ∀ (p q r s : Int), [p, q, r, s].getD 1 0 = q := fun _ _ _ _ => rfl
  have g2 : ∀ (p q r s : Int), [p, q, r, s].getD 2 0 = r := fun _ _ _ _ => rfl
  have g3 : ∀ (p q r s : Int), [p, q, r, s].getD 3 0 = s := fun _ _ _ _ => rfl
  rw [g0, g0, g1, g1, g2, g2, g3, g3]
  refine Eq.trans ?_ (k e.symm)
  clear e g0 g1 g2 g3
  cases z3 : (x3 != y3) <;> cases z2 : (x2 != y2) <;> cases z1 : (x1 != y1) <;> cases z0 : (x0 != y0) <;> simp only [bne_eq_false_iff_eq, bne_iff_ne, ne_eq] at z0 z1 z2 z3 <;> simp only [cond_true, cond_false] <;>
    first
    | (refine k ?_; constructor <;> intro h <;> omega)
    | (show some [(Own.mine, D.p (.bool (decide False)))] = _; refine k ⟨fun h => h.elim, fun h => ?_⟩; omega)
theorem less12_he : ∀ ds κ r, (∀ d ∈ ds, d.wf) → less12C ds κ = some r → ∃ res, κ res = some r ∧ evFn less12E Try.f36 ds = some res := fun ds κ r hw h => by
  unfold less12C at h
  split at h
  case h_2 => cases h
  rename_i a b
  obtain ⟨la, ha⟩ := wfR hw (xs := a) (n := 4) (by simp)
  obtain ⟨lb, hb⟩ := wfR hw (xs := b) (n := 4) (by simp)
  exact ⟨_, h, less12_is ha hb la lb⟩
theorem less12_fn : FnOK Try.prog 36 less12C := fnOK_mk T mixed Try.func36 (by kernel_rfl) (fns := []) (lps := []) (live := [(0, [2, 3, 5, 7])]) (out := []) (fuel := 6) (give := (fun _ => false)) trivial trivial less12_he
def rises12E : Env := mkE ty [(31, awake12C), (34, rGoodC), (19, rBinaryC), (29, rDirC), (28, bUnpackGC), (32, convGC), (36, less12C)] [] [] [] 0 (fun _ => false)
theorem rises12_ev (m n d : Int) (a b : List Int) : evFn rises12E Try.f11 [.p (.int .i64 m), .p (.int .i64 n), .p (.int .i64 d), .r .u64 4 a, .r .u64 4 b] =
    (cond (decide ((1 : Int) ≤ m ∧ m ≤ (6 : Int)))
     (cond (decide ((↑(bitlen (val a)) : Int) ≤ widthI m))
      (cond (decide ((1 : Int) ≤ m ∧ m ≤ (6 : Int)))
       (cond (decide ((↑(bitlen (val b)) : Int) ≤ widthI m))
        (cond (!decide ((1 : Int) ≤ n ∧ n ≤ (6 : Int)))
         (some [(.mine, .p (.bool (true)))])
         (cond (!decide ((0 : Int) ≤ d ∧ d ≤ (4 : Int)))
          (some [(.mine, .p (.bool (true)))])
          (cond (decide (((1 : Int) ≤ m ∧ m ≤ (6 : Int)) ∧ (↑(bitlen (val a)) : Int) ≤ widthI m))
           (cond (decide (((1 : Int) ≤ m ∧ m ≤ (6 : Int)) ∧ (↑(bitlen (val b)) : Int) ≤ widthI m))
            (cond (uC (mN m) (eN m) (val a) == (3 : Int))
             (some [(.mine, .p (.bool (true)))])
             (cond (uC (mN m) (eN m) (val b) == (3 : Int))
              (some [(.mine, .p (.bool (true)))])
              (cond (uS (mN m) (eN m) (val a))
               (some [(.mine, .p (.bool (true)))])
               (cond (uS (mN m) (eN m) (val b))
                (some [(.mine, .p (.bool (true)))])
                (cond (decide
      (((1 : Int) ≤ m ∧ m ≤ (6 : Int)) ∧
        (↑(bitlen (val a)) : Int) ≤ widthI m ∧ ((1 : Int) ≤ n ∧ n ≤ (6 : Int)) ∧ (0 : Int) ≤ d ∧ d ≤ (4 : Int)))
                 (cond (decide
      (((1 : Int) ≤ m ∧ m ≤ (6 : Int)) ∧
        (↑(bitlen (val b)) : Int) ≤ widthI m ∧ ((1 : Int) ≤ n ∧ n ≤ (6 : Int)) ∧ (0 : Int) ≤ d ∧ d ≤ (4 : Int)))
                  (cond (decide (val a < val b))
                   (cond (!decide (val (wordsN 4 (cvB n d m (val b)).1) < val (wordsN 4 (cvB n d m (val a)).1)))
                    (some [(.mine, .p (.bool (true)))])
                    (cond (decide (val b < val a))
                     (cond (!decide (val (wordsN 4 (cvB n d m (val a)).1) < val (wordsN 4 (cvB n d m (val b)).1)))
                      (some [(.mine, .p (.bool (true)))])
                      (cond (decide (a = b))
                       (some [(.mine, .p (.bool (decide (wordsN 4 (cvB n d m (val a)).1 = wordsN 4 (cvB n d m (val b)).1))))])
                       (some [(.mine, .p (.bool (false)))])))
                     (cond (decide (a = b))
                      (some [(.mine, .p (.bool (decide (wordsN 4 (cvB n d m (val a)).1 = wordsN 4 (cvB n d m (val b)).1))))])
                      (some [(.mine, .p (.bool (false)))]))))
                   (cond (decide (val b < val a))
                    (cond (!decide (val (wordsN 4 (cvB n d m (val a)).1) < val (wordsN 4 (cvB n d m (val b)).1)))
                     (some [(.mine, .p (.bool (true)))])
                     (cond (decide (a = b))
                      (some [(.mine, .p (.bool (decide (wordsN 4 (cvB n d m (val a)).1 = wordsN 4 (cvB n d m (val b)).1))))])
                      (some [(.mine, .p (.bool (false)))])))
                    (cond (decide (a = b))
                     (some [(.mine, .p (.bool (decide (wordsN 4 (cvB n d m (val a)).1 = wordsN 4 (cvB n d m (val b)).1))))])
                     (some [(.mine, .p (.bool (false)))]))))
                  none)
                 none)))))
            none)
           none)))
        (some [(.mine, .p (.bool (true)))]))
       (some [(.mine, .p (.bool (true)))]))
      (some [(.mine, .p (.bool (true)))]))
     (some [(.mine, .p (.bool (true)))])) := by kernel_rfl
theorem cv_lt {m n d : Int} (hm : 1 ≤ m ∧ m ≤ 6) (hn : 1 ≤ n ∧ n ≤ 6) (hd : 0 ≤ d ∧ d ≤ 4) (B : Nat) : (cvB n d m B).1 < 2 ^ 256 := by
  have g := fmt hn
  obtain ⟨c', x', F', f, i1, i2, _⟩ := cv_turns hm hn hd B
  rw [i2]
  exact lt256 (unpack_pack hn (uS (mN m) (eN m) B) i1 rfl).1 (by omega)
theorem rises12_true {w : World} {vs : List Value} (m n d : Int) (a b : List Int) (hds : all2 (DR w) [D.p (.int .i64 m), D.p (.int .i64 n), D.p (.int .i64 d), D.r .u64 4 a, D.r .u64 4 b] vs) :
    evFn rises12E Try.f11 [.p (.int .i64 m), .p (.int .i64 n), .p (.int .i64 d), .r .u64 4 a, .r .u64 4 b] = some [(.mine, .p (.bool true))] := by
  have hw := all_wf _ _ hds
  obtain ⟨la, ha⟩ := wfR hw (xs := a) (n := 4) (by simp)
  obtain ⟨lb, hb⟩ := wfR hw (xs := b) (n := 4) (by simp)
  rw [rises12_ev]
  by_cases hm : 1 ≤ m ∧ m ≤ 6
  case neg => rw [decide_eq_false hm, cond_false]
  rw [decide_eq_true hm, cond_true, cond_true]
  by_cases wa : ((bitlen (val a) : Nat) : Int) ≤ widthI m
  case neg => rw [decide_eq_false wa, cond_false]
  rw [decide_eq_true wa, cond_true]
  by_cases wb : ((bitlen (val b) : Nat) : Int) ≤ widthI m
  case neg => rw [decide_eq_false wb, cond_false]
  rw [decide_eq_true wb, cond_true]
  by_cases hn : 1 ≤ n ∧ n ≤ 6
  case neg => rw [decide_eq_false hn, Bool.not_false, cond_true]
  rw [decide_eq_true hn, Bool.not_true, cond_false]
  by_cases hd : 0 ≤ d ∧ d ≤ 4
  case neg => rw [decide_eq_false hd, Bool.not_false, cond_true]
  rw [decide_eq_true hd, Bool.not_true, cond_false, decide_eq_true ⟨hm, wa⟩, cond_true, decide_eq_true ⟨hm, wb⟩, cond_true]
  cases a3 : (uC (mN m) (eN m) (val a) == 3)
  case true => rfl
  cases b3 : (uC (mN m) (eN m) (val b) == 3)
  case true => rfl
  cases sa : uS (mN m) (eN m) (val a)
  case true => rfl
  cases sb : uS (mN m) (eN m) (val b)
  case true => rfl
  rw [cond_false, cond_false, cond_false, cond_false, decide_eq_true ⟨hm, wa, hn, hd⟩, cond_true, decide_eq_true ⟨hm, wb, hn, hd⟩, cond_true, lo4 (cv_lt hm hn hd _), lo4 (cv_lt hm hn hd _)]
  have f := fmt hm
  have hA : val a < 2 ^ (mN m + eN m + 1) := (bitlen_le_iff _ _).1 (by omega)
  have hB : val b < 2 ^ (mN m + eN m + 1) := (bitlen_le_iff _ _).1 (by omega)
  have r1 := fun h => cv_rises (d := d) hm hn hd hA hB (beq_eq_false_iff_ne.1 a3) (beq_eq_false_iff_ne.1 b3) sa sb h
  have r2 := fun h => cv_rises (d := d) hm hn hd hB hA (beq_eq_false_iff_ne.1 b3) (beq_eq_false_iff_ne.1 a3) sb sa h
  rcases Nat.lt_trichotomy (val a) (val b) with h | h | h
  · have := r1 (Nat.le_of_lt h)
    rw [decide_eq_true h, cond_true, decide_eq_false (by omega), Bool.not_false, cond_true]
  · have e : a = b := by rw [← words_val4 ha la, ← words_val4 hb lb, h]
    subst e
    rw [decide_eq_false (Nat.lt_irrefl _), cond_false, cond_false, decide_eq_true rfl, cond_true, decide_eq_true rfl]
  · have := r2 (Nat.le_of_lt h)
    rw [decide_eq_false (by omega), cond_false, decide_eq_true h, cond_true, decide_eq_false (by omega), Bool.not_false, cond_true]
theorem rises12_call {w : World} {ds : List D} {vs : List Value} {res : List (Own × D)} (hds : all2 (DR w) ds vs) (he : evFn rises12E Try.f11 ds = some res) : CallTo Try.prog 11 w vs res := call_mk T mixed Try.func11 (by kernel_rfl) (fns := [(31, awake12C), (34, rGoodC), (19, rBinaryC), (29, rDirC), (28, bUnpackGC), (32, convGC), (36, less12C)]) (lps := []) (live := []) (out := []) (fuel := 0) (give := (fun _ => false)) ⟨awake12_fn, rGood_fn, rBinary_fn, rDir_fn, bUnpackG_fn, convG_fn, less12_fn, trivial⟩ trivial hds he
end
end Go.Proofs.Ytdpcokahhleopaa.Vm
