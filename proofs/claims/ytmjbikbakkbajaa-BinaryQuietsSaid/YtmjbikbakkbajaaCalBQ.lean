/-
  The law BinaryQuiets, evaluated. No statement is proved here.
-/
import Derived.Test.YtmjbikbakkbajaaCalC2
import Derived.Test.YtmjbikbakkbajaaCalC3
import Derived.Test.YtmjbikbakkbajaaCalB5
namespace Go.Proofs.Ytmjbikbakkbajaa.Vm
open Go Go.Vm
noncomputable section
set_option linter.unusedVariables false
/-! ### Quiet -/
theorem or_one (Q : Nat) : (Q % 2 = 0 → Q ||| 1 = Q + 1) ∧ (Q % 2 = 1 → Q ||| 1 = Q) := by
  have h1 := Nat.or_div_two_pow (a := Q) (b := 1) (n := 1)
  have h2 := Nat.or_mod_two_pow (a := Q) (b := 1) (n := 1)
  rw [Nat.pow_one, show 1 / 2 = 0 from rfl, Nat.or_zero] at h1
  rw [Nat.pow_one, show 1 % 2 = 1 from rfl] at h2
  constructor
  · intro h
    rw [h, show 0 ||| 1 = 1 from rfl] at h2
    omega
  · intro h
    rw [h, show 1 ||| 1 = 1 from rfl] at h2
    omega
theorem or_bit (B k : Nat) : (B / 2 ^ k % 2 = 0 → B ||| 2 ^ k = B + 2 ^ k) ∧ (B / 2 ^ k % 2 = 1 → B ||| 2 ^ k = B) := by
  have h1 := Nat.or_div_two_pow (a := B) (b := 2 ^ k) (n := k)
  have h2 := Nat.or_mod_two_pow (a := B) (b := 2 ^ k) (n := k)
  have hp := Nat.two_pow_pos k
  rw [Nat.mod_self, Nat.or_zero] at h2
  rw [Nat.div_self hp] at h1
  have h3 := Nat.mod_add_div (B ||| 2 ^ k) (2 ^ k)
  have h4 := Nat.mod_add_div B (2 ^ k)
  have h5 := or_one (B / 2 ^ k)
  rw [h2, h1] at h3
  generalize B / 2 ^ k = Q at *
  generalize 2 ^ k = p at *
  constructor
  · intro h
    rw [h5.1 h, Nat.mul_add] at h3
    omega
  · intro h
    rw [h5.2 h] at h3
    omega
/-- A pattern, quiet. -/
def quietN (n : Int) (B : Nat) : Nat := packN (mN n) (eN n) (eminI n) (uC (mN n) (eN n) B) (uS (mN n) (eN n) B) false (uE (mN n) (eN n) (eminI n) B) (uF (mN n) (eN n) B)
theorem uC_cases (m e B : Nat) : uC m e B = 1 ∨ uC m e B = 2 ∨ uC m e B = 3 := by
  unfold uC
  cases uN m e B
  · cases (uT m B == 0)
    · exact .inr (.inr rfl)
    · exact .inr (.inl rfl)
  · exact .inl rfl
theorem uQ_of (m e B : Nat) (h : uC m e B ≠ 3) : uQ m e B = false := by
  unfold uC at h
  unfold uQ
  cases hN : uN m e B <;> rw [hN] at h
  · cases hT : (uT m B == 0) <;> rw [hT] at h
    · exact absurd rfl h
    · rfl
  · rfl
theorem uQ_three (m e B : Nat) (h : uC m e B = 3) : uQ m e B = (B / 2 ^ (m - 1) % 2 == 0) := by
  unfold uC at h
  unfold uQ
  cases hN : uN m e B <;> rw [hN] at h
  · cases hT : (uT m B == 0) <;> rw [hT] at h
    · rfl
    · cases h
  · cases h
theorem quiet_is {n : Int} (h : 1 ≤ n ∧ n ≤ 6) (B : Nat) : isN n (uC (mN n) (eN n) B) false (uE (mN n) (eN n) (eminI n) B) (uF (mN n) (eN n) B) = true := by
  have h1 := is_unpack h B
  rw [isN_iff h] at h1 ⊢
  rcases h1 with ⟨a, _, b⟩ | ⟨a, _, b⟩ | ⟨a, b, c, _⟩
  · exact .inl ⟨a, rfl, b⟩
  · exact .inr (.inl ⟨a, rfl, b⟩)
  · exact .inr (.inr ⟨a, b, c, .inr rfl⟩)
theorem quiet_other {n : Int} (h : 1 ≤ n ∧ n ≤ 6) {B : Nat} (hB : B < 2 ^ (mN n + eN n + 1)) (h3 : uC (mN n) (eN n) B ≠ 3) : quietN n B = B := by
  have h1 := pack_unpack h hB
  rw [uQ_of _ _ _ h3] at h1
  exact h1
theorem quiet_three {n : Int} (h : 1 ≤ n ∧ n ≤ 6) {B : Nat} (hB : B < 2 ^ (mN n + eN n + 1)) (h3 : uC (mN n) (eN n) B = 3) : quietN n B = B ||| 2 ^ (mN n - 1) := by
  have h1 := pack_unpack h hB
  have h2 := uQ_three _ _ _ h3
  obtain ⟨o1, o2⟩ := or_bit B (mN n - 1)
  unfold quietN
  unfold packN tailN at h1 ⊢
  rw [h3, h2] at h1
  rw [h3]
  rw [show ((3 : Int) == 3) = true from rfl, cond_true] at h1 ⊢
  rw [cond_false]
  rcases Nat.mod_two_eq_zero_or_one (B / 2 ^ (mN n - 1)) with hb | hb
  · rw [hb, show ((0 : Nat) == 0) = true from rfl, cond_true] at h1
    rw [o1 hb]
    omega
  · rw [hb, show ((1 : Nat) == 0) = false from rfl, cond_false] at h1
    rw [o2 hb]
    exact h1
theorem quiet_unpack {n : Int} (h : 1 ≤ n ∧ n ≤ 6) (B : Nat) : quietN n B < 2 ^ (mN n + eN n + 1) ∧ uC (mN n) (eN n) (quietN n B) = uC (mN n) (eN n) B ∧ uS (mN n) (eN n) (quietN n B) = uS (mN n) (eN n) B ∧
    uQ (mN n) (eN n) (quietN n B) = false ∧ uE (mN n) (eN n) (eminI n) (quietN n B) = uE (mN n) (eN n) (eminI n) B ∧ uF (mN n) (eN n) (quietN n B) = uF (mN n) (eN n) B :=
  unpack_pack h _ (quiet_is h B) rfl
theorem quiet_quiet {n : Int} (h : 1 ≤ n ∧ n ≤ 6) (B : Nat) : quietN n (quietN n B) = quietN n B := by
  obtain ⟨_, h1, h2, _, h4, h5⟩ := quiet_unpack h B
  have e : quietN n (quietN n B) = packN (mN n) (eN n) (eminI n) (uC (mN n) (eN n) (quietN n B)) (uS (mN n) (eN n) (quietN n B)) false (uE (mN n) (eN n) (eminI n) (quietN n B)) (uF (mN n) (eN n) (quietN n B)) := rfl
  rw [e, h1, h2, h4, h5]
  rfl
def quietC : FnC := fun ds κ => match ds with
  | [.p (.int .i64 n), .r .u64 4 b] => cond (decide (1 ≤ n ∧ n ≤ 6)) (cond (decide (((bitlen (val b) : Nat) : Int) ≤ widthI n)) (κ [(.mine, .r .u64 4 (wordsN 4 (quietN n (val b)))), (.mine, .p (.int .i64 0))]) (κ [(.mine, .r .u64 4 (wordsN 4 0)), (.mine, .p (.int .i64 1))])) (κ [(.mine, .r .u64 4 (wordsN 4 0)), (.mine, .p (.int .i64 1))])
  | _ => none
abbrev bQuietC := quietC
def bQuietE : Env := mkE ty [(65, bUnpackC), (95, dOfC), (88, bOfC), (87, bLayC)] [] [] [] 0 (fun _ => false)
theorem bQuiet_ev (n : Int) (b : List Int) : evFn bQuietE Try.f67 [.p (.int .i64 n), .r .u64 4 b] =
    cond (decide (1 ≤ n ∧ n ≤ 6)) (cond (decide (((bitlen (val b) : Nat) : Int) ≤ widthI n))
        (cond (uC (mN n) (eN n) (val b) != 3) (some [(.mine, .r .u64 4 b), (.mine, .p (.int .i64 0))])
          (cond (decide (1 ≤ n ∧ n ≤ 12)) (some [(.mine, .r .u64 4 (wordsN 4 (val b ||| val (wordsN 4 (1 : Int).toNat) * 2 ^ (IntKind.i64.wrap (precI n - 2)).toNat))), (.mine, .p (.int .i64 0))])
            (some [(.mine, .r .u64 4 (wordsN 4 (val b ||| val (wordsN 4 (1 : Int).toNat) * 2 ^ (IntKind.i64.wrap (0 - 2)).toNat))), (.mine, .p (.int .i64 0))])))
        (some [(.mine, .r .u64 4 (wordsN 4 0)), (.mine, .p (.int .i64 1))])) (some [(.mine, .r .u64 4 (wordsN 4 0)), (.mine, .p (.int .i64 1))]) := by kernel_rfl
theorem bQuiet_he : ∀ ds κ r, (∀ d ∈ ds, d.wf) → bQuietC ds κ = some r → ∃ res, κ res = some r ∧ evFn bQuietE Try.f67 ds = some res := fun ds κ r hw h => by
  unfold bQuietC quietC at h
  split at h
  case h_2 => cases h
  rename_i n b
  obtain ⟨hl, hx⟩ := wfR hw (xs := b) (n := 4) (by simp)
  rw [bQuiet_ev]
  by_cases h6 : 1 ≤ n ∧ n ≤ 6
  · obtain ⟨f1, f2, f3, f4, f5, f6, f7, f8, f9, f10, f11, f12⟩ := fmt h6
    rw [decide_eq_true h6, cond_true] at h ⊢
    by_cases hk : ((bitlen (val b) : Nat) : Int) ≤ widthI n
    · rw [decide_eq_true hk, cond_true] at h ⊢
      have hB : val b < 2 ^ (mN n + eN n + 1) := (bitlen_le_iff _ _).1 (by omega)
      refine ⟨_, h, ?_⟩
      by_cases h3 : uC (mN n) (eN n) (val b) = 3
      · rw [h3, show ((3 : Int) != 3) = false from rfl, cond_false, decide_eq_true (show 1 ≤ n ∧ n ≤ 12 by omega), cond_true, quiet_three h6 hB h3, i64_wrap (by omega) (by omega), show (1 : Int).toNat = 1 from rfl, lo4 one_lt256, Nat.one_mul,
          show (precI n - 2).toNat = mN n - 1 by omega]
      · rw [bne_iff_ne.2 h3, cond_true, quiet_other h6 hB h3, words_val4 hx hl]
    · rw [decide_eq_false hk, cond_false] at h ⊢
      exact ⟨_, h, rfl⟩
  · rw [decide_eq_false h6, cond_false] at h ⊢
    exact ⟨_, h, rfl⟩
theorem bQuiet_fn : FnOK Try.prog 67 bQuietC := fnOK_mk T mixed Try.func67 (by kernel_rfl) (fns := [(65, bUnpackC), (95, dOfC), (88, bOfC), (87, bLayC)]) (lps := []) (live := []) (out := []) (fuel := 0) (give := (fun _ => false)) ⟨bUnpack_fn, dOf_fn, bOf_fn, bLay_fn, trivial⟩ trivial bQuiet_he
abbrev rQuietC := quietC
def rQuietE : Env := mkE ty [(66, rUnpackC), (96, rPackC)] [] [] [] 0 (fun _ => false)
theorem rQuiet_ev (n : Int) (b : List Int) : evFn rQuietE Try.f68 [.p (.int .i64 n), .r .u64 4 b] =
    cond (decide (1 ≤ n ∧ n ≤ 6)) (cond (decide (((bitlen (val b) : Nat) : Int) ≤ widthI n))
        (cond (decide (1 ≤ n ∧ n ≤ 6)) (cond (isN n (uC (mN n) (eN n) (val b)) false (uE (mN n) (eN n) (eminI n) (val b)) (val (wordsN 4 (uF (mN n) (eN n) (val b)))))
          (some [(.mine, .r .u64 4 (wordsN 4 (packN (mN n) (eN n) (eminI n) (uC (mN n) (eN n) (val b)) (uS (mN n) (eN n) (val b)) false (uE (mN n) (eN n) (eminI n) (val b)) (val (wordsN 4 (uF (mN n) (eN n) (val b))))))), (.mine, .p (.int .i64 0))])
          (some [(.mine, .r .u64 4 (wordsN 4 0)), (.mine, .p (.int .i64 3))])) (some [(.mine, .r .u64 4 (wordsN 4 0)), (.mine, .p (.int .i64 1))]))
        (some [(.mine, .r .u64 4 (wordsN 4 0)), (.mine, .p (.int .i64 1))])) (some [(.mine, .r .u64 4 (wordsN 4 0)), (.mine, .p (.int .i64 1))]) := by kernel_rfl
theorem rQuiet_he : ∀ ds κ r, (∀ d ∈ ds, d.wf) → rQuietC ds κ = some r → ∃ res, κ res = some r ∧ evFn rQuietE Try.f68 ds = some res := fun ds κ r hw h => by
  unfold rQuietC quietC at h
  split at h
  case h_2 => cases h
  rename_i n b
  rw [rQuiet_ev]
  by_cases h6 : 1 ≤ n ∧ n ≤ 6
  · obtain ⟨f1, f2, f3, f4, f5, f6, f7, f8, f9, f10, f11, f12⟩ := fmt h6
    rw [decide_eq_true h6, cond_true] at h ⊢
    by_cases hk : ((bitlen (val b) : Nat) : Int) ≤ widthI n
    · rw [decide_eq_true hk, cond_true] at h ⊢
      refine ⟨_, h, ?_⟩
      rw [cond_true, lo4 (uF_lt (by omega)), quiet_is h6, cond_true]
      rfl
    · rw [decide_eq_false hk, cond_false] at h ⊢
      exact ⟨_, h, rfl⟩
  · rw [decide_eq_false h6, cond_false] at h ⊢
    exact ⟨_, h, rfl⟩
theorem rQuiet_fn : FnOK Try.prog 68 rQuietC := fnOK_mk T mixed Try.func68 (by kernel_rfl) (fns := [(66, rUnpackC), (96, rPackC)]) (lps := []) (live := []) (out := []) (fuel := 0) (give := (fun _ => false)) ⟨rUnpack_fn, rPack_fn, trivial⟩ trivial rQuiet_he
/-! ### the law -/
def quietsE : Env := mkE ty [(64, awake05C), (67, bQuietC), (68, rQuietC), (65, bUnpackC)] [] [] [] 0 (fun _ => false)
def qtK (n : Int) (b : List Int) (κ : List Int → Int → R) : R :=
  cond (decide (1 ≤ n ∧ n ≤ 6)) (cond (decide (((bitlen (val b) : Nat) : Int) ≤ widthI n)) (κ (wordsN 4 (quietN n (val b))) 0) (κ (wordsN 4 0) 1)) (κ (wordsN 4 0) 1)
def unK (n : Int) (b : List Int) (κ : Int → Bool → Bool → List Int → R) : R :=
  cond (decide (1 ≤ n ∧ n ≤ 6)) (cond (decide (((bitlen (val b) : Nat) : Int) ≤ widthI n)) (κ (uC (mN n) (eN n) (val b)) (uS (mN n) (eN n) (val b)) (uQ (mN n) (eN n) (val b)) (wordsN 4 (uF (mN n) (eN n) (val b)))) (κ 0 false false [0, 0, 0, 0])) (κ 0 false false [0, 0, 0, 0])
theorem quiets_ev (n : Int) (b : List Int) : evFn quietsE Try.f14 [.p (.int .i64 n), .r .u64 4 b] =
    qtK n b fun q e => qtK n b fun w f => 
      cond (!decide (q = w)) (cond (decide (q = w)) (rb (e == f)) (rb false)) (cond (e != f) (cond (decide (q = w)) (rb (e == f)) (rb false)) (cond (e != 0) (cond (decide (q = w)) (rb (e == f)) (rb false))
        (unK n b fun c s _ F => unK n q fun c' s' q' F' => cond (c != 3) (rb (decide (q = b)))
          (qtK n q fun r _ => cond (c' == 3) (cond (!q') (cond (s' == s) (cond (decide (F' = F)) (rb (decide (r = q))) (rb false)) (rb false)) (rb false)) (rb false))))) := by kernel_rfl
theorem quiets_true {w : World} {vs : List Value} (n : Int) (b : List Int) (hds : all2 (DR w) [.p (.int .i64 n), .r .u64 4 b] vs) : evFn quietsE Try.f14 [.p (.int .i64 n), .r .u64 4 b] = some [(.mine, .p (.bool true))] := by
  have hw := all_wf _ _ hds
  obtain ⟨bl, hb⟩ := wfR hw (xs := b) (n := 4) (by simp)
  rw [quiets_ev]
  unfold qtK unK
  by_cases h6 : 1 ≤ n ∧ n ≤ 6
  · obtain ⟨f1, f2, f3, f4, f5, f6, f7, f8, f9, f10, f11, f12⟩ := fmt h6
    simp only [decide_eq_true h6, cond_true]
    by_cases hk : ((bitlen (val b) : Nat) : Int) ≤ widthI n
    · have hB : val b < 2 ^ (mN n + eN n + 1) := (bitlen_le_iff _ _).1 (by omega)
      obtain ⟨g0, g1, g2, g3, g4, g5⟩ := quiet_unpack h6 (val b)
      have hk2 : ((bitlen (val (wordsN 4 (quietN n (val b)))) : Nat) : Int) ≤ widthI n := by
        rw [lo4 (lt256 g0 (by omega))]
        have := (bitlen_le_iff _ _).2 g0
        omega
      simp only [decide_eq_true hk, cond_true, decide_eq_true hk2]
      rw [lo4 (lt256 g0 (by omega)), g1, g2, g3, g5, quiet_quiet h6]
      by_cases h3 : uC (mN n) (eN n) (val b) = 3
      · rw [h3]
        simp [rb]
      · rw [bne_iff_ne.2 h3, quiet_other h6 hB h3, words_val4 hb bl]
        simp [rb]
    · simp [decide_eq_false hk, rb]
  · simp [decide_eq_false h6, rb]
theorem quiets_call {w : World} {ds : List D} {vs : List Value} {res : List (Own × D)} (hds : all2 (DR w) ds vs) (he : evFn quietsE Try.f14 ds = some res) : CallTo Try.prog 14 w vs res := call_mk T mixed Try.func14 (by kernel_rfl) (fns := [(64, awake05C), (67, bQuietC), (68, rQuietC), (65, bUnpackC)]) (lps := []) (live := []) (out := []) (fuel := 0) (give := (fun _ => false)) ⟨awake05_fn, bQuiet_fn, rQuiet_fn, bUnpack_fn, trivial⟩ trivial hds he
end
end Go.Proofs.Ytmjbikbakkbajaa.Vm
