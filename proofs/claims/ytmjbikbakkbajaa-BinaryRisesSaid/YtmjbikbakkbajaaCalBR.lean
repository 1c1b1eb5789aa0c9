/-
  The law BinaryRises, evaluated. No statement is proved here.
-/
import Derived.Test.YtmjbikbakkbajaaCalBA
import Derived.Test.YtmjbikbakkbajaaCalB5
namespace Go.Proofs.Ytmjbikbakkbajaa.Vm
open Go Go.Vm
noncomputable section
set_option linter.unusedVariables false

/-! ### words compared, the last that differ -/
def gtB : List Int → List Int → Bool → Bool
  | x :: xs, y :: ys, z => gtB xs ys (cond (x != y) (decide (x > y)) z)
  | _, _, z => z
def gtR : List Int → List Int → (Bool → R) → Bool → R
  | x :: xs, y :: ys, κ, z => cond (x != y) (gtR xs ys κ (decide (x > y))) (gtR xs ys κ z)
  | _, _, κ, z => κ z
theorem gtR_eq (κ : Bool → R) : ∀ (xs ys : List Int) (z : Bool), xs.length = ys.length → gtR xs ys κ z = κ (gtB xs ys z)
  | [], [], _, _ => rfl
  | x :: xs, y :: ys, z, h => by
    unfold gtR gtB
    rw [gtR_eq κ xs ys _ (by simpa using h), gtR_eq κ xs ys _ (by simpa using h)]
    cases (x != y) <;> rfl
theorem gtB_eq : ∀ {xs ys : List Int} {z : Bool}, inR .u64 xs → inR .u64 ys → xs.length = ys.length → gtB xs ys z = cond (val xs == val ys) z (decide (val xs > val ys))
  | [], [], z, _, _, _ => rfl
  | x :: xs, y :: ys, z, hx, hy, hl => by
    obtain ⟨⟨x0, x1⟩, hx2⟩ := inR_cons hx
    obtain ⟨⟨y0, y1⟩, hy2⟩ := inR_cons hy
    unfold gtB
    rw [gtB_eq hx2 hy2 (by simpa using hl)]
    have e1 : val (x :: xs) = x.toNat + 18446744073709551616 * val xs := rfl
    have e2 : val (y :: ys) = y.toNat + 18446744073709551616 * val ys := rfl
    rw [e1, e2]
    generalize val xs = p
    generalize val ys = q
    by_cases h : p = q
    · subst h
      rw [beq_self_eq_true, cond_true]
      by_cases h2 : x = y
      · subst h2
        rw [beq_self_eq_true, cond_true, bne_self_eq_false, cond_false]
      · rw [bne_iff_ne.2 h2, cond_true, show (x.toNat + 18446744073709551616 * p == y.toNat + 18446744073709551616 * p) = false from beq_eq_false_iff_ne.2 (by omega), cond_false]
        exact decide_eq_decide.2 (by omega)
    · rw [beq_eq_false_iff_ne.2 h, cond_false, show (x.toNat + 18446744073709551616 * p == y.toNat + 18446744073709551616 * q) = false from beq_eq_false_iff_ne.2 (by omega), cond_false]
      exact decide_eq_decide.2 (by omega)
theorem gtB_false {xs ys : List Int} (hx : inR .u64 xs) (hy : inR .u64 ys) (hl : xs.length = ys.length) : gtB xs ys false = decide (val xs > val ys) := by
  rw [gtB_eq hx hy hl]
  by_cases h : val xs = val ys
  · rw [h, beq_self_eq_true, cond_true, decide_eq_false (Nat.lt_irrefl _)]
  · rw [beq_eq_false_iff_ne.2 h, cond_false]

/-! ### the law -/
theorem lex_gt {t t' k k' P : Nat} (h : t < P) (h' : t' < P) : t + k * P > t' + k' * P ↔ k > k' ∨ (k = k' ∧ t > t') := by
  rcases Nat.lt_trichotomy k k' with g | g | g
  · have : (k + 1) * P ≤ k' * P := Nat.mul_le_mul_right _ g
    rw [Nat.add_mul, Nat.one_mul] at this
    omega
  · subst g
    omega
  · have : (k' + 1) * P ≤ k * P := Nat.mul_le_mul_right _ g
    rw [Nat.add_mul, Nat.one_mul] at this
    omega
/-- Patterns of one sign stand in the order of what they hold. -/
theorem rises_plain {m e : Nat} {emin : Int} {B C : Nat} (hB : B < 2 ^ (m + e + 1)) (hC : C < 2 ^ (m + e + 1)) (h3 : uC m e B ≠ 3) (h3' : uC m e C ≠ 3) (hs : uS m e B = uS m e C) :
    decide (B > C) = cond (uC m e B != uC m e C) (decide (uC m e B > uC m e C)) (cond (uE m e emin B != uE m e emin C) (decide (uE m e emin B > uE m e emin C)) (decide (uF m e B > uF m e C))) := by
  have b1 := field_all hB
  have c1 := field_all hC
  have b2 : B % 2 ^ m < 2 ^ m := Nat.mod_lt _ (Nat.two_pow_pos _)
  have c2 : C % 2 ^ m < 2 ^ m := Nat.mod_lt _ (Nat.two_pow_pos _)
  have b3 : B / 2 ^ m % 2 ^ e < 2 ^ e := Nat.mod_lt _ (Nat.two_pow_pos _)
  have c3 : C / 2 ^ m % 2 ^ e < 2 ^ e := Nat.mod_lt _ (Nat.two_pow_pos _)
  have s1 : B / 2 ^ (m + e) % 2 = C / 2 ^ (m + e) % 2 := by
    unfold uS at hs
    rcases Nat.mod_two_eq_zero_or_one (B / 2 ^ (m + e)) with g | g <;> rcases Nat.mod_two_eq_zero_or_one (C / 2 ^ (m + e)) with g' | g' <;> rw [g, g'] at hs ⊢ <;> cases hs
  have key : B > C ↔ B % 2 ^ m + (B / 2 ^ m % 2 ^ e) * 2 ^ m > C % 2 ^ m + (C / 2 ^ m % 2 ^ e) * 2 ^ m := by
    rw [s1] at b1
    omega
  rw [lex_gt b2 c2] at key
  unfold uC uE uF at *
  unfold uN uX uT at *
  generalize B % 2 ^ m = t at *
  generalize C % 2 ^ m = t' at *
  generalize B / 2 ^ m % 2 ^ e = k at *
  generalize C / 2 ^ m % 2 ^ e = k' at *
  generalize 2 ^ m = P at *
  generalize 2 ^ e = Q at *
  clear b1 c1 hs s1 hB hC
  by_cases hk : k < Q - 1
  · rw [decide_eq_true hk, cond_true, cond_true, cond_true] at *
    by_cases hk' : k' < Q - 1
    · rw [decide_eq_true hk', cond_true, cond_true, cond_true] at *
      rw [bne_self_eq_false, cond_false]
      by_cases g : k - 1 = k' - 1
      · rw [g, bne_self_eq_false, cond_false]
        refine decide_eq_decide.2 (key.trans ?_)
        by_cases k0 : 0 < k
        · rw [decide_eq_true k0, cond_true]
          by_cases k0' : 0 < k'
          · rw [decide_eq_true k0', cond_true]; omega
          · rw [decide_eq_false k0', cond_false]; omega
        · rw [decide_eq_false k0, cond_false]
          by_cases k0' : 0 < k'
          · rw [decide_eq_true k0', cond_true]; omega
          · rw [decide_eq_false k0', cond_false]; omega
      · rw [bne_iff_ne.2 (show emin + ((k - 1 : Nat) : Int) ≠ emin + ((k' - 1 : Nat) : Int) by omega), cond_true]
        exact decide_eq_decide.2 (key.trans (by omega))
    · rw [decide_eq_false hk', cond_false, cond_false, cond_false] at *
      cases hz : (t' == 0) <;> rw [hz] at h3'
      · exact absurd rfl h3'
      · rw [cond_true, show ((1 : Int) != 2) = true from rfl, cond_true]
        exact decide_eq_decide.2 (key.trans (by omega))
  · rw [decide_eq_false hk, cond_false, cond_false, cond_false] at *
    cases hy : (t == 0) <;> rw [hy] at h3
    · exact absurd rfl h3
    · by_cases hk' : k' < Q - 1
      · rw [decide_eq_true hk', cond_true, cond_true, cond_true, cond_true, show ((2 : Int) != 1) = true from rfl, cond_true]
        exact decide_eq_decide.2 (key.trans (by omega))
      · rw [decide_eq_false hk', cond_false, cond_false, cond_false] at *
        cases hz : (t' == 0) <;> rw [hz] at h3'
        · exact absurd rfl h3'
        · have y0 := beq_iff_eq.1 hy
          have z0 := beq_iff_eq.1 hz
          subst y0 z0
          rw [cond_true, bne_self_eq_false, cond_false, bne_self_eq_false, cond_false, Nat.zero_mod]
          exact decide_eq_decide.2 (key.trans (by omega))
theorem take_gt {b c : List Int} {i : Nat} (hb : inR .u64 b) (hc : inR .u64 c) (h1 : i < b.length) (h2 : i < c.length) : decide (val (b.take (i + 1)) > val (c.take (i + 1))) =
    cond (b.getD i 0 != c.getD i 0) (decide (b.getD i 0 > c.getD i 0)) (decide (val (b.take i) > val (c.take i))) := by
  rw [val_take_succ h1, val_take_succ h2]
  have l1 := val_lt (inR_take hb i)
  have l2 := val_lt (inR_take hc i)
  rw [List.length_take, Nat.min_eq_left (by omega)] at l1 l2
  have a1 := inR_at hb i
  have a2 := inR_at hc i
  generalize b.getD i 0 = x at *
  generalize c.getD i 0 = y at *
  generalize val (b.take i) = p at *
  generalize val (c.take i) = q at *
  generalize 18446744073709551616 ^ i = P at *
  have key := lex_gt (k := x.toNat) (k' := y.toNat) l1 l2
  by_cases h : x = y
  · subst h
    rw [bne_self_eq_false, cond_false]
    exact decide_eq_decide.2 (by omega)
  · rw [bne_iff_ne.2 h, cond_true]
    exact decide_eq_decide.2 (by
      rw [Nat.mul_comm x.toNat, Nat.mul_comm y.toNat] at key
      exact key.trans (by omega))
def riseL : LpC := lpC 117 [4, 5, 7, 9, 11, 12, 52] fun vs m κ => match vs, m with
  | [.o (.a 0 0), .o (.a 1 0), .o (.a 2 0), .o (.a 3 0), .o (.p (.bool false)), .o (.p (.bool t)), .o (.p (.int .i64 0))], [(.mine, .w .u64 4 b), (.mine, .w .u64 4 c), (.mine, .c D), (.mine, .c E)] =>
    κ (.exit 0) (lay 117 [7, 9, 11, 12] [.o (.a 0 0), .o (.a 1 0), .o (.p (.bool (decide (val b > val c)))), .o (.p (.bool t))]) [(.mine, .c D), (.mine, .c E)]
  | _, _ => none
def riseM : LpC := lpC 117 [7, 9, 11, 12, 70] fun vs m κ => match vs, m with
  | [.o (.a 0 0), .o (.a 1 0), .o (.p (.bool A)), .o (.p (.bool false)), .o (.p (.int .i64 0))], [(.mine, .c [.int .i64 c, .bool s, .bool q, .int .i64 x, .int .u64 u0, .int .u64 u1, .int .u64 u2, .int .u64 u3]), (.mine, .c [.int .i64 c', .bool s', .bool q', .int .i64 x', .int .u64 v0, .int .u64 v1, .int .u64 v2, .int .u64 v3])] =>
    κ (.exit 3) (lay 117 [11, 12] [.o (.p (.bool A)), .o (.p (.bool (gtB [u0, u1, u2, u3] [v0, v1, v2, v3] false)))]) []
  | _, _ => none
def risesE : Env := mkE ty [(64, awake05C), (65, bUnpackC)] [(0, riseL), (3, riseM)] [(0, [4, 5, 7, 9, 11, 12, 52]), (3, [7, 9, 11, 12, 70])] [(0, [7, 9, 11, 12]), (3, [11, 12])] 5 (fun _ => false)
def riseSt (a t : Bool) (i : Int) : List V := lay 117 [4, 5, 7, 9, 11, 12, 52] [.o (.a 0 0), .o (.a 1 0), .o (.a 2 0), .o (.a 3 0), .o (.p (.bool a)), .o (.p (.bool t)), .o (.p (.int .i64 i))]
theorem rise_round (a t : Bool) (i : Int) (b c : List Int) (D E : List Value) (k : Nat) (κ : X → List V → Mem → R) : lx risesE Try.f12 0 (k + 1) (riseSt a t i) [(.mine, .w .u64 4 b), (.mine, .w .u64 4 c), (.mine, .c D), (.mine, .c E)] κ =
    cond (decide (i < 4)) (cond (decide (0 ≤ i ∧ i < ((4 : Nat) : Int))) (cond (decide (0 + i.toNat < 4)) (cond (decide (0 ≤ i ∧ i < ((4 : Nat) : Int))) (cond (decide (0 + i.toNat < 4))
      (cond (b.getD (0 + i.toNat) 0 != c.getD (0 + i.toNat) 0)
        (cond (decide (0 ≤ i ∧ i < ((4 : Nat) : Int))) (cond (decide (0 + i.toNat < 4)) (cond (decide (0 ≤ i ∧ i < ((4 : Nat) : Int))) (cond (decide (0 + i.toNat < 4))
          (lx risesE Try.f12 0 k (riseSt (decide (b.getD (0 + i.toNat) 0 > c.getD (0 + i.toNat) 0)) t (IntKind.i64.wrap (i + 1))) [(.mine, .w .u64 4 b), (.mine, .w .u64 4 c), (.mine, .c D), (.mine, .c E)] κ) none) none) none) none)
        (lx risesE Try.f12 0 k (riseSt a t (IntKind.i64.wrap (i + 1))) [(.mine, .w .u64 4 b), (.mine, .w .u64 4 c), (.mine, .c D), (.mine, .c E)] κ)) none) none) none) none)
      (κ (.exit 0) (lay 117 [7, 9, 11, 12] [.o (.a 0 0), .o (.a 1 0), .o (.p (.bool a)), .o (.p (.bool t))]) [(.mine, .c D), (.mine, .c E)]) := by kernel_rfl
theorem rise_run {b c : List Int} (hb : inR .u64 b) (hc : inR .u64 c) (lb : b.length = 4) (lc : c.length = 4) (t : Bool) (D E : List Value) (κ : X → List V → Mem → R) : ∀ (j i : Nat), i + j = 4 →
    lx risesE Try.f12 0 (j + 1) (riseSt (decide (val (b.take i) > val (c.take i))) t i) [(.mine, .w .u64 4 b), (.mine, .w .u64 4 c), (.mine, .c D), (.mine, .c E)] κ =
      κ (.exit 0) (lay 117 [7, 9, 11, 12] [.o (.a 0 0), .o (.a 1 0), .o (.p (.bool (decide (val b > val c)))), .o (.p (.bool t))]) [(.mine, .c D), (.mine, .c E)] := by
  intro j
  induction j with
  | zero =>
    intro i hi
    rw [rise_round, decide_eq_false (by omega), cond_false, List.take_of_length_le (by omega), List.take_of_length_le (by omega)]
  | succ j ih =>
    intro i hi
    have e1 : 0 + (i : Int).toNat = i := by omega
    have e2 : IntKind.i64.wrap ((i : Int) + 1) = ((i + 1 : Nat) : Int) := by rw [i64_wrap (by omega) (by omega)]; rfl
    have next := ih (i + 1) (by omega)
    rw [take_gt hb hc (by omega) (by omega)] at next
    rw [rise_round, e1, e2, decide_eq_true (show (i : Int) < 4 by omega), decide_eq_true (show (0 : Int) ≤ i ∧ (i : Int) < ((4 : Nat) : Int) by omega), decide_eq_true (show i < 4 by omega), cond_true, cond_true, cond_true, cond_true]
    cases hn : (b.getD i 0 != c.getD i 0) <;> rw [hn] at next <;> exact next
theorem riseL_ok : LoopOK risesE 0 (lbody Try.f12 0) riseL := loopOK_lx fun vs m κ r hv hm h => by
  split at h
  case h_2 => cases h
  rename_i t b c D E
  obtain ⟨lb, _, hb⟩ := hm 0 _ _ rfl
  obtain ⟨lc, _, hc⟩ := hm 1 _ _ rfl
  exact ⟨_, (rise_run hb hc lb lc t D E κ 4 0 rfl).trans h⟩
theorem riseM_ev (c c' x x' u0 u1 u2 u3 v0 v1 v2 v3 : Int) (s s' q q' A : Bool) (κ : X → List V → Mem → R) :
    lx risesE Try.f12 3 5 (lay 117 [7, 9, 11, 12, 70] [.o (.a 0 0), .o (.a 1 0), .o (.p (.bool A)), .o (.p (.bool false)), .o (.p (.int .i64 0))]) [(.mine, .c [.int .i64 c, .bool s, .bool q, .int .i64 x, .int .u64 u0, .int .u64 u1, .int .u64 u2, .int .u64 u3]), (.mine, .c [.int .i64 c', .bool s', .bool q', .int .i64 x', .int .u64 v0, .int .u64 v1, .int .u64 v2, .int .u64 v3])] κ =
      gtR [u0, u1, u2, u3] [v0, v1, v2, v3] (fun z => κ (.exit 3) (lay 117 [11, 12] [.o (.p (.bool A)), .o (.p (.bool z))]) []) false := by kernel_rfl
theorem riseM_ok : LoopOK risesE 3 (lbody Try.f12 3) riseM := loopOK_lx fun vs m κ r hv hm h => by
  split at h
  case h_2 => cases h
  refine ⟨5, ?_⟩
  rw [riseM_ev, gtR_eq _ _ _ _ (by rfl)]
  exact h
def risesT (n : Int) (B C : Nat) : R :=
  cond (uC (mN n) (eN n) B == 3) (rb true) (cond (uC (mN n) (eN n) C == 3) (rb true) (cond (uS (mN n) (eN n) B != uS (mN n) (eN n) C) (rb true)
    (cond (uC (mN n) (eN n) B != uC (mN n) (eN n) C) (rb (decide (B > C) == decide (uC (mN n) (eN n) B > uC (mN n) (eN n) C)))
      (cond (uE (mN n) (eN n) (eminI n) B != uE (mN n) (eN n) (eminI n) C) (rb (decide (B > C) == decide (uE (mN n) (eN n) (eminI n) B > uE (mN n) (eN n) (eminI n) C)))
        (rb (decide (B > C) == gtB (wordsN 4 (uF (mN n) (eN n) B)) (wordsN 4 (uF (mN n) (eN n) C)) false))))))
theorem rises_ev (n : Int) (b c : List Int) : evFn risesE Try.f12 [.p (.int .i64 n), .r .u64 4 b, .r .u64 4 c] =
    cond (decide (1 ≤ n ∧ n ≤ 6))
      (cond (decide (((bitlen (val b) : Nat) : Int) ≤ widthI n))
        (cond (decide (1 ≤ n ∧ n ≤ 6)) (cond (decide (((bitlen (val c) : Nat) : Int) ≤ widthI n)) (risesT n (val b) (val c)) (rb true)) (rb true))
        (cond (decide (1 ≤ n ∧ n ≤ 6)) (cond (decide (((bitlen (val c) : Nat) : Int) ≤ widthI n)) (rb true) (rb true)) (rb true)))
      (cond (decide (1 ≤ n ∧ n ≤ 6)) (cond (decide (((bitlen (val c) : Nat) : Int) ≤ widthI n)) (rb true) (rb true)) (rb true)) := by kernel_rfl
theorem rises_true {w : World} {vs : List Value} (n : Int) (b c : List Int) (_ : all2 (DR w) [.p (.int .i64 n), .r .u64 4 b, .r .u64 4 c] vs) :
    evFn risesE Try.f12 [.p (.int .i64 n), .r .u64 4 b, .r .u64 4 c] = some [(.mine, .p (.bool true))] := by
  rw [rises_ev]
  by_cases h6 : 1 ≤ n ∧ n ≤ 6
  · rw [decide_eq_true h6, cond_true, cond_true]
    obtain ⟨f1, f2, f3, f4, f5, f6, f7, f8, f9, f10, f11, f12⟩ := fmt h6
    by_cases hk : ((bitlen (val b) : Nat) : Int) ≤ widthI n
    · rw [decide_eq_true hk, cond_true]
      by_cases hk' : ((bitlen (val c) : Nat) : Int) ≤ widthI n
      · rw [decide_eq_true hk', cond_true]
        have h1 : val b < 2 ^ (mN n + eN n + 1) := (bitlen_le_iff _ _).1 (by omega)
        have h2 : val c < 2 ^ (mN n + eN n + 1) := (bitlen_le_iff _ _).1 (by omega)
        unfold risesT
        rw [gtB_false (inR_wordsN _ _) (inR_wordsN _ _) (by rw [length_wordsN, length_wordsN]), lo4 (uF_lt (by omega)), lo4 (uF_lt (by omega))]
        cases g1 : (uC (mN n) (eN n) (val b) == 3)
        case true => rfl
        cases g2 : (uC (mN n) (eN n) (val c) == 3)
        case true => rfl
        cases g3 : (uS (mN n) (eN n) (val b) != uS (mN n) (eN n) (val c))
        case true => rfl
        rw [cond_false, cond_false, cond_false]
        have key := rises_plain (emin := eminI n) h1 h2 (beq_eq_false_iff_ne.1 g1) (beq_eq_false_iff_ne.1 g2) (by simpa using g3)
        rw [key]
        cases (uC (mN n) (eN n) (val b) != uC (mN n) (eN n) (val c))
        · rw [cond_false, cond_false]
          cases (uE (mN n) (eN n) (eminI n) (val b) != uE (mN n) (eN n) (eminI n) (val c))
          · rw [cond_false, cond_false, beq_self_eq_true]; rfl
          · rw [cond_true, cond_true, beq_self_eq_true]; rfl
        · rw [cond_true, cond_true, beq_self_eq_true]; rfl
      · rw [decide_eq_false hk']; rfl
    · rw [decide_eq_false hk, cond_false]
      cases decide (((bitlen (val c) : Nat) : Int) ≤ widthI n) <;> rfl
  · rw [decide_eq_false h6]; rfl
theorem rises_call {w : World} {ds : List D} {vs : List Value} {res : List (Own × D)} (hds : all2 (DR w) ds vs) (he : evFn risesE Try.f12 ds = some res) : CallTo Try.prog 12 w vs res := call_mk T mixed Try.func12 (by kernel_rfl) (fns := [(64, awake05C), (65, bUnpackC)]) (lps := [(0, riseL), (3, riseM)]) (live := [(0, [4, 5, 7, 9, 11, 12, 52]), (3, [7, 9, 11, 12, 70])]) (out := [(0, [7, 9, 11, 12]), (3, [11, 12])]) (fuel := 5) (give := (fun _ => false)) ⟨awake05_fn, bUnpack_fn, trivial⟩ ⟨riseL_ok, riseM_ok, trivial⟩ hds he
end
end Go.Proofs.Ytmjbikbakkbajaa.Vm
