/-
  Contracts that speak of right arguments alone, and what conversions keep, plain. No statement is proved here.
-/
import Derived.Test.YtdpcokahhleopaaCalV5
import Derived.Test.YtdpcokahhleopaaCalV8
import Derived.Test.YtdpcokahhleopaaCalX
namespace Go.Vm
open Go
/-- A contract that speaks of fewer calls. -/
theorem fnOK_cut {P : Program} {f : FuncId} {F H : List D → (List (Own × D) → R) → R} (h : FnOK P f F) (hw : ∀ ds κ r, H ds κ = some r → F ds κ = some r) : FnOK P f H := fun ds κ r hd hr => h ds κ r hd (hw ds κ r hr)
end Go.Vm
namespace Go.Proofs.Ytdpcokahhleopaa.Vm
open Go Go.Vm
noncomputable section
set_option linter.unusedVariables false
def convGC : FnC := fun ds κ => match ds with
  | [.p (.int .i64 m), .p (.int .i64 n), .p (.int .i64 d), .r .u64 4 b] => cond (decide ((1 ≤ m ∧ m ≤ 6) ∧ ((bitlen (val b) : Nat) : Int) ≤ widthI m ∧ (1 ≤ n ∧ n ≤ 6) ∧ 0 ≤ d ∧ d ≤ 4))
      (κ [(.mine, .r .u64 4 (wordsN 4 (cvB n d m (val b)).1)), (.mine, .p (.int .i64 (cvB n d m (val b)).2)), (.mine, .p (.int .i64 0))]) none
  | _ => none
theorem convG_fn : FnOK Try.prog 32 convGC := fnOK_cut conv_fn fun ds κ r h => by
  unfold convGC at h
  split at h
  case h_2 => cases h
  replace h := cond_none h
  obtain ⟨hc, h⟩ := h
  show cond _ _ _ = some r
  rw [hc]
  exact h
def bUnpackGC : FnC := fun ds κ => match ds with
  | [.p (.int .i64 n), .r .u64 4 b] => cond (decide ((1 ≤ n ∧ n ≤ 6) ∧ ((bitlen (val b) : Nat) : Int) ≤ widthI n)) (κ [(.mine, .g (uDat n (val b))), (.mine, .p (.int .i64 0))]) none
  | _ => none
theorem bUnpackG_fn : FnOK Try.prog 28 bUnpackGC := fnOK_cut bUnpack_fn fun ds κ r h => by
  unfold bUnpackGC at h
  split at h
  case h_2 => cases h
  replace h := cond_none h
  obtain ⟨hc, h⟩ := h
  obtain ⟨h1, h2⟩ := of_decide_eq_true hc
  show cond _ (cond _ _ _) _ = some r
  rw [decide_eq_true h1, decide_eq_true h2]
  exact h
def bPackGC : FnC := fun ds κ => match ds with
  | [.p (.int .i64 n), .g [.int .i64 c, .bool s, .bool q, .int .i64 x, .int .u64 w0, .int .u64 w1, .int .u64 w2, .int .u64 w3]] =>
    cond (decide ((1 ≤ n ∧ n ≤ 6) ∧ isN n c q x (val [w0, w1, w2, w3]) = true)) (κ [(.mine, .r .u64 4 (wordsN 4 (packN (mN n) (eN n) (eminI n) c s q x (val [w0, w1, w2, w3])))), (.mine, .p (.int .i64 0))]) none
  | _ => none
theorem bPackG_fn : FnOK Try.prog 37 bPackGC := fnOK_cut bPack_fn fun ds κ r h => by
  unfold bPackGC at h
  split at h
  case h_2 => cases h
  replace h := cond_none h
  obtain ⟨hc, h⟩ := h
  obtain ⟨h1, h2⟩ := of_decide_eq_true hc
  show cond _ (cond _ _ _) _ = some r
  rw [decide_eq_true h1, h2]
  exact h
/-- The other sign turns Up into Down, and changes nothing but the sign. -/
theorem cv_turns {m n d : Int} (hm : 1 ≤ m ∧ m ≤ 6) (hn : 1 ≤ n ∧ n ≤ 6) (hd : 0 ≤ d ∧ d ≤ 4) (B : Nat) :
    ∃ c' x' F' f, isN n c' false x' F' = true ∧ cvB n d m B = (packN (mN n) (eN n) (eminI n) c' (uS (mN m) (eN m) B) false x' F', f) ∧
      ∀ P, P = packN (mN m) (eN m) (eminI m) (uC (mN m) (eN m) B) (!uS (mN m) (eN m) B) (uQ (mN m) (eN m) B) (uE (mN m) (eN m) (eminI m) B) (uF (mN m) (eN m) B) → cvB n (turnD d) m P = (packN (mN n) (eN n) (eminI n) c' (!uS (mN m) (eN m) B) false x' F', f) := by
  have hi := is_unpack hm B
  obtain ⟨c', x', F', h1, h2⟩ := cv_signed (n := n) (d := cond (uS (mN m) (eN m) B) (turnD d) d) hn (by cases uS (mN m) (eN m) B; exact hd; exact turnD_ok hd) (dat_ok n hm hi).1
  refine ⟨c', x', F', (cvN n (cond (uS (mN m) (eN m) B) (turnD d) d) (uC (mN m) (eN m) B) false (uQ (mN m) (eN m) B) (uE (mN m) (eN m) (eminI m) B) (uF (mN m) (eN m) B)).2, h1, ?_, fun P hP => ?_⟩
  · have := h2 (uS (mN m) (eN m) B)
    unfold cvB
    rw [← this]
    cases uS (mN m) (eN m) B
    · rfl
    · rw [cond_true, cond_true, turn_turn hd]
  · obtain ⟨u1, u2, u3, u4, u5, u6⟩ := unpack_pack hm (!uS (mN m) (eN m) B) hi hP
    have := h2 (!uS (mN m) (eN m) B)
    unfold cvB
    rw [u2, u3, u4, u5, u6, ← this]
    cases uS (mN m) (eN m) B <;> rfl
/-- No number is rounded beyond the infinite one. -/
theorem rnd_le_inf {n d e : Int} (hn : 1 ≤ n ∧ n ≤ 6) (hd : 0 ≤ d ∧ d ≤ 4) (A : Nat) {B : Nat} (hB : 0 < B) : (rnd n d false A B e).1 ≤ infN n false := by
  by_cases hA : A = 0
  · subst hA
    rw [rnd_zero]
    have h1 := pk_val hn (is_zero hn)
    have h2 := inf_val hn
    rw [h1, Int.sub_self]
    simp
  · have hA' : 0 < A := Nat.pos_of_ne_zero hA
    obtain ⟨K, hK⟩ : ∃ K : Nat, emaxI n + precI n ≤ flog 2 A B + e + (K : Int) := ⟨(emaxI n + precI n - flog 2 A B - e).toNat, by omega⟩
    have h1 := rnd_rises (e := e) hn hd hB (show A ≤ A * 2 ^ K from Nat.le_mul_of_pos_right A (Nat.two_pow_pos K))
    have h2 := rnd_move (n := n) (d := d) (e := e) (s := false) hA' hB (K : Int)
    rw [show upP 2 (K : Int) = 2 ^ K by unfold upP; rw [Int.toNat_natCast], show dnP 2 (K : Int) = 1 by unfold dnP; rw [show (-(K : Int)).toNat = 0 by omega, Nat.pow_zero], Nat.mul_one] at h2
    rw [h2, rnd_over (e := e + (K : Int)) hA (by omega)] at h1
    refine Nat.le_trans h1 ?_
    unfold overP
    cases farB d false
    · have := top_val hn
      rw [cond_false]
      omega
    · exact Nat.le_refl _
/-- Of two numbers of one format the greater one's digits, both over the same power. -/
theorem pk_num {m k k' F F' : Nat} (h1 : F < 2 ^ (m + 1)) (h2 : F' < 2 ^ (m + 1)) (h3 : 2 ^ m ≤ F ∨ k = 0) (h4 : 2 ^ m ≤ F' ∨ k' = 0) (h : k * 2 ^ m + F ≤ k' * 2 ^ m + F') : F * 2 ^ k ≤ F' * 2 ^ k' := by
  rw [Nat.pow_succ] at h1 h2
  rcases Nat.lt_trichotomy k k' with g | g | g
  · have h5 : 2 ^ m ≤ F' := by omega
    obtain ⟨j, rfl⟩ : ∃ j, k' = k + 1 + j := ⟨k' - k - 1, by omega⟩
    have e : 2 ^ (k + 1 + j) = 2 * 2 ^ k * 2 ^ j := by rw [Nat.pow_add, Nat.pow_succ, Nat.mul_comm (2 ^ k) 2]
    have a1 : F * 2 ^ k ≤ 2 ^ m * 2 * 2 ^ k := Nat.mul_le_mul_right _ (by omega)
    have a2 : 2 ^ m * (2 * 2 ^ k * 2 ^ j) ≤ F' * (2 * 2 ^ k * 2 ^ j) := Nat.mul_le_mul_right _ h5
    have a3 : 2 ^ m * 2 * 2 ^ k * 1 ≤ 2 ^ m * 2 * 2 ^ k * 2 ^ j := Nat.mul_le_mul_left _ (Nat.two_pow_pos j)
    rw [e]
    calc F * 2 ^ k ≤ 2 ^ m * 2 * 2 ^ k * 1 := by rw [Nat.mul_one]; exact a1
      _ ≤ 2 ^ m * 2 * 2 ^ k * 2 ^ j := a3
      _ = 2 ^ m * (2 * 2 ^ k * 2 ^ j) := by rw [Nat.mul_assoc, Nat.mul_assoc, Nat.mul_assoc]
      _ ≤ _ := a2
  · subst g
    exact Nat.mul_le_mul_right _ (by omega)
  · have h3 : 2 ^ m ≤ F := by omega
    exfalso
    obtain ⟨j, rfl⟩ : ∃ j, k = k' + 1 + j := ⟨k - k' - 1, by omega⟩
    rw [Nat.add_mul, Nat.add_mul, Nat.one_mul] at h
    omega
theorem rnd_down {n d x y : Int} {s : Bool} {F : Nat} (h : y ≤ x) : rnd n d s F 1 x = rnd n d s (F * 2 ^ (x - y).toNat) 1 y := by
  by_cases hF : F = 0
  · subst hF
    rw [Nat.zero_mul, rnd_zero, rnd_zero]
  · have := rnd_move (n := n) (d := d) (e := y) (s := s) (A := F) (B := 1) (by omega) (by decide) (x - y)
    rw [show dnP 2 (x - y) = 1 by unfold dnP; rw [show (-(x - y)).toNat = 0 by omega, Nat.pow_zero], Nat.mul_one, show y + (x - y) = x by omega] at this
    exact this.symm
/-- Of two numbers the greater one is never converted to a less one. -/
theorem cv_rises {m n d : Int} (hm : 1 ≤ m ∧ m ≤ 6) (hn : 1 ≤ n ∧ n ≤ 6) (hd : 0 ≤ d ∧ d ≤ 4) {A B : Nat} (hA : A < 2 ^ (mN m + eN m + 1)) (hB : B < 2 ^ (mN m + eN m + 1)) (a3 : uC (mN m) (eN m) A ≠ 3) (b3 : uC (mN m) (eN m) B ≠ 3)
    (sa : uS (mN m) (eN m) A = false) (sb : uS (mN m) (eN m) B = false) (h : A ≤ B) : (cvB n d m A).1 ≤ (cvB n d m B).1 := by
  have ia := is_unpack hm A
  have ib := is_unpack hm B
  have pa := pack_unpack hm hA
  have pb := pack_unpack hm hB
  unfold cvB
  rw [sa] at pa ⊢
  rw [sb] at pb ⊢
  generalize uC (mN m) (eN m) A = c at *
  generalize uC (mN m) (eN m) B = c' at *
  generalize uQ (mN m) (eN m) A = q at *
  generalize uQ (mN m) (eN m) B = q' at *
  generalize uE (mN m) (eN m) (eminI m) A = x at *
  generalize uE (mN m) (eN m) (eminI m) B = x' at *
  generalize uF (mN m) (eN m) A = F at *
  generalize uF (mN m) (eN m) B = F' at *
  rcases (isN_iff hm).1 ia with ⟨rfl, rfl, e1, e2, e3⟩ | ⟨rfl, rfl, rfl, rfl⟩ | ⟨rfl, _⟩
  · rcases (isN_iff hm).1 ib with ⟨rfl, rfl, g1, g2, g3⟩ | ⟨rfl, rfl, rfl, rfl⟩ | ⟨rfl, _⟩
    · have va : (x - eminI m).toNat * 2 ^ mN m + F = A := (pk_val hm ia).symm.trans pa
      have vb : (x' - eminI m).toNat * 2 ^ mN m + F' = B := (pk_val hm ib).symm.trans pb
      rw [cvN_one, cvN_one, rnd_down e1, rnd_down g1]
      refine rnd_rises hn hd (by decide) ?_
      refine pk_num (m := mN m) ((bitlen_le_iff _ _).1 (by omega)) ((bitlen_le_iff _ _).1 (by omega)) ?_ ?_ (by omega)
      · rcases e3 with e3 | ⟨_, e3⟩
        · exact .inl (bitlen_eq_iff.1 e3).1
        · exact .inr (by omega)
      · rcases g3 with g3 | ⟨_, g3⟩
        · exact .inl (bitlen_eq_iff.1 g3).1
        · exact .inr (by omega)
    · exact rnd_le_inf hn hd F (by decide)
    · exact absurd rfl b3
  · rcases (isN_iff hm).1 ib with ⟨rfl, rfl, g1, g2, g3⟩ | ⟨rfl, rfl, rfl, rfl⟩ | ⟨rfl, _⟩
    · exfalso
      have va : infN m false = A := pa
      have vb : (x' - eminI m).toNat * 2 ^ mN m + F' = B := (pk_val hm ib).symm.trans pb
      rw [inf_val hm] at va
      have l1 : F' < 2 ^ (mN m + 1) := (bitlen_le_iff _ _).1 (by omega)
      have l2 : (x' - eminI m).toNat * 2 ^ mN m ≤ (emaxI m - eminI m).toNat * 2 ^ mN m := Nat.mul_le_mul_right _ (by omega)
      omega
    · exact Nat.le_refl _
    · exact absurd rfl b3
  · exact absurd rfl a3
end
end Go.Proofs.Ytdpcokahhleopaa.Vm
