/-
  Proved: the pure statement of DecletBack, for every integer; no condition.
-/
import Derived.Test.YtmjbikbakkbajaaPDecletBackx1
import Derived.OpenShut
namespace Go.Proofs.Ytmjbikbakkbajaa.Pure
open Go.RowKit Go.Proofs.Ytmjbikbakkbajaa.PDecletBack Go.Proofs.YtmjbikbakkbajaaW.PrintWords Go.Proofs.YtmjbikbakkbajaaW.PrintLast

/-- What the loop asks of one declet: the number that it means lies in range; a canonical one is that number's. -/
def backOk (d : Nat) : Bool :=
  match declet_Decode.f 1 (d : Int) with
  | some (x, e) => e == 0 && decide (0 ≤ x) && decide (x ≤ 999) && (match declet_Canonical.f 1 (d : Int) with
    | some true => (match declet_Encode.f 1 x with | some (c, _) => c == (d : Int) | none => false)
    | some false => true
    | none => false)
  | none => false
def backCan (d : Nat) : Int := if declet_Canonical.f 1 (d : Int) = some true then 1 else 0
def backCount : Nat → Int → Int
  | 0, c => c
  | m + 1, c => backCount m (c + backCan (1023 - m))
theorem back_all_ok : (List.range 1024).all backOk = true := by decide +kernel
theorem back_count : backCount 1024 0 = 1000 := by decide +kernel
def backThere (n : Nat) : Bool :=
  match declet_Encode.f 1 (n : Int) with
  | some (d, e) => e == 0 && (match declet_Decode.f 1 d with | some (x, f) => f == 0 && x == (n : Int) && declet_Canonical.f 1 d == some true | none => false)
  | none => false
theorem back_all_there : (List.range 1000).all backThere = true := by decide +kernel
theorem back_awake : caliperlaw13_awake.f 1 = some true := by decide +kernel
theorem back_nought : declet_Decode.f 1 0 = some (0, 0) := by decide +kernel
theorem dec_one (k : Nat) (d : Int) : declet_Decode.f (k + 1) d = declet_Decode.f 1 d := rfl
theorem enc_one (k : Nat) (d : Int) : declet_Encode.f (k + 1) d = declet_Encode.f 1 d := rfl
theorem can_one (k : Nat) (d : Int) : declet_Canonical.f (k + 1) d = declet_Canonical.f 1 d := rfl
theorem awake_one (k : Nat) : caliperlaw13_awake.f (k + 1) = some true := back_awake
theorem can_range (d : Nat) : 0 ≤ backCan d ∧ backCan d ≤ 1 := by unfold backCan; split <;> omega
/-- One round, with enough rounds left. -/
theorem back_round (k : Nat) (n c : Int) (d : Nat) (hd : d < 1024) (h0 : 0 ≤ c) (h1 : c ≤ 100000) :
    caliperlaw13_DecletBack.l0 (k + 3) n c (d : Int) = caliperlaw13_DecletBack.l0 (k + 1) n (c + backCan d) ((d + 1 : Nat) : Int) := by
  have ho := List.all_eq_true.1 back_all_ok d (List.mem_range.2 hd)
  unfold backOk at ho
  have e1 : wrap64 ((d : Int) + 1) = ((d + 1 : Nat) : Int) := by unfold wrap64; omega
  have e2 : wrap64 (c + 1) = c + 1 := by unfold wrap64; omega
  simp only [caliperlaw13_DecletBack.l0.eq_2 n c (d : Int) (k + 2)]
  rw [if_pos (by omega : (d : Int) < 1024), dec_one]
  revert ho
  cases hq : declet_Decode.f 1 (d : Int) with
  | none => intro ho; cases ho
  | some r =>
    obtain ⟨x, e⟩ := r
    dsimp only
    intro ho
    simp only [Bool.and_eq_true, beq_iff_eq, decide_eq_true_eq] at ho
    obtain ⟨⟨⟨he, hx0⟩, hx1⟩, hc⟩ := ho
    simp only [Option.bind_some]
    rw [if_pos he, if_neg (by omega)]
    have hx2 : decide (x > 999) = false := by simp; omega
    rw [hx2]
    simp only [caliperlaw13_DecletBack.j1]
    rw [if_neg (by decide), can_one, e1, e2]
    revert hc
    cases hk : declet_Canonical.f 1 (d : Int) with
    | none => intro hc; cases hc
    | some b =>
      cases b with
      | false =>
        intro _
        have hb : backCan d = 0 := by unfold backCan; rw [hk]; rfl
        simp only [Option.bind_some]
        rw [if_neg (by decide), hb, Int.add_zero]
      | true =>
        dsimp only
        have hb : backCan d = 1 := by unfold backCan; rw [hk]; rfl
        intro hc
        simp only [Option.bind_some, if_true]
        rw [enc_one, hb]
        revert hc
        cases hz : declet_Encode.f 1 x with
        | none => intro hc; cases hc
        | some q =>
          obtain ⟨q1, q2⟩ := q
          dsimp only
          intro hc
          simp only [beq_iff_eq] at hc
          simp only [Option.bind_some]
          rw [if_pos hc]
theorem back_loop (n : Int) (m : Nat) : ∀ (k : Nat) (c : Int), m ≤ 1024 → 0 ≤ c → c + m ≤ 1024 →
    caliperlaw13_DecletBack.l0 (k + 2 * m + 1) n c ((1024 - m : Nat) : Int) = caliperlaw13_DecletBack.l0 (k + 1) n (backCount m c) 1024 := by
  induction m with
  | zero => intro k c _ _ _; rfl
  | succ m ih =>
    intro k c hm h0 h1
    have hb := can_range (1023 - m)
    rw [show 1024 - (m + 1) = 1023 - m from by omega, show k + 2 * (m + 1) + 1 = (k + 2 * m) + 3 from by omega, back_round _ _ _ _ (by omega) h0 (by omega),
      show 1023 - m + 1 = 1024 - m from by omega, ih k _ (by omega) (by omega) (by omega)]
    rfl
theorem bind_some_eq {α β : Type} (a : α) (f : α → Option β) (x : Option α) (h : x = some a) : x.bind f = f a := by
  subst h
  exact Option.bind_some a f
theorem if_same {α : Type} (b : Bool) (h : b = true) (x y : α) : (if b = true then x else y) = x := if_pos h
theorem back_whole (n : Int) : caliperlaw13_DecletBack.l0 2050 n 0 0 = caliperlaw13_DecletBack.l0 2 n 1000 1024 := by
  have h := back_loop n 1024 1 0 (by decide) (by decide) (by decide)
  rw [back_count] at h
  exact h
theorem enc_low (n : Int) (h : n < 0 ∨ 999 < n) : declet_Encode.f 1 n = some (0, 3) := by
  unfold declet_Encode.f
  by_cases h0 : n < 0
  · rw [if_pos h0]; simp [declet_Encode.j0]
  · rw [if_neg h0]
    have : decide (n > 999) = true := by simp; omega
    rw [this]
    simp [declet_Encode.j0]
theorem DecletBack : caliperlaw13_DecletBack.Pure := by
  intro n _
  refine ⟨2050, ?_⟩
  unfold caliperlaw13_DecletBack.f
  rw [bind_some_eq _ _ _ (awake_one 2049), if_same _ rfl, back_whole, caliperlaw13_DecletBack.l0.eq_2 n 1000 1024 1, if_neg (by decide), enc_one 0]
  by_cases hn : n < 0 ∨ 999 < n
  · rw [bind_some_eq _ _ _ (enc_low n hn), dec_one 0, bind_some_eq _ _ _ back_nought, if_pos rfl, if_neg (by decide), if_pos rfl]
  · obtain ⟨m, rfl⟩ := Int.eq_ofNat_of_zero_le (by omega : 0 ≤ n)
    have ht := List.all_eq_true.1 back_all_there m (List.mem_range.2 (by omega))
    unfold backThere at ht
    revert ht
    cases he : declet_Encode.f 1 (m : Int) with
    | none => intro ht; cases ht
    | some r =>
      obtain ⟨d, e⟩ := r
      dsimp only
      intro ht
      simp only [Bool.and_eq_true, beq_iff_eq] at ht
      obtain ⟨he, ht⟩ := ht
      rw [bind_some_eq _ _ _ rfl, dec_one 0]
      revert ht
      cases declet_Decode.f 1 d with
      | none => intro ht; cases ht
      | some q =>
        obtain ⟨x, f⟩ := q
        dsimp only
        intro ht
        simp only [Bool.and_eq_true, beq_iff_eq] at ht
        rw [bind_some_eq _ _ _ rfl, if_pos rfl, if_pos he, if_pos ht.1.1, if_pos ht.1.2, can_one 0, bind_some_eq _ _ _ ht.2]

end Go.Proofs.Ytmjbikbakkbajaa.Pure
