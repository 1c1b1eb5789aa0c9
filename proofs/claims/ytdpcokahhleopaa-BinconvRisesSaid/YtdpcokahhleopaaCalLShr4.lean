/-
  What limbs.Shr at width 4 comes to: a walk. No statement is proved here. (Printed by limbs.py of this session.)
-/
import Derived.Test.YtdpcokahhleopaaCalK
namespace Go.Proofs.Ytdpcokahhleopaa.Vm
open Go Go.Vm
noncomputable section
def lShr4C : FnC := fun ds κ => match ds with
  | [.r .u64 4 xs, .p (.int .i64 n)] => κ [(.mine, .r .u64 4 (wordsN 4 (val xs / 2 ^ n.toNat)))]
  | _ => none
def lShr4L : LpC := lpC 60 [2, 4, 5, 6, 7, 8] fun vs m κ => match vs, m with
  | [.o (.a 0 0), .o (.a 1 0), .o (.a 2 0), .o (.p (.int .i64 w)), .o (.p (.int .u64 r)), .o (.p (.int .i64 i))], [(.mine, .w .u64 4 xs), (.mine, .w .u64 4 zs), (.mine, .w .u64 4 out)] =>
    cond (decide (0 ≤ w ∧ w < 1152921504606846976 ∧ r < 64 ∧ i = 0 ∧ val out = 0)) (κ (.exit 0) (lay 60 [4, 5] [.o (.a 0 0), .o (.a 1 0)]) [(.mine, .w .u64 4 zs), (.mine, .w .u64 4 (wordsN 4 (val xs / 2 ^ (64 * w.toNat + r.toNat))))]) none
  | _, _ => none
def lShr4E : Env := mkE ty [] [(0, lShr4L)] [(0, [2, 4, 5, 6, 7, 8])] [(0, [4, 5])] 0 (fun _ => false)
theorem lShr4_round (w r i : Int) (xs zs out : List Int) (f : Nat) (κ : X → List V → Mem → R) :
    lx lShr4E Try.f91 0 (f + 1) (lay 60 [2, 4, 5, 6, 7, 8] [.o (.a 0 0), .o (.a 1 0), .o (.a 2 0), .o (.p (.int .i64 w)), .o (.p (.int .u64 r)), .o (.p (.int .i64 (i)))]) [(.mine, .w .u64 4 xs), (.mine, .w .u64 4 zs), (.mine, .w .u64 4 out)] κ =
      cond (decide (i < IntKind.i64.wrap (4 - w))) (cond (decide (0 ≤ IntKind.i64.wrap (i + w) ∧ IntKind.i64.wrap (i + w) < ((4 : Nat) : Int))) (cond (decide (0 + (IntKind.i64.wrap (i + w)).toNat < 4)) (cond (decide (r < 0)) none (cond (decide (0 ≤ i ∧ i < ((4 : Nat) : Int))) (cond (decide (0 + i.toNat < 4 ∧ IntKind.u64 = IntKind.u64 ∧ (Ty.i .u64).size = 1)) (cond (decide (r > 0)) (cond (decide (IntKind.i64.wrap (IntKind.i64.wrap (i + w) + 1) < 4)) (cond (decide (0 ≤ i ∧ i < ((4 : Nat) : Int))) (cond (decide (0 + i.toNat < 4)) (cond (decide (0 ≤ IntKind.i64.wrap (IntKind.i64.wrap (i + w) + 1) ∧ IntKind.i64.wrap (IntKind.i64.wrap (i + w) + 1) < ((4 : Nat) : Int))) (cond (decide (0 + (IntKind.i64.wrap (IntKind.i64.wrap (i + w) + 1)).toNat < 4)) (cond (decide (IntKind.u64.wrap (64 - r) < 0)) none (cond (decide (0 ≤ i ∧ i < ((4 : Nat) : Int))) (cond (decide (0 + i.toNat < 4 ∧ IntKind.u64 = IntKind.u64 ∧ (Ty.i .u64).size = 1)) (lx lShr4E Try.f91 0 f (lay 60 [2, 4, 5, 6, 7, 8] [.o (.a 0 0), .o (.a 1 0), .o (.a 2 0), .o (.p (.int .i64 w)), .o (.p (.int .u64 r)), .o (.p (.int .i64 (IntKind.i64.wrap (i + 1))))]) [(.mine, .w .u64 4 xs), (.mine, .w .u64 4 zs), (.mine, .w .u64 4 ((out.set (0 + i.toNat) (shrI .u64 (xs.getD (0 + (IntKind.i64.wrap (i + w)).toNat) 0) r)).set (0 + i.toNat) (Go.bits .or .u64 ((out.set (0 + i.toNat) (shrI .u64 (xs.getD (0 + (IntKind.i64.wrap (i + w)).toNat) 0) r)).getD (0 + i.toNat) 0) (shlI .u64 (xs.getD (0 + (IntKind.i64.wrap (IntKind.i64.wrap (i + w) + 1)).toNat) 0) (IntKind.u64.wrap (64 - r))))))] κ) none) none)) none) none) none) none) (lx lShr4E Try.f91 0 f (lay 60 [2, 4, 5, 6, 7, 8] [.o (.a 0 0), .o (.a 1 0), .o (.a 2 0), .o (.p (.int .i64 w)), .o (.p (.int .u64 r)), .o (.p (.int .i64 (IntKind.i64.wrap (i + 1))))]) [(.mine, .w .u64 4 xs), (.mine, .w .u64 4 zs), (.mine, .w .u64 4 (out.set (0 + i.toNat) (shrI .u64 (xs.getD (0 + (IntKind.i64.wrap (i + w)).toNat) 0) r)))] κ)) (lx lShr4E Try.f91 0 f (lay 60 [2, 4, 5, 6, 7, 8] [.o (.a 0 0), .o (.a 1 0), .o (.a 2 0), .o (.p (.int .i64 w)), .o (.p (.int .u64 r)), .o (.p (.int .i64 (IntKind.i64.wrap (i + 1))))]) [(.mine, .w .u64 4 xs), (.mine, .w .u64 4 zs), (.mine, .w .u64 4 (out.set (0 + i.toNat) (shrI .u64 (xs.getD (0 + (IntKind.i64.wrap (i + w)).toNat) 0) r)))] κ)) none) none)) none) none)
        (κ (.exit 0) (lay 60 [4, 5] [.o (.a 0 0), .o (.a 1 0)]) [(.mine, .w .u64 4 zs), (.mine, .w .u64 4 out)]) := by kernel_rfl
theorem lShr4_loop (xs zs : List Int) (hx : inR .u64 xs) (hl : xs.length = 4) (w r : Nat) (hw : w < 1152921504606846976) (hr : r < 64) (κ : X → List V → Mem → R) : ∀ (k i : Nat) (out : List Int), i + k = 4 - w → i ≤ 4 → out.length = 4 → out = wordsN i (val xs / 2 ^ (64 * w + r)) ++ List.replicate (4 - i) 0 →
    lx lShr4E Try.f91 0 (k + 1) (lay 60 [2, 4, 5, 6, 7, 8] [.o (.a 0 0), .o (.a 1 0), .o (.a 2 0), .o (.p (.int .i64 (w : Int))), .o (.p (.int .u64 (r : Int))), .o (.p (.int .i64 ((i : Int))))]) [(.mine, .w .u64 4 xs), (.mine, .w .u64 4 zs), (.mine, .w .u64 4 out)] κ = κ (.exit 0) (lay 60 [4, 5] [.o (.a 0 0), .o (.a 1 0)]) [(.mine, .w .u64 4 zs), (.mine, .w .u64 4 (wordsN 4 (val xs / 2 ^ (64 * w + r))))] := by
  intro k
  induction k with
  | zero =>
    intro i out hi hK hol ho
    rw [lShr4_round, i64_wrap (x := 4 - (w : Int)) (by omega) (by omega), decide_eq_false (by omega), cond_false, ho, shr_end hx hl (by omega) hK]
  | succ k ih =>
    intro i out hi hK hol ho
    have hvn : ∀ q : Nat, 0 + ((q : Nat) : Int).toNat = q := fun q => by omega
    have e1 : (i : Int) + (w : Int) = ((i + w : Nat) : Int) := rfl
    have e2 : ((i + w : Nat) : Int) + 1 = ((i + w + 1 : Nat) : Int) := rfl
    have e3 : (64 : Int) - (r : Int) = ((64 - r : Nat) : Int) := by omega
    have hiw : i + w < 4 := by omega
    have next := ih (i + 1) (wordsN (i + 1) (val xs / 2 ^ (64 * w + r)) ++ List.replicate (4 - (i + 1)) 0) (by omega) (by omega) (by rw [List.length_append, length_wordsN, List.length_replicate]; omega) rfl
    have hset := shr_set (xs := xs) (n := 64 * w + r) (K := 4) (i := i) (by omega)
    obtain ⟨g0, g1⟩ := shr_word hx w r i hr
    have dk : decide ((i : Int) < 4 - (w : Int)) = true := decide_eq_true (by omega)
    have d1 : decide ((0 : Int) ≤ ((i + w : Nat) : Int) ∧ ((i + w : Nat) : Int) < ((4 : Nat) : Int)) = true := decide_eq_true (by omega)
    have d2 : decide (i + w < 4) = true := decide_eq_true (by omega)
    have d3 : decide ((r : Int) < 0) = false := decide_eq_false (by omega)
    have d4 : decide ((0 : Int) ≤ (i : Int) ∧ (i : Int) < ((4 : Nat) : Int)) = true := decide_eq_true (by omega)
    have d5 : decide (i < 4 ∧ IntKind.u64 = IntKind.u64 ∧ (Ty.i .u64).size = 1) = true := decide_eq_true ⟨by omega, rfl, rfl⟩
    have d6 : decide (i < 4) = true := decide_eq_true (by omega)
    have d7 : decide (((64 - r : Nat) : Int) < 0) = false := decide_eq_false (by omega)
    rw [lShr4_round, i64_wrap (x := 4 - (w : Int)) (by omega) (by omega), dk, cond_true, e1, i64_wrap (x := ((i + w : Nat) : Int)) (by omega) (by omega), e2, i64_wrap (x := ((i + w + 1 : Nat) : Int)) (by omega) (by omega), e3, u64_wrap (x := ((64 - r : Nat) : Int)) (by omega) (by omega), i64_wrap (x := (i : Int) + 1) (by omega) (by omega), hvn, hvn, hvn, d1, cond_true, d2, cond_true, d3, cond_false, d4, cond_true, d5, cond_true]
    have e4 : (i : Int) + 1 = ((i + 1 : Nat) : Int) := rfl
    rw [e4]
    have gset : ∀ q : Int, (out.set i q).getD i 0 = q := fun q => by rw [List.getD_eq_getElem?_getD, List.getElem?_set_self (by omega)]; rfl
    rw [ho] at *
    by_cases h0 : r = 0
    · subst h0
      rw [decide_eq_false (by omega), cond_false, ← g0 rfl, hset]
      exact next
    · rw [decide_eq_true (by omega), cond_true]
      by_cases h1 : i + w + 1 < 4
      · have d8 : decide ((0 : Int) ≤ ((i + w + 1 : Nat) : Int) ∧ ((i + w + 1 : Nat) : Int) < ((4 : Nat) : Int)) = true := decide_eq_true (by omega)
        have d9 : decide (i + w + 1 < 4) = true := decide_eq_true h1
        rw [decide_eq_true (by omega), cond_true, cond_true, d6, cond_true, d8, cond_true, d9, cond_true, d7, cond_false, cond_true, cond_true, gset, g1 h0, List.set_set, hset]
        exact next
      · have hz : xs.getD (i + w + 1) 0 = 0 := by rw [List.getD_eq_getElem?_getD, List.getElem?_eq_none (by omega)]; rfl
        rw [decide_eq_false (by omega), cond_false]
        have g2 := g1 h0
        rw [hz, or_zero_shift] at g2
        · rw [g2, hset]
          exact next
        · exact shr_range hx (i + w) r
theorem lShr4L_ok : LoopOK lShr4E 0 (lbody Try.f91 0) lShr4L := loopOK_lx fun vs m κ r hv hm h => by
  split at h
  case h_2 => cases h
  rename_i w r i xs zs out
  replace h := cond_none h
  obtain ⟨hc, h⟩ := h
  obtain ⟨h1, h2, h3, rfl, h5⟩ := of_decide_eq_true hc
  obtain ⟨hx1, _, hx3⟩ := hm 0 _ _ rfl
  obtain ⟨ho1, _, ho3⟩ := hm 2 _ _ rfl
  have hr := u64_iff.1 (hv (.o (.p (.int .u64 r))) (by simp))
  obtain ⟨w, rfl⟩ := Int.eq_ofNat_of_zero_le h1
  obtain ⟨r, rfl⟩ := Int.eq_ofNat_of_zero_le hr.1
  rw [Int.toNat_natCast, Int.toNat_natCast] at h
  exact ⟨_, (lShr4_loop xs zs hx3 hx1 w r (by omega) (by omega) κ (4 - w) 0 out (by omega) (by omega) ho1 (by rw [wordsN_eq ho3 ho1 h5]; rfl)).trans h⟩
theorem lShr4_ev (xs : List Int) (n : Int) : evFn lShr4E Try.f91 [.r .u64 4 xs, .p (.int .i64 n)] =
    cond (decide (n < 1)) (some [(.mine, .r .u64 4 xs)])
      (cond (decide (0 ≤ IntKind.i64.wrap (n.tdiv 64) ∧ IntKind.i64.wrap (n.tdiv 64) < 1152921504606846976 ∧ IntKind.u64.wrap (n.tmod 64) < 64 ∧ (0 : Int) = 0 ∧ val (List.replicate 4 0) = 0))
        (some [(.mine, .r .u64 4 (wordsN 4 (val xs / 2 ^ (64 * (IntKind.i64.wrap (n.tdiv 64)).toNat + (IntKind.u64.wrap (n.tmod 64)).toNat))))]) none) := by kernel_rfl
theorem lShr4_he : ∀ ds κ r, (∀ d ∈ ds, d.wf) → lShr4C ds κ = some r → ∃ res, κ res = some r ∧ evFn lShr4E Try.f91 ds = some res := fun ds κ r hw h => by
  unfold lShr4C at h
  split at h
  case h_2 => cases h
  rename_i xs n
  refine ⟨_, h, (lShr4_ev xs n).trans ?_⟩
  obtain ⟨hl, hx⟩ := wfR hw (xs := xs) (n := 4) (by simp)
  have hn := wfI hw (x := n) (by simp)
  by_cases h0 : n < 1
  · have e : n.toNat = 0 := by omega
    have e2 : wordsN 4 (val xs) = xs := (wordsN_eq hx hl rfl).symm
    rw [decide_eq_true h0, cond_true, e, Nat.pow_zero, Nat.div_one, e2]
  · obtain ⟨n, rfl⟩ := Int.eq_ofNat_of_zero_le (show 0 ≤ n by omega)
    rw [tdiv64, tmod64, i64_wrap (x := ((n / 64 : Nat) : Int)) (by omega) (by omega), u64_wrap (x := ((n % 64 : Nat) : Int)) (by omega) (by omega), decide_eq_false h0, cond_false, val_zeros, decide_eq_true ⟨by omega, by omega, by omega, rfl, rfl⟩, cond_true, Int.toNat_natCast, Int.toNat_natCast, Int.toNat_natCast, Nat.div_add_mod]
theorem lShr4_fn : FnOK Try.prog 91 lShr4C := fnOK_mk T mixed Try.func91 (by kernel_rfl) (fns := []) (lps := [(0, lShr4L)]) (live := [(0, [2, 4, 5, 6, 7, 8])]) (out := [(0, [4, 5])]) (fuel := 0) (give := (fun _ => false)) trivial ⟨lShr4L_ok, trivial⟩ lShr4_he
end
end Go.Proofs.Ytdpcokahhleopaa.Vm
