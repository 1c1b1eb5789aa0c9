/-
  What limbs.Sub at width 4 comes to: a walk. No statement is proved here. (Printed by limbs.py of this session.)
-/
import Derived.Test.YtdpcokahhleopaaCalK
namespace Go.Proofs.Ytdpcokahhleopaa.Vm
open Go Go.Vm
noncomputable section
def lSub4C : FnC := fun ds κ => match ds with
  | [.r .u64 4 xs, .r .u64 4 ys] => κ [(.mine, .r .u64 4 (wordsN 4 (val xs + (18446744073709551616 ^ 4 - val ys)))), (.mine, .p (.int .u64 ((if val xs < val ys then 1 else 0 : Nat) : Int)))]
  | _ => none
def lSub4L : LpC := lpC 29 [2, 3, 4, 6, 9, 10] fun vs m κ => match vs, m with
  | [.o (.a 0 0), .o (.a 1 0), .o (.a 2 0), .o (.p (.int .u64 c)), .o (.p (.int .i64 n)), .o (.p (.int .i64 i))], [(.mine, .w .u64 4 xs), (.mine, .w .u64 4 ys), (.mine, .w .u64 4 zs)] =>
    cond (decide (c = 0 ∧ n = 4 ∧ i = 0)) (κ (.exit 0) (lay 29 [2, 4, 6] [.o (.a 0 0), .o (.a 1 0), .o (.p (.int .u64 ((if val xs < val ys then 1 else 0 : Nat) : Int)))]) [(.mine, .w .u64 4 (wordsN 4 (val xs + (18446744073709551616 ^ 4 - val ys)))), (.mine, .w .u64 4 zs)]) none
  | _, _ => none
def lSub4E : Env := mkE ty [(52, sub64C)] [(0, lSub4L)] [(0, [2, 3, 4, 6, 9, 10])] [(0, [2, 4, 6])] 0 (fun _ => false)
def lSub4St (c n i : Int) : List V := lay 29 [2, 3, 4, 6, 9, 10] [.o (.a 0 0), .o (.a 1 0), .o (.a 2 0), .o (.p (.int .u64 c)), .o (.p (.int .i64 n)), .o (.p (.int .i64 i))]
theorem lSub4_round (c n i : Int) (xs ys zs : List Int) (f : Nat) (κ : X → List V → Mem → R) :
    lx lSub4E Try.f105 0 (f + 1) (lSub4St c n i) [(.mine, .w .u64 4 xs), (.mine, .w .u64 4 ys), (.mine, .w .u64 4 zs)] κ =
      cond (decide (i < n)) (cond (decide (0 ≤ i ∧ i < ((4 : Nat) : Int))) (cond (decide (0 + i.toNat < 4)) (cond (decide (0 ≤ i ∧ i < ((4 : Nat) : Int))) (cond (decide (0 + i.toNat < 4)) (cond (decide (c ≤ 1)) (cond (decide (0 ≤ i ∧ i < ((4 : Nat) : Int)))
        (cond (decide (0 + i.toNat < 4 ∧ IntKind.u64 = IntKind.u64 ∧ (Ty.i .u64).size = 1))
        (lx lSub4E Try.f105 0 f (lSub4St (-((xs.getD (0 + i.toNat) 0 - ys.getD (0 + i.toNat) 0 - c) / 18446744073709551616)) n (IntKind.i64.wrap (i + 1)))
          [(.mine, .w .u64 4 (xs.set (0 + i.toNat) ((xs.getD (0 + i.toNat) 0 - ys.getD (0 + i.toNat) 0 - c) % 18446744073709551616))), (.mine, .w .u64 4 ys), (.mine, .w .u64 4 zs)] κ) none) none) none) none) none) none) none)
      (κ (.exit 0) (lay 29 [2, 4, 6] [.o (.a 0 0), .o (.a 1 0), .o (.p (.int .u64 c))]) [(.mine, .w .u64 4 xs), (.mine, .w .u64 4 zs)]) := by kernel_rfl
theorem lSub4_loop (xs ys zs : List Int) (hx : inR .u64 xs) (hy : inR .u64 ys) (hxl : xs.length = 4) (hyl : ys.length = 4) (κ : X → List V → Mem → R) : ∀ (k i : Nat) (c : Nat) (out : List Int), i + k = 4 → c ≤ 1 → inR .u64 out → out.length = 4 → out.drop i = xs.drop i →
    val (out.take i) + val ys % 18446744073709551616 ^ i = val xs % 18446744073709551616 ^ i + 18446744073709551616 ^ i * c →
    lx lSub4E Try.f105 0 (k + 1) (lSub4St c 4 i) [(.mine, .w .u64 4 out), (.mine, .w .u64 4 ys), (.mine, .w .u64 4 zs)] κ =
      κ (.exit 0) (lay 29 [2, 4, 6] [.o (.a 0 0), .o (.a 1 0), .o (.p (.int .u64 ((if val xs < val ys then 1 else 0 : Nat) : Int)))]) [(.mine, .w .u64 4 (wordsN 4 (val xs + (18446744073709551616 ^ 4 - val ys)))), (.mine, .w .u64 4 zs)] := by
  intro k
  induction k with
  | zero =>
    intro i c out hi hc hR hl hd hv
    rw [lSub4_round, decide_eq_false (by omega), cond_false]
    have hi : i = 4 := by omega
    subst hi
    have hA : val xs < 18446744073709551616 ^ 4 := hxl ▸ val_lt hx
    have hB : val ys < 18446744073709551616 ^ 4 := hyl ▸ val_lt hy
    rw [List.take_of_length_le (by omega), Nat.mod_eq_of_lt hA, Nat.mod_eq_of_lt hB] at hv
    obtain ⟨e1, e2⟩ := sub_end (K := 4) hR hl hB hc hv
    rw [e1, e2]
  | succ k ih =>
    intro i c out hi hc hR hl hd hv
    have e1 : 0 + ((i : Nat) : Int).toNat = i := by omega
    have d1 : decide ((i : Int) < 4) = true := decide_eq_true (by omega)
    have d2 : decide ((0 : Int) ≤ (i : Int) ∧ (i : Int) < ((4 : Nat) : Int)) = true := decide_eq_true (by omega)
    have d3 : decide (i < 4) = true := decide_eq_true (by omega)
    have d4 : decide (i < 4 ∧ IntKind.u64 = IntKind.u64 ∧ (Ty.i .u64).size = 1) = true := decide_eq_true ⟨by omega, rfl, rfl⟩
    rw [lSub4_round, e1, d1, cond_true, d2, cond_true, d3, cond_true, cond_true, cond_true, decide_eq_true (by omega), cond_true, cond_true, d4, cond_true, i64_wrap (by omega) (by omega), getD_of_drop hd]
    have ax := inR_at hx i
    have ay := inR_at hy i
    generalize hX : xs.getD i 0 = x at *
    generalize hY : ys.getD i 0 = y at *
    obtain ⟨b, hb⟩ : ∃ b : Nat, -((x - y - (c : Int)) / 18446744073709551616) = (b : Int) := ⟨(-((x - y - (c : Int)) / 18446744073709551616)).toNat, by omega⟩
    have es : ((x - y - (c : Int)) % 18446744073709551616).toNat + y.toNat + c = x.toNat + 18446744073709551616 * b := by omega
    rw [hb]
    refine ih (i + 1) _ _ (by omega) (by omega) (inR_set hR i (by omega) (by omega)) (by simpa using hl) ?_ ?_
    · rw [drop_set_same, ← List.drop_drop, hd, List.drop_drop]
    · skip
      rw [val_take_set (by omega), mod_step_at hx, mod_step_at hy, hX, hY, Nat.pow_succ]
      exact borrow_step hv es
theorem lSub4L_ok : LoopOK lSub4E 0 (lbody Try.f105 0) lSub4L := loopOK_lx fun vs m κ r hv hm h => by
  split at h
  case h_2 => cases h
  rename_i c n i xs ys zs
  replace h := cond_none h
  obtain ⟨hc, h⟩ := h
  obtain ⟨rfl, rfl, rfl⟩ := of_decide_eq_true hc
  obtain ⟨hx1, _, hx3⟩ := hm 0 _ _ rfl
  obtain ⟨hy1, _, hy3⟩ := hm 1 _ _ rfl
  exact ⟨_, (lSub4_loop xs ys zs hx3 hy3 hx1 hy1 κ 4 0 0 xs (by omega) (by omega) hx3 hx1 rfl (by simp [val, Nat.mod_one])).trans h⟩
theorem lSub4_ev (xs ys : List Int) : evFn lSub4E Try.f105 [.r .u64 4 xs, .r .u64 4 ys] =
    some [(.mine, .r .u64 4 (wordsN 4 (val xs + (18446744073709551616 ^ 4 - val ys)))), (.mine, .p (.int .u64 ((if val xs < val ys then 1 else 0 : Nat) : Int)))] := by kernel_rfl
theorem lSub4_he : ∀ ds κ r, (∀ d ∈ ds, d.wf) → lSub4C ds κ = some r → ∃ res, κ res = some r ∧ evFn lSub4E Try.f105 ds = some res := fun ds κ r hw h => by
  unfold lSub4C at h
  split at h
  case h_2 => cases h
  rename_i xs ys
  exact ⟨_, h, lSub4_ev xs ys⟩
theorem lSub4_fn : FnOK Try.prog 105 lSub4C := fnOK_mk T mixed Try.func105 (by kernel_rfl) (fns := [(52, sub64C)]) (lps := [(0, lSub4L)]) (live := [(0, [2, 3, 4, 6, 9, 10])]) (out := [(0, [2, 4, 6])]) (fuel := 0) (give := (fun _ => false)) ⟨sub64_fn, trivial⟩ ⟨lSub4L_ok, trivial⟩ lSub4_he
end
end Go.Proofs.Ytdpcokahhleopaa.Vm
