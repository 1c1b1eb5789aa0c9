/-
  Interchange formats: fields of a pattern, the table of the formats. No statement is proved here.
-/
import Derived.Test.YtcglfmldodhakaaCalLOf4
import Derived.Test.YtcglfmldodhakaaCalLLen4
import Derived.Test.YtcglfmldodhakaaCalLBit4
import Derived.Test.YtcglfmldodhakaaCalLShl4
import Derived.Test.YtcglfmldodhakaaCalLShr4
import Derived.Test.YtcglfmldodhakaaCalLSub4
namespace Go.Proofs.Ytcglfmldodhakaa.Vm
open Go Go.Vm
noncomputable section

theorem fnOK_or {P : Program} {f : FuncId} {F G H : FnC} (h1 : FnOK P f F) (h2 : FnOK P f G) (h : ∀ ds κ r, H ds κ = some r → F ds κ = some r ∨ G ds κ = some r) : FnOK P f H := fun ds κ r hw hr => by
  rcases h ds κ r hr with h | h
  · exact h1 ds κ r hw h
  · exact h2 ds κ r hw h

/-! ### numbers of four words -/
theorem pow4 : (18446744073709551616 : Nat) ^ 4 = 2 ^ 256 := by
  have e : (18446744073709551616 : Nat) = 2 ^ 64 := by decide
  rw [e, ← Nat.pow_mul]
theorem len4 {xs : List Int} (h : xs.length = 4) : xs = [xs.getD 0 0, xs.getD 1 0, xs.getD 2 0, xs.getD 3 0] := by
  match xs, h with
  | [_, _, _, _], _ => rfl
theorem zipW {f : Int → Int → Int} {g : Nat → Nat → Nat} (h0 : g 0 0 = 0)
    (hf : ∀ a b : Nat, a < 18446744073709551616 → b < 18446744073709551616 → f (a : Int) (b : Int) = ((g a b : Nat) : Int))
    (hm : ∀ a b : Nat, g a b % 18446744073709551616 = g (a % 18446744073709551616) (b % 18446744073709551616)) (hd : ∀ a b : Nat, g a b / 18446744073709551616 = g (a / 18446744073709551616) (b / 18446744073709551616)) :
    ∀ {xs ys : List Int}, inR .u64 xs → inR .u64 ys → xs.length = ys.length → List.zipWith f xs ys = wordsN xs.length (g (val xs) (val ys))
  | [], [], _, _, _ => rfl
  | x :: xs, y :: ys, hx, hy, hl => by
    obtain ⟨⟨x0, x1⟩, hx2⟩ := inR_cons hx
    obtain ⟨⟨y0, y1⟩, hy2⟩ := inR_cons hy
    obtain ⟨a, rfl⟩ := Int.eq_ofNat_of_zero_le x0
    obtain ⟨b, rfl⟩ := Int.eq_ofNat_of_zero_le y0
    have ha : a < 18446744073709551616 := by omega
    have hb : b < 18446744073709551616 := by omega
    have e0 : List.zipWith f ((a : Int) :: xs) ((b : Int) :: ys) = f a b :: List.zipWith f xs ys := rfl
    rw [e0, zipW h0 hf hm hd hx2 hy2 (by simpa using hl), hf a b ha hb, List.length_cons]
    show _ = (((g (val ((a : Int) :: xs)) (val ((b : Int) :: ys))) % 18446744073709551616 : Nat) : Int) :: wordsN xs.length (g (val ((a : Int) :: xs)) (val ((b : Int) :: ys)) / 18446744073709551616)
    have e1 : val ((a : Int) :: xs) = a + 18446744073709551616 * val xs := rfl
    have e2 : val ((b : Int) :: ys) = b + 18446744073709551616 * val ys := rfl
    rw [hm, hd, e1, e2, Nat.add_mul_mod_self_left, Nat.add_mul_mod_self_left, Nat.mod_eq_of_lt ha, Nat.mod_eq_of_lt hb, Nat.add_mul_div_left _ _ (by decide), Nat.add_mul_div_left _ _ (by decide), Nat.div_eq_of_lt ha, Nat.div_eq_of_lt hb, Nat.zero_add, Nat.zero_add]
theorem zipAnd {xs ys : List Int} (hx : inR .u64 xs) (hy : inR .u64 ys) (hl : xs.length = ys.length) : List.zipWith (Go.bits .and .u64) xs ys = wordsN xs.length (val xs &&& val ys) :=
  zipW (g := (· &&& ·)) (by decide) (fun a b ha hb => u64_and_nat a b ha hb) (fun a b => Nat.and_mod_two_pow (n := 64)) (fun a b => Nat.and_div_two_pow (n := 64)) hx hy hl
theorem zipOr {xs ys : List Int} (hx : inR .u64 xs) (hy : inR .u64 ys) (hl : xs.length = ys.length) : List.zipWith (Go.bits .or .u64) xs ys = wordsN xs.length (val xs ||| val ys) :=
  zipW (g := (· ||| ·)) (by decide) (fun a b ha hb => u64_or_nat a b ha hb) (fun a b => Nat.or_mod_two_pow (n := 64)) (fun a b => Nat.or_div_two_pow (n := 64)) hx hy hl
theorem val_lt4 {xs : List Int} (h : inR .u64 xs) (hl : xs.length = 4) : val xs < 2 ^ 256 := by
  have := val_lt h
  rwa [hl, pow4] at this
theorem val4 (n : Nat) : val (wordsN 4 n) = n % 2 ^ 256 := by rw [val_wordsN, pow4]
theorem wordsN4_mod (n : Nat) : wordsN 4 (n % 2 ^ 256) = wordsN 4 n := by rw [← pow4, wordsN_mod]

/-! ### and, or -/
def bAndC : FnC := fun ds κ => match ds with
  | [.r .u64 4 xs, .r .u64 4 ys] => κ [(.mine, .r .u64 4 (wordsN 4 (val xs &&& val ys)))]
  | _ => none
def bOrC : FnC := fun ds κ => match ds with
  | [.r .u64 4 xs, .r .u64 4 ys] => κ [(.mine, .r .u64 4 (wordsN 4 (val xs ||| val ys)))]
  | _ => none

/-! ### mask, Of, Field, Lay -/
theorem one_lt256 : (1 : Nat) < 2 ^ 256 := Nat.one_lt_two_pow (by decide)
def bMaskC : FnC := fun ds κ => match ds with
  | [.p (.int .i64 n)] => cond (decide (n ≤ 256)) (κ [(.mine, .r .u64 4 (wordsN 4 (2 ^ n.toNat - 1)))]) none
  | _ => none
def bOfC : FnC := fun ds κ => match ds with
  | [.p (.int .i64 n)] => cond (decide (0 ≤ n)) (κ [(.mine, .r .u64 4 (wordsN 4 n.toNat))]) none
  | _ => none
def bFieldC : FnC := fun ds κ => match ds with
  | [.r .u64 4 b, .p (.int .i64 p), .p (.int .i64 n)] => cond (decide (n ≤ 256)) (κ [(.mine, .r .u64 4 (wordsN 4 (val b / 2 ^ p.toNat % 2 ^ n.toNat)))]) none
  | _ => none
def bLayC : FnC := fun ds κ => match ds with
  | [.r .u64 4 b, .r .u64 4 f, .p (.int .i64 p)] => κ [(.mine, .r .u64 4 (wordsN 4 (val b ||| val f * 2 ^ p.toNat)))]
  | _ => none
end
end Go.Proofs.Ytcglfmldodhakaa.Vm
