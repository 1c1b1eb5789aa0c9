/-
  Interchange formats: the table of the formats, in both descriptions. No statement is proved here.
-/
import Derived.Test.YtcglfmldodhakaaCalB1
namespace Go.Proofs.Ytcglfmldodhakaa.Vm
open Go Go.Vm
noncomputable section

def tabI (l : List Int) (n : Int) : Int := l.getD n.toNat 0
def precI (n : Int) : Int := tabI [0, 11, 8, 24, 53, 113, 241, 7, 16, 34, 7, 16, 34] n
def expoI (n : Int) : Int := tabI [0, 5, 8, 8, 11, 15, 15, 96, 384, 6144, 96, 384, 6144] n
def widthI (n : Int) : Int := tabI [0, 16, 16, 32, 64, 128, 256, 32, 64, 128, 32, 64, 128] n
def baseI (n : Int) : Int := tabI [0, 2, 2, 2, 2, 2, 2, 10, 10, 10, 10, 10, 10] n
def eminI (n : Int) : Int := tabI [0, -24, -133, -149, -1074, -16494, -16622, -101, -398, -6176, -101, -398, -6176] n
def emaxI (n : Int) : Int := tabI [0, 5, 120, 104, 971, 16271, 16143, 90, 369, 6111, 90, 369, 6111] n
def payI (n : Int) : Int := tabI [0, 9, 6, 22, 51, 111, 239, 6, 15, 33, 6, 15, 33] n
def denseI (n : Int) : Bool := decide (10 ≤ n)
def nameI (n : Int) : ByteArray := [ByteArray.empty, { data := #[72, 97, 108, 102] }, { data := #[66, 114, 97, 105, 110] }, { data := #[83, 105, 110, 103, 108, 101] }, { data := #[68, 111, 117, 98, 108, 101] }, { data := #[81, 117, 97, 100] }, { data := #[79, 99, 116, 111] },
  { data := #[80, 108, 97, 105, 110, 51, 50] }, { data := #[80, 108, 97, 105, 110, 54, 52] }, { data := #[80, 108, 97, 105, 110, 49, 50, 56] }, { data := #[68, 101, 110, 115, 101, 51, 50] }, { data := #[68, 101, 110, 115, 101, 54, 52] }, { data := #[68, 101, 110, 115, 101, 49, 50, 56] }].getD n.toNat ByteArray.empty
/-- A format, as a struct's cells. -/
def infoCells (n : Int) : List Value := [.int .i64 n, .string (nameI n), .int .i64 (baseI n), .int .i64 (widthI n), .int .i64 (precI n), .int .i64 (expoI n), .int .i64 (eminI n), .int .i64 (emaxI n), .int .i64 (payI n), .bool (denseI n)]
def zeroInfo : List Value := [.int .i64 0, .string ByteArray.empty, .int .i64 0, .int .i64 0, .int .i64 0, .int .i64 0, .int .i64 0, .int .i64 0, .int .i64 0, .bool false]
theorem upto12 {n : Int} (h : 1 ≤ n ∧ n ≤ 12) : n = 1 ∨ n = 2 ∨ n = 3 ∨ n = 4 ∨ n = 5 ∨ n = 6 ∨ n = 7 ∨ n = 8 ∨ n = 9 ∨ n = 10 ∨ n = 11 ∨ n = 12 := by omega

def infoInC : FnC := fun ds κ => match ds with
  | [.p (.int .i64 n)] => cond (decide (1 ≤ n ∧ n ≤ 12)) (κ [(.mine, .g (infoCells n)), (.mine, .p (.int .i64 0))]) none
  | _ => none
def infoOutC : FnC := fun ds κ => match ds with
  | [.p (.int .i64 n)] => cond (decide (1 ≤ n ∧ n ≤ 12)) none (κ [(.mine, .g zeroInfo), (.mine, .p (.int .i64 1))])
  | _ => none
def infoC : FnC := fun ds κ => match ds with
  | [.p (.int .i64 n)] => cond (decide (1 ≤ n ∧ n ≤ 12)) (κ [(.mine, .g (infoCells n)), (.mine, .p (.int .i64 0))]) (κ [(.mine, .g zeroInfo), (.mine, .p (.int .i64 1))])
  | _ => none
theorem info_or {P : Program} {f : FuncId} (h1 : FnOK P f infoInC) (h2 : FnOK P f infoOutC) : FnOK P f infoC := fnOK_or h1 h2 fun ds κ r h => by
  unfold infoC at h
  split at h
  case h_2 => cases h
  rename_i n
  unfold infoInC infoOutC
  cases hd : decide (1 ≤ n ∧ n ≤ 12) <;> rw [hd] at h
  · exact .inr (by simpa [hd] using h)
  · exact .inl (by simpa [hd] using h)

/-! ### package desc -/
def dBinE : Env := mkE ty [] [] [] [] 0 (fun _ => false)
def dBinC : FnC := evC dBinE Try.f95
theorem dBin_fn : FnOK Try.prog 95 dBinC := fnOK_mk T mixed Try.func95 (by kernel_rfl) (fns := []) (lps := []) (live := []) (out := []) (fuel := 0) (give := (fun _ => false)) trivial trivial evC_he
def dDecE : Env := mkE ty [] [] [] [] 0 (fun _ => false)
def dDecC : FnC := evC dDecE Try.f96
theorem dDec_fn : FnOK Try.prog 96 dDecC := fnOK_mk T mixed Try.func96 (by kernel_rfl) (fns := []) (lps := []) (live := []) (out := []) (fuel := 0) (give := (fun _ => false)) trivial trivial evC_he
def dAllE : Env := mkE ty [(95, dBinC), (96, dDecC)] [] [] [] 0 (fun _ => false)
def dAllC : FnC := evC dAllE Try.f85
theorem dAll_fn : FnOK Try.prog 85 dAllC := fnOK_mk T mixed Try.func85 (by kernel_rfl) (fns := [(95, dBinC), (96, dDecC)]) (lps := []) (live := []) (out := []) (fuel := 0) (give := (fun _ => false)) ⟨dBin_fn, dDec_fn, trivial⟩ trivial evC_he
def dNoneC : FnC := fun _ _ => none
theorem dNone_fn : FnOK Try.prog 85 dNoneC := fun _ _ _ _ h => nomatch h
def dInE : Env := mkE ty [(85, dAllC)] [] [] [] 0 (fun _ => false)
theorem dIn_he : ∀ ds κ r, (∀ d ∈ ds, d.wf) → infoInC ds κ = some r → ∃ res, κ res = some r ∧ evFn dInE Try.f56 ds = some res := fun ds κ r hw h => by
  unfold infoInC at h
  split at h
  case h_2 => cases h
  rename_i n
  replace h := cond_none h
  obtain ⟨hc, h⟩ := h
  refine ⟨_, h, ?_⟩
  rcases upto12 (of_decide_eq_true hc) with rfl | rfl | rfl | rfl | rfl | rfl | rfl | rfl | rfl | rfl | rfl | rfl <;> kernel_rfl
theorem dIn_fn : FnOK Try.prog 56 infoInC := fnOK_mk T mixed Try.func56 (by kernel_rfl) (fns := [(85, dAllC)]) (lps := []) (live := []) (out := []) (fuel := 0) (give := (fun _ => false)) ⟨dAll_fn, trivial⟩ trivial dIn_he
def dOutE : Env := mkE ty [(85, dNoneC)] [] [] [] 0 (fun _ => false)
theorem dOut_ev (n : Int) : evFn dOutE Try.f56 [.p (.int .i64 n)] = cond (decide (n < 1)) (some [(.mine, .g zeroInfo), (.mine, .p (.int .i64 1))]) (cond (decide (n > 12)) (some [(.mine, .g zeroInfo), (.mine, .p (.int .i64 1))]) none) := by kernel_rfl
theorem dOut_he : ∀ ds κ r, (∀ d ∈ ds, d.wf) → infoOutC ds κ = some r → ∃ res, κ res = some r ∧ evFn dOutE Try.f56 ds = some res := fun ds κ r hw h => by
  unfold infoOutC at h
  split at h
  case h_2 => cases h
  rename_i n
  cases hd : decide (1 ≤ n ∧ n ≤ 12) <;> rw [hd] at h
  case true => cases h
  refine ⟨_, h, (dOut_ev n).trans ?_⟩
  have hd := of_decide_eq_false hd
  by_cases h1 : n < 1
  · rw [decide_eq_true h1, cond_true]
  · rw [decide_eq_false h1, cond_false, decide_eq_true (by omega), cond_true]
theorem dOut_fn : FnOK Try.prog 56 infoOutC := fnOK_mk T mixed Try.func56 (by kernel_rfl) (fns := [(85, dNoneC)]) (lps := []) (live := []) (out := []) (fuel := 0) (give := (fun _ => false)) ⟨dNone_fn, trivial⟩ trivial dOut_he
abbrev dOfC := infoC
theorem dOf_fn : FnOK Try.prog 56 dOfC := info_or dIn_fn dOut_fn
def dBinaryC : FnC := fun ds κ => match ds with
  | [.p (.int .i64 n), .r .u64 4 xs] => cond (decide (1 ≤ n ∧ n ≤ 12)) (cond (baseI n == 2) (κ [(.mine, .g (infoCells n)), (.mine, .p (.bool (decide (((bitlen (val xs) : Nat) : Int) ≤ widthI n))))]) (κ [(.mine, .g (infoCells n)), (.mine, .p (.bool false))])) (κ [(.mine, .g zeroInfo), (.mine, .p (.bool false))])
  | _ => none

/-! ### package ref04 -/
def rInE : Env := mkE ty [] [] [] [] 0 (fun _ => false)
theorem rIn_he : ∀ ds κ r, (∀ d ∈ ds, d.wf) → infoInC ds κ = some r → ∃ res, κ res = some r ∧ evFn rInE Try.f14 ds = some res := fun ds κ r hw h => by
  unfold infoInC at h
  split at h
  case h_2 => cases h
  rename_i n
  replace h := cond_none h
  obtain ⟨hc, h⟩ := h
  refine ⟨_, h, ?_⟩
  rcases upto12 (of_decide_eq_true hc) with rfl | rfl | rfl | rfl | rfl | rfl | rfl | rfl | rfl | rfl | rfl | rfl <;> kernel_rfl
theorem rIn_fn : FnOK Try.prog 14 infoInC := fnOK_mk T mixed Try.func14 (by kernel_rfl) (fns := []) (lps := []) (live := []) (out := []) (fuel := 0) (give := (fun _ => false)) trivial trivial rIn_he
def rOutT (n : Int) (A : Nat → R) : R := cond (n == 1) (A 1) (cond (n == 2) (A 2) (cond (n == 3) (A 3) (cond (n == 4) (A 4) (cond (n == 5) (A 5) (cond (n == 6) (A 6) (cond (n == 7) (A 7) (cond (n == 10) (A 10) (cond (n == 8) (A 8) (cond (n == 11) (A 11) (cond (n == 9) (A 9) (cond (n == 12) (A 12) (some [(.mine, .g zeroInfo), (.mine, .p (.int .i64 1))]))))))))))))
def rLeaf (nm : List UInt8) (w p e : Int) (n : Int) : R :=
  cond (decide (n ≤ 6))
    (some [(.mine, .g [.int .i64 n, .string ⟨nm.toArray⟩, .int .i64 2, .int .i64 (IntKind.i64.wrap (p + e)), .int .i64 p, .int .i64 e, .int .i64 (IntKind.i64.wrap (IntKind.i64.wrap (2 - IntKind.i64.wrap (shlI .i64 1 (IntKind.u64.wrap (IntKind.i64.wrap (e - 1))) - 1)) - p)), .int .i64 (IntKind.i64.wrap (IntKind.i64.wrap (IntKind.i64.wrap (shlI .i64 1 (IntKind.u64.wrap (IntKind.i64.wrap (e - 1))) - 1) + 1) - p)), .int .i64 (IntKind.i64.wrap (p - 2)), .bool false]), (.mine, .p (.int .i64 0))])
    (cond (decide (n ≥ 10))
      (some [(.mine, .g [.int .i64 n, .string (⟨[(68 : UInt8), 101, 110, 115, 101].toArray⟩ ++ ⟨nm.toArray⟩), .int .i64 10, .int .i64 w, .int .i64 p, .int .i64 e, .int .i64 (IntKind.i64.wrap (IntKind.i64.wrap (2 - e) - p)), .int .i64 (IntKind.i64.wrap (IntKind.i64.wrap (e + 1) - p)), .int .i64 (IntKind.i64.wrap (p - 1)), .bool (decide (n ≥ 10))]), (.mine, .p (.int .i64 0))])
      (some [(.mine, .g [.int .i64 n, .string (⟨[(80 : UInt8), 108, 97, 105, 110].toArray⟩ ++ ⟨nm.toArray⟩), .int .i64 10, .int .i64 w, .int .i64 p, .int .i64 e, .int .i64 (IntKind.i64.wrap (IntKind.i64.wrap (2 - e) - p)), .int .i64 (IntKind.i64.wrap (IntKind.i64.wrap (e + 1) - p)), .int .i64 (IntKind.i64.wrap (p - 1)), .bool (decide (n ≥ 10))]), (.mine, .p (.int .i64 0))]))
def rLeaves (n : Int) (k : Nat) : R := match k with
  | 1 => rLeaf [72, 97, 108, 102] 0 11 5 n
  | 2 => rLeaf [66, 114, 97, 105, 110] 0 8 8 n
  | 3 => rLeaf [83, 105, 110, 103, 108, 101] 0 24 8 n
  | 4 => rLeaf [68, 111, 117, 98, 108, 101] 0 53 11 n
  | 5 => rLeaf [81, 117, 97, 100] 0 113 15 n
  | 6 => rLeaf [79, 99, 116, 111] 0 241 15 n
  | 7 | 10 => rLeaf [51, 50] 32 7 96 n
  | 8 | 11 => rLeaf [54, 52] 64 16 384 n
  | _ => rLeaf [49, 50, 56] 128 34 6144 n
theorem rOut_ev (n : Int) : evFn rInE Try.f14 [.p (.int .i64 n)] = rOutT n (rLeaves n) := by kernel_rfl
theorem rOut_he : ∀ ds κ r, (∀ d ∈ ds, d.wf) → infoOutC ds κ = some r → ∃ res, κ res = some r ∧ evFn rInE Try.f14 ds = some res := fun ds κ r hw h => by
  unfold infoOutC at h
  split at h
  case h_2 => cases h
  rename_i n
  cases hd : decide (1 ≤ n ∧ n ≤ 12) <;> rw [hd] at h
  case true => cases h
  refine ⟨_, h, (rOut_ev n).trans ?_⟩
  have hd := of_decide_eq_false hd
  unfold rOutT
  rw [beq_eq_false_iff_ne.2 (show n ≠ 1 by omega), beq_eq_false_iff_ne.2 (show n ≠ 2 by omega), beq_eq_false_iff_ne.2 (show n ≠ 3 by omega), beq_eq_false_iff_ne.2 (show n ≠ 4 by omega), beq_eq_false_iff_ne.2 (show n ≠ 5 by omega), beq_eq_false_iff_ne.2 (show n ≠ 6 by omega),
    beq_eq_false_iff_ne.2 (show n ≠ 7 by omega), beq_eq_false_iff_ne.2 (show n ≠ 8 by omega), beq_eq_false_iff_ne.2 (show n ≠ 9 by omega), beq_eq_false_iff_ne.2 (show n ≠ 10 by omega), beq_eq_false_iff_ne.2 (show n ≠ 11 by omega), beq_eq_false_iff_ne.2 (show n ≠ 12 by omega)]
  rfl
def rOutE : Env := mkE ty [] [] [] [] 0 (fun _ => false)
theorem rOut_fn : FnOK Try.prog 14 infoOutC := fnOK_mk T mixed Try.func14 (by kernel_rfl) (fns := []) (lps := []) (live := []) (out := []) (fuel := 0) (give := (fun _ => false)) trivial trivial rOut_he
abbrev rOfC := infoC
theorem rOf_fn : FnOK Try.prog 14 rOfC := info_or rIn_fn rOut_fn
end
end Go.Proofs.Ytcglfmldodhakaa.Vm
