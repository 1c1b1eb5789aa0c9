/-
  Limbs of width 4, declets, ref13, ref14.Unpack, ref15.Keep, the laws DecroundKeeps and DecroundMembers, evaluated: CalLAdd4, CalLDiv4, CalLMul4, CalDC, CalDE, CalDP, CalDR, CalEC, CalF1, CalF2, CalF5, CalF3, CalF6, CalF4 in one text (merge.py). No statement is proved here.
-/
import Derived.Test.YtcglfmldodhakaaCalK
import Derived.Test.YtcglfmldodhakaaCalS
import Derived.Test.YtcglfmldodhakaaCalT
import Derived.Test.YtcglfmldodhakaaCalN3
import Derived.Test.YtcglfmldodhakaaCalBP
import Derived.Test.YtcglfmldodhakaaCalLShl4
import Derived.Test.YtcglfmldodhakaaCalLShr4
import Derived.Test.YtcglfmldodhakaaCalLOf4
import Derived.Test.YtcglfmldodhakaaCalLLen4
import Derived.Test.YtcglfmldodhakaaCalEA
import Derived.Test.YtcglfmldodhakaaCalEB

namespace Go.Proofs.Ytcglfmldodhakaa.Vm
open Go Go.Vm
noncomputable section
def lAdd4C : FnC := fun ds κ => match ds with
  | [.r .u64 4 xs, .r .u64 4 ys] => κ [(.mine, .r .u64 4 (wordsN 4 (val xs + val ys))), (.mine, .p (.int .u64 (((val xs + val ys) / 18446744073709551616 ^ 4 : Nat) : Int)))]
  | _ => none
def lAdd4L : LpC := lpC 29 [2, 3, 4, 6, 9, 10] fun vs m κ => match vs, m with
  | [.o (.a 0 0), .o (.a 1 0), .o (.a 2 0), .o (.p (.int .u64 c)), .o (.p (.int .i64 n)), .o (.p (.int .i64 i))], [(.mine, .w .u64 4 xs), (.mine, .w .u64 4 ys), (.mine, .w .u64 4 zs)] =>
    cond (decide (c = 0 ∧ n = 4 ∧ i = 0)) (κ (.exit 0) (lay 29 [2, 4, 6] [.o (.a 0 0), .o (.a 1 0), .o (.p (.int .u64 (((val xs + val ys) / 18446744073709551616 ^ 4 : Nat) : Int)))]) [(.mine, .w .u64 4 (wordsN 4 (val xs + val ys))), (.mine, .w .u64 4 zs)]) none
  | _, _ => none
def lAdd4St (c n i : Int) : List V := lay 29 [2, 3, 4, 6, 9, 10] [.o (.a 0 0), .o (.a 1 0), .o (.a 2 0), .o (.p (.int .u64 c)), .o (.p (.int .i64 n)), .o (.p (.int .i64 i))]
end
end Go.Proofs.Ytcglfmldodhakaa.Vm

namespace Go.Proofs.Ytcglfmldodhakaa.Vm
open Go Go.Vm
noncomputable section
def lDiv4C : FnC := fun ds κ => match ds with
  | [.r .u64 4 xs, .p (.int .u64 n)] => κ [(.mine, .r .u64 4 (wordsN 4 (val xs / n.toNat))), (.mine, .p (.int .u64 (if n = 0 then 0 else ((val xs % n.toNat : Nat) : Int))))]
  | _ => none
def lDiv4L : LpC := lpC 32 [1, 2, 4, 6, 7, 8] fun vs m κ => match vs, m with
  | [.o (.p (.int .u64 n)), .o (.a 0 0), .o (.a 1 0), .o (.a 2 0), .o (.p (.int .u64 r)), .o (.p (.int .i64 i))], [(.mine, .w .u64 4 xs), (.mine, .w .u64 4 zs), (.mine, .w .u64 4 out)] =>
    cond (decide (0 < n ∧ r = 0 ∧ i = 3 ∧ val out = 0)) (κ (.exit 0) (lay 32 [4, 6, 7] [.o (.a 0 0), .o (.a 1 0), .o (.p (.int .u64 (((val xs % n.toNat : Nat) : Int))))]) [(.mine, .w .u64 4 zs), (.mine, .w .u64 4 (wordsN 4 (val xs / n.toNat)))]) none
  | _, _ => none
end
end Go.Proofs.Ytcglfmldodhakaa.Vm

namespace Go.Proofs.Ytcglfmldodhakaa.Vm
open Go Go.Vm
noncomputable section
def lMul4C : FnC := fun ds κ => match ds with
  | [.r .u64 4 xs, .p (.int .u64 x)] => κ [(.mine, .r .u64 4 (wordsN 4 (val xs * x.toNat))), (.mine, .p (.int .u64 ((val xs * x.toNat / 18446744073709551616 ^ 4 : Nat) : Int)))]
  | _ => none
def lMul4L : LpC := lpC 38 [1, 2, 4, 6, 12, 13] fun vs m κ => match vs, m with
  | [.o (.p (.int .u64 x)), .o (.a 0 0), .o (.a 1 0), .o (.p (.int .u64 c)), .o (.p (.int .i64 n)), .o (.p (.int .i64 i))], [(.mine, .w .u64 4 xs), (.mine, .w .u64 4 zs)] =>
    cond (decide (c = 0 ∧ n = 4 ∧ i = 0)) (κ (.exit 0) (lay 38 [2, 4, 6] [.o (.a 0 0), .o (.a 1 0), .o (.p (.int .u64 ((val xs * x.toNat / 18446744073709551616 ^ 4 : Nat) : Int)))]) [(.mine, .w .u64 4 (wordsN 4 (val xs * x.toNat))), (.mine, .w .u64 4 zs)]) none
  | _, _ => none
def lMul4St (x c n i : Int) : List V := lay 38 [1, 2, 4, 6, 12, 13] [.o (.p (.int .u64 x)), .o (.a 0 0), .o (.a 1 0), .o (.p (.int .u64 c)), .o (.p (.int .i64 n)), .o (.p (.int .i64 i))]
end
end Go.Proofs.Ytcglfmldodhakaa.Vm

namespace Go.Proofs.Ytcglfmldodhakaa.Vm
open Go Go.Vm
noncomputable section
set_option linter.unusedVariables false

/-! ### plain -/
/-- Three digits as a declet. -/
def encP (n : Nat) : Nat :=
  let a := n / 100; let b := n / 10 % 10; let c := n % 10
  128 * (a % 2) + 16 * (b % 2) + c % 2 +
    cond (Nat.blt a 8)
      (cond (Nat.blt b 8) (cond (Nat.blt c 8) (256 * (a / 2) + 32 * (b / 2) + 2 * (c / 2)) (256 * (a / 2) + 32 * (b / 2) + 8))
        (cond (Nat.blt c 8) (256 * (a / 2) + 32 * (c / 2) + 10) (256 * (a / 2) + 78)))
      (cond (Nat.blt b 8) (cond (Nat.blt c 8) (256 * (c / 2) + 32 * (b / 2) + 12) (256 * (b / 2) + 46))
        (cond (Nat.blt c 8) (256 * (c / 2) + 14) 110))
def dec3 (d a b c : Nat) : Nat := (2 * a + d / 128 % 2) * 100 + (2 * b + d / 16 % 2) * 10 + (2 * c + d % 2)
/-- A declet as three digits. -/
def decP (d : Nat) : Nat :=
  let p := d / 256 % 4; let q := d / 32 % 4; let s := d / 2 % 8
  cond (Nat.blt s 4) (dec3 d p q s) (cond (Nat.beq s 4) (dec3 d p q 4) (cond (Nat.beq s 5) (dec3 d p 4 q) (cond (Nat.beq s 6) (dec3 d 4 q p)
    (cond (Nat.beq q 0) (dec3 d 4 4 p) (cond (Nat.beq q 1) (dec3 d 4 p 4) (cond (Nat.beq q 2) (dec3 d p 4 4) (dec3 d 4 4 4)))))))
def within (n h : Int) (a b : Int) : Int := cond (decide (n < 0)) b (cond (decide (n > h)) b a)
def twoC (f : Int → Int) (h : Int) : FnC := fun ds κ => match ds with
  | [.p (.int .i64 n)] => κ [(.mine, .p (.int .i64 (within n h (f n) 0))), (.mine, .p (.int .i64 (within n h 0 3)))]
  | _ => none
def encI (n : Int) : Int := encP n.toNat
def decI (n : Int) : Int := decP n.toNat
def chk (r : R) (a : Int) : Bool := match r with
  | some [(.mine, .p (.int .i64 x)), (.mine, .p (.int .i64 y))] => x == a && y == 0
  | _ => false
theorem chk_eq {r : R} {a : Int} (h : chk r a = true) : r = some [(.mine, .p (.int .i64 a)), (.mine, .p (.int .i64 0))] := by
  unfold chk at h
  split at h
  · simp only [Bool.and_eq_true, beq_iff_eq] at h
    rw [h.1, h.2]
  · cases h
theorem two_of {E : Env} {f : Func} {g : Int → Int} {h : Int} {N : Nat} {T : Int → R} (hev : ∀ n, evFn E f [.p (.int .i64 n)] = T n) (hN : h + 1 = N)
    (hlo : ∀ n : Int, n < 0 → T n = some [(.mine, .p (.int .i64 0)), (.mine, .p (.int .i64 3))])
    (hhi : ∀ n : Int, ¬ n < 0 → n > h → T n = some [(.mine, .p (.int .i64 0)), (.mine, .p (.int .i64 3))])
    (hin : ((List.range N).all fun n => chk (T (n : Int)) (g n)) = true) :
    ∀ ds κ r, (∀ d ∈ ds, d.wf) → twoC g h ds κ = some r → ∃ res, κ res = some r ∧ evFn E f ds = some res := fun ds κ r hw hr => by
  unfold twoC at hr
  split at hr
  case h_2 => cases hr
  rename_i n
  refine ⟨_, hr, ?_⟩
  rw [hev]
  unfold within
  by_cases h0 : n < 0
  · rw [decide_eq_true h0, cond_true, cond_true]
    exact hlo n h0
  · rw [decide_eq_false h0, cond_false, cond_false]
    by_cases h1 : n > h
    · rw [decide_eq_true h1, cond_true, cond_true]
      exact hhi n h0 h1
    · rw [decide_eq_false h1, cond_false, cond_false]
      obtain ⟨m, rfl⟩ : ∃ m : Nat, n = m := ⟨n.toNat, by omega⟩
      exact chk_eq (List.all_eq_true.mp hin m (List.mem_range.mpr (by omega)))

/-! ### the table, and what the program computes -/
/-- The first that holds. -/
def pickK {α : Type} : List (Bool × α) → α → (α → R) → R
  | [], z, κ => κ z
  | q :: l, z, κ => cond q.1 (κ q.2) (pickK l z κ)
def pickD {α : Type} : List (Bool × α) → α → α
  | [], z => z
  | q :: l, z => cond q.1 q.2 (pickD l z)
theorem pickK_eq {α : Type} {l : List (Bool × α)} {z : α} {κ : α → R} : pickK l z κ = κ (pickD l z) := by
  induction l with
  | nil => rfl
  | cons q l ih =>
    unfold pickK pickD
    rw [ih]
    cases q.1 <;> rfl
def rows (g : Int) : List (Bool × List (Own × D)) := [(g == 0, [(.mine, .r .i64 3 [10, 11, 22])]), (g == 1, [(.mine, .r .i64 3 [10, 11, 4])]), (g == 2, [(.mine, .r .i64 3 [10, 12, 5])]), (g == 4, [(.mine, .r .i64 3 [12, 11, 6])]),
  (g == 3, [(.mine, .r .i64 3 [10, 2, 7])]), (g == 5, [(.mine, .r .i64 3 [11, 1, 7])]), (g == 6, [(.mine, .r .i64 3 [12, 0, 7])])]
def row13C : FnC := fun ds κ => match ds with
  | [.p (.int .i64 g)] => pickK (rows g) [(.mine, .r .i64 3 [0, 3, 7])] κ
  | _ => none
def row13E : Env := mkE ty [] [] [] [] 0 (fun _ => false)
theorem row13_ev (g : Int) : evFn row13E Try.f97 [.p (.int .i64 g)] = pickK (rows g) [(.mine, .r .i64 3 [0, 3, 7])] some := by kernel_rfl
theorem row13_he : ∀ ds κ r, (∀ d ∈ ds, d.wf) → row13C ds κ = some r → ∃ res, κ res = some r ∧ evFn row13E Try.f97 ds = some res := fun ds κ r hw h => by
  unfold row13C at h
  split at h
  case h_2 => cases h
  rename_i g
  rw [pickK_eq] at h
  exact ⟨_, h, by rw [row13_ev, pickK_eq]⟩
theorem row13_fn : FnOK Try.prog 97 row13C := fnOK_mk T mixed Try.func97 (by kernel_rfl) (fns := []) (lps := []) (live := []) (out := []) (fuel := 0) (give := (fun _ => false)) trivial trivial row13_he
def enc18T (n : Int) : R :=
(cond (decide (n < 0))
 (some [(.mine, .p (.int .i64 (0))), (.mine, .p (.int .i64 (3)))])
 (cond (decide (n > 999))
  (some [(.mine, .p (.int .i64 (0))), (.mine, .p (.int .i64 (3)))])
  (cond (bits BinOp.or IntKind.i64
    (bits BinOp.or IntKind.i64 (shlI IntKind.i64 (shrI IntKind.i64 (IntKind.i64.wrap (n.tdiv 100)) 3) 2)
      (shlI IntKind.i64 (shrI IntKind.i64 ((IntKind.i64.wrap (n.tdiv 10)).tmod 10) 3) 1))
    (shrI IntKind.i64 (n.tmod 10) 3) ==
  0)
   (some [(.mine, .p (.int .i64 (bits BinOp.or IntKind.i64
  (bits BinOp.or IntKind.i64
    (bits BinOp.or IntKind.i64
      (bits BinOp.or IntKind.i64
        (bits BinOp.or IntKind.i64 (shlI IntKind.i64 (bits BinOp.and IntKind.i64 (IntKind.i64.wrap (n.tdiv 100)) 1) 7)
          (shlI IntKind.i64 (bits BinOp.and IntKind.i64 ((IntKind.i64.wrap (n.tdiv 10)).tmod 10) 1) 4))
        (bits BinOp.and IntKind.i64 (n.tmod 10) 1))
      (shlI IntKind.i64 (bits BinOp.and IntKind.i64 (shrI IntKind.i64 (IntKind.i64.wrap (n.tdiv 100)) 1) 3) 8))
    (shlI IntKind.i64 (bits BinOp.and IntKind.i64 (shrI IntKind.i64 ((IntKind.i64.wrap (n.tdiv 10)).tmod 10) 1) 3) 5))
  (shlI IntKind.i64 (bits BinOp.and IntKind.i64 (shrI IntKind.i64 (n.tmod 10) 1) 3) 1)))), (.mine, .p (.int .i64 (0)))])
   (cond (bits BinOp.or IntKind.i64
    (bits BinOp.or IntKind.i64 (shlI IntKind.i64 (shrI IntKind.i64 (IntKind.i64.wrap (n.tdiv 100)) 3) 2)
      (shlI IntKind.i64 (shrI IntKind.i64 ((IntKind.i64.wrap (n.tdiv 10)).tmod 10) 3) 1))
    (shrI IntKind.i64 (n.tmod 10) 3) ==
  1)
    (some [(.mine, .p (.int .i64 (bits BinOp.or IntKind.i64
  (bits BinOp.or IntKind.i64
    (bits BinOp.or IntKind.i64
      (bits BinOp.or IntKind.i64
        (bits BinOp.or IntKind.i64 (shlI IntKind.i64 (bits BinOp.and IntKind.i64 (IntKind.i64.wrap (n.tdiv 100)) 1) 7)
          (shlI IntKind.i64 (bits BinOp.and IntKind.i64 ((IntKind.i64.wrap (n.tdiv 10)).tmod 10) 1) 4))
        (bits BinOp.and IntKind.i64 (n.tmod 10) 1))
      (shlI IntKind.i64 (bits BinOp.and IntKind.i64 (shrI IntKind.i64 (IntKind.i64.wrap (n.tdiv 100)) 1) 3) 8))
    (shlI IntKind.i64 (bits BinOp.and IntKind.i64 (shrI IntKind.i64 ((IntKind.i64.wrap (n.tdiv 10)).tmod 10) 1) 3) 5))
  8))), (.mine, .p (.int .i64 (0)))])
    (cond (bits BinOp.or IntKind.i64
    (bits BinOp.or IntKind.i64 (shlI IntKind.i64 (shrI IntKind.i64 (IntKind.i64.wrap (n.tdiv 100)) 3) 2)
      (shlI IntKind.i64 (shrI IntKind.i64 ((IntKind.i64.wrap (n.tdiv 10)).tmod 10) 3) 1))
    (shrI IntKind.i64 (n.tmod 10) 3) ==
  2)
     (some [(.mine, .p (.int .i64 (bits BinOp.or IntKind.i64
  (bits BinOp.or IntKind.i64
    (bits BinOp.or IntKind.i64
      (bits BinOp.or IntKind.i64
        (bits BinOp.or IntKind.i64 (shlI IntKind.i64 (bits BinOp.and IntKind.i64 (IntKind.i64.wrap (n.tdiv 100)) 1) 7)
          (shlI IntKind.i64 (bits BinOp.and IntKind.i64 ((IntKind.i64.wrap (n.tdiv 10)).tmod 10) 1) 4))
        (bits BinOp.and IntKind.i64 (n.tmod 10) 1))
      (shlI IntKind.i64 (bits BinOp.and IntKind.i64 (shrI IntKind.i64 (IntKind.i64.wrap (n.tdiv 100)) 1) 3) 8))
    (shlI IntKind.i64 (bits BinOp.and IntKind.i64 (shrI IntKind.i64 (n.tmod 10) 1) 3) 5))
  10))), (.mine, .p (.int .i64 (0)))])
     (cond (bits BinOp.or IntKind.i64
    (bits BinOp.or IntKind.i64 (shlI IntKind.i64 (shrI IntKind.i64 (IntKind.i64.wrap (n.tdiv 100)) 3) 2)
      (shlI IntKind.i64 (shrI IntKind.i64 ((IntKind.i64.wrap (n.tdiv 10)).tmod 10) 3) 1))
    (shrI IntKind.i64 (n.tmod 10) 3) ==
  4)
      (some [(.mine, .p (.int .i64 (bits BinOp.or IntKind.i64
  (bits BinOp.or IntKind.i64
    (bits BinOp.or IntKind.i64
      (bits BinOp.or IntKind.i64
        (bits BinOp.or IntKind.i64 (shlI IntKind.i64 (bits BinOp.and IntKind.i64 (IntKind.i64.wrap (n.tdiv 100)) 1) 7)
          (shlI IntKind.i64 (bits BinOp.and IntKind.i64 ((IntKind.i64.wrap (n.tdiv 10)).tmod 10) 1) 4))
        (bits BinOp.and IntKind.i64 (n.tmod 10) 1))
      (shlI IntKind.i64 (bits BinOp.and IntKind.i64 (shrI IntKind.i64 (n.tmod 10) 1) 3) 8))
    (shlI IntKind.i64 (bits BinOp.and IntKind.i64 (shrI IntKind.i64 ((IntKind.i64.wrap (n.tdiv 10)).tmod 10) 1) 3) 5))
  12))), (.mine, .p (.int .i64 (0)))])
      (cond (bits BinOp.or IntKind.i64
    (bits BinOp.or IntKind.i64 (shlI IntKind.i64 (shrI IntKind.i64 (IntKind.i64.wrap (n.tdiv 100)) 3) 2)
      (shlI IntKind.i64 (shrI IntKind.i64 ((IntKind.i64.wrap (n.tdiv 10)).tmod 10) 3) 1))
    (shrI IntKind.i64 (n.tmod 10) 3) ==
  3)
       (some [(.mine, .p (.int .i64 (bits BinOp.or IntKind.i64
  (bits BinOp.or IntKind.i64
    (bits BinOp.or IntKind.i64
      (bits BinOp.or IntKind.i64
        (bits BinOp.or IntKind.i64 (shlI IntKind.i64 (bits BinOp.and IntKind.i64 (IntKind.i64.wrap (n.tdiv 100)) 1) 7)
          (shlI IntKind.i64 (bits BinOp.and IntKind.i64 ((IntKind.i64.wrap (n.tdiv 10)).tmod 10) 1) 4))
        (bits BinOp.and IntKind.i64 (n.tmod 10) 1))
      (shlI IntKind.i64 (bits BinOp.and IntKind.i64 (shrI IntKind.i64 (IntKind.i64.wrap (n.tdiv 100)) 1) 3) 8))
    64)
  14))), (.mine, .p (.int .i64 (0)))])
       (cond (bits BinOp.or IntKind.i64
    (bits BinOp.or IntKind.i64 (shlI IntKind.i64 (shrI IntKind.i64 (IntKind.i64.wrap (n.tdiv 100)) 3) 2)
      (shlI IntKind.i64 (shrI IntKind.i64 ((IntKind.i64.wrap (n.tdiv 10)).tmod 10) 3) 1))
    (shrI IntKind.i64 (n.tmod 10) 3) ==
  5)
        (some [(.mine, .p (.int .i64 (bits BinOp.or IntKind.i64
  (bits BinOp.or IntKind.i64
    (bits BinOp.or IntKind.i64
      (bits BinOp.or IntKind.i64
        (bits BinOp.or IntKind.i64 (shlI IntKind.i64 (bits BinOp.and IntKind.i64 (IntKind.i64.wrap (n.tdiv 100)) 1) 7)
          (shlI IntKind.i64 (bits BinOp.and IntKind.i64 ((IntKind.i64.wrap (n.tdiv 10)).tmod 10) 1) 4))
        (bits BinOp.and IntKind.i64 (n.tmod 10) 1))
      (shlI IntKind.i64 (bits BinOp.and IntKind.i64 (shrI IntKind.i64 ((IntKind.i64.wrap (n.tdiv 10)).tmod 10) 1) 3) 8))
    32)
  14))), (.mine, .p (.int .i64 (0)))])
        (cond (bits BinOp.or IntKind.i64
    (bits BinOp.or IntKind.i64 (shlI IntKind.i64 (shrI IntKind.i64 (IntKind.i64.wrap (n.tdiv 100)) 3) 2)
      (shlI IntKind.i64 (shrI IntKind.i64 ((IntKind.i64.wrap (n.tdiv 10)).tmod 10) 3) 1))
    (shrI IntKind.i64 (n.tmod 10) 3) ==
  6)
         (some [(.mine, .p (.int .i64 (bits BinOp.or IntKind.i64
  (bits BinOp.or IntKind.i64
    (bits BinOp.or IntKind.i64
      (bits BinOp.or IntKind.i64 (shlI IntKind.i64 (bits BinOp.and IntKind.i64 (IntKind.i64.wrap (n.tdiv 100)) 1) 7)
        (shlI IntKind.i64 (bits BinOp.and IntKind.i64 ((IntKind.i64.wrap (n.tdiv 10)).tmod 10) 1) 4))
      (bits BinOp.and IntKind.i64 (n.tmod 10) 1))
    (shlI IntKind.i64 (bits BinOp.and IntKind.i64 (shrI IntKind.i64 (n.tmod 10) 1) 3) 8))
  14))), (.mine, .p (.int .i64 (0)))])
         (some [(.mine, .p (.int .i64 (bits BinOp.or IntKind.i64
  (bits BinOp.or IntKind.i64
    (bits BinOp.or IntKind.i64
      (bits BinOp.or IntKind.i64 (shlI IntKind.i64 (bits BinOp.and IntKind.i64 (IntKind.i64.wrap (n.tdiv 100)) 1) 7)
        (shlI IntKind.i64 (bits BinOp.and IntKind.i64 ((IntKind.i64.wrap (n.tdiv 10)).tmod 10) 1) 4))
      (bits BinOp.and IntKind.i64 (n.tmod 10) 1))
    96)
  14))), (.mine, .p (.int .i64 (0)))]))))))))))
abbrev enc18C : FnC := twoC encI 999
def enc13E : Env := mkE ty [(97, row13C)] [] [(0, [4, 6, 7, 39])] [(0, [4, 7])] 4 (fun _ => false)
def enc13T (n : Int) : R :=
(cond (decide (n < 0))
 (some [(.mine, .p (.int .i64 (0))), (.mine, .p (.int .i64 (3)))])
 (cond (decide (n > 999))
  (some [(.mine, .p (.int .i64 (0))), (.mine, .p (.int .i64 (3)))])
  (cond (IntKind.i64.wrap
    (IntKind.i64.wrap
        (IntKind.i64.wrap (IntKind.i64.wrap ((IntKind.i64.wrap (n.tdiv 100)).tdiv 8) * 4) +
          IntKind.i64.wrap (IntKind.i64.wrap (((IntKind.i64.wrap (n.tdiv 10)).tmod 10).tdiv 8) * 2)) +
      IntKind.i64.wrap ((n.tmod 10).tdiv 8)) ==
  0)
   (some [(.mine, .p (.int .i64 (bits BinOp.or IntKind.i64
  (bits BinOp.or IntKind.i64
    (bits BinOp.or IntKind.i64
      (bits BinOp.or IntKind.i64
        (bits BinOp.or IntKind.i64
          (shlI IntKind.i64 ((IntKind.i64.wrap ((IntKind.i64.wrap (n.tdiv 100)).tdiv 2)).tmod 4) 8)
          (shlI IntKind.i64 ((IntKind.i64.wrap (n.tdiv 100)).tmod 2) 7))
        (shlI IntKind.i64 ((IntKind.i64.wrap (((IntKind.i64.wrap (n.tdiv 10)).tmod 10).tdiv 2)).tmod 4) 5))
      (shlI IntKind.i64 (((IntKind.i64.wrap (n.tdiv 10)).tmod 10).tmod 2) 4))
    (shlI IntKind.i64 ((IntKind.i64.wrap ((n.tmod 10).tdiv 2)).tmod 4) 1))
  ((n.tmod 10).tmod 2)))), (.mine, .p (.int .i64 (0)))])
   (cond (IntKind.i64.wrap
    (IntKind.i64.wrap
        (IntKind.i64.wrap (IntKind.i64.wrap ((IntKind.i64.wrap (n.tdiv 100)).tdiv 8) * 4) +
          IntKind.i64.wrap (IntKind.i64.wrap (((IntKind.i64.wrap (n.tdiv 10)).tmod 10).tdiv 8) * 2)) +
      IntKind.i64.wrap ((n.tmod 10).tdiv 8)) ==
  1)
    (some [(.mine, .p (.int .i64 (bits BinOp.or IntKind.i64
  (bits BinOp.or IntKind.i64
    (bits BinOp.or IntKind.i64
      (bits BinOp.or IntKind.i64
        (bits BinOp.or IntKind.i64
          (shlI IntKind.i64 ((IntKind.i64.wrap ((IntKind.i64.wrap (n.tdiv 100)).tdiv 2)).tmod 4) 8)
          (shlI IntKind.i64 ((IntKind.i64.wrap (n.tdiv 100)).tmod 2) 7))
        (shlI IntKind.i64 ((IntKind.i64.wrap (((IntKind.i64.wrap (n.tdiv 10)).tmod 10).tdiv 2)).tmod 4) 5))
      (shlI IntKind.i64 (((IntKind.i64.wrap (n.tdiv 10)).tmod 10).tmod 2) 4))
    (shlI IntKind.i64 4 1))
  ((n.tmod 10).tmod 2)))), (.mine, .p (.int .i64 (0)))])
    (cond (IntKind.i64.wrap
    (IntKind.i64.wrap
        (IntKind.i64.wrap (IntKind.i64.wrap ((IntKind.i64.wrap (n.tdiv 100)).tdiv 8) * 4) +
          IntKind.i64.wrap (IntKind.i64.wrap (((IntKind.i64.wrap (n.tdiv 10)).tmod 10).tdiv 8) * 2)) +
      IntKind.i64.wrap ((n.tmod 10).tdiv 8)) ==
  2)
     (some [(.mine, .p (.int .i64 (bits BinOp.or IntKind.i64
  (bits BinOp.or IntKind.i64
    (bits BinOp.or IntKind.i64
      (bits BinOp.or IntKind.i64
        (bits BinOp.or IntKind.i64
          (shlI IntKind.i64 ((IntKind.i64.wrap ((IntKind.i64.wrap (n.tdiv 100)).tdiv 2)).tmod 4) 8)
          (shlI IntKind.i64 ((IntKind.i64.wrap (n.tdiv 100)).tmod 2) 7))
        (shlI IntKind.i64 ((IntKind.i64.wrap ((n.tmod 10).tdiv 2)).tmod 4) 5))
      (shlI IntKind.i64 (((IntKind.i64.wrap (n.tdiv 10)).tmod 10).tmod 2) 4))
    (shlI IntKind.i64 5 1))
  ((n.tmod 10).tmod 2)))), (.mine, .p (.int .i64 (0)))])
     (cond (IntKind.i64.wrap
    (IntKind.i64.wrap
        (IntKind.i64.wrap (IntKind.i64.wrap ((IntKind.i64.wrap (n.tdiv 100)).tdiv 8) * 4) +
          IntKind.i64.wrap (IntKind.i64.wrap (((IntKind.i64.wrap (n.tdiv 10)).tmod 10).tdiv 8) * 2)) +
      IntKind.i64.wrap ((n.tmod 10).tdiv 8)) ==
  4)
      (some [(.mine, .p (.int .i64 (bits BinOp.or IntKind.i64
  (bits BinOp.or IntKind.i64
    (bits BinOp.or IntKind.i64
      (bits BinOp.or IntKind.i64
        (bits BinOp.or IntKind.i64 (shlI IntKind.i64 ((IntKind.i64.wrap ((n.tmod 10).tdiv 2)).tmod 4) 8)
          (shlI IntKind.i64 ((IntKind.i64.wrap (n.tdiv 100)).tmod 2) 7))
        (shlI IntKind.i64 ((IntKind.i64.wrap (((IntKind.i64.wrap (n.tdiv 10)).tmod 10).tdiv 2)).tmod 4) 5))
      (shlI IntKind.i64 (((IntKind.i64.wrap (n.tdiv 10)).tmod 10).tmod 2) 4))
    (shlI IntKind.i64 6 1))
  ((n.tmod 10).tmod 2)))), (.mine, .p (.int .i64 (0)))])
      (cond (IntKind.i64.wrap
    (IntKind.i64.wrap
        (IntKind.i64.wrap (IntKind.i64.wrap ((IntKind.i64.wrap (n.tdiv 100)).tdiv 8) * 4) +
          IntKind.i64.wrap (IntKind.i64.wrap (((IntKind.i64.wrap (n.tdiv 10)).tmod 10).tdiv 8) * 2)) +
      IntKind.i64.wrap ((n.tmod 10).tdiv 8)) ==
  3)
       (some [(.mine, .p (.int .i64 (bits BinOp.or IntKind.i64
  (bits BinOp.or IntKind.i64
    (bits BinOp.or IntKind.i64
      (bits BinOp.or IntKind.i64
        (bits BinOp.or IntKind.i64
          (shlI IntKind.i64 ((IntKind.i64.wrap ((IntKind.i64.wrap (n.tdiv 100)).tdiv 2)).tmod 4) 8)
          (shlI IntKind.i64 ((IntKind.i64.wrap (n.tdiv 100)).tmod 2) 7))
        (shlI IntKind.i64 2 5))
      (shlI IntKind.i64 (((IntKind.i64.wrap (n.tdiv 10)).tmod 10).tmod 2) 4))
    (shlI IntKind.i64 7 1))
  ((n.tmod 10).tmod 2)))), (.mine, .p (.int .i64 (0)))])
       (cond (IntKind.i64.wrap
    (IntKind.i64.wrap
        (IntKind.i64.wrap (IntKind.i64.wrap ((IntKind.i64.wrap (n.tdiv 100)).tdiv 8) * 4) +
          IntKind.i64.wrap (IntKind.i64.wrap (((IntKind.i64.wrap (n.tdiv 10)).tmod 10).tdiv 8) * 2)) +
      IntKind.i64.wrap ((n.tmod 10).tdiv 8)) ==
  5)
        (some [(.mine, .p (.int .i64 (bits BinOp.or IntKind.i64
  (bits BinOp.or IntKind.i64
    (bits BinOp.or IntKind.i64
      (bits BinOp.or IntKind.i64
        (bits BinOp.or IntKind.i64
          (shlI IntKind.i64 ((IntKind.i64.wrap (((IntKind.i64.wrap (n.tdiv 10)).tmod 10).tdiv 2)).tmod 4) 8)
          (shlI IntKind.i64 ((IntKind.i64.wrap (n.tdiv 100)).tmod 2) 7))
        (shlI IntKind.i64 1 5))
      (shlI IntKind.i64 (((IntKind.i64.wrap (n.tdiv 10)).tmod 10).tmod 2) 4))
    (shlI IntKind.i64 7 1))
  ((n.tmod 10).tmod 2)))), (.mine, .p (.int .i64 (0)))])
        (cond (IntKind.i64.wrap
    (IntKind.i64.wrap
        (IntKind.i64.wrap (IntKind.i64.wrap ((IntKind.i64.wrap (n.tdiv 100)).tdiv 8) * 4) +
          IntKind.i64.wrap (IntKind.i64.wrap (((IntKind.i64.wrap (n.tdiv 10)).tmod 10).tdiv 8) * 2)) +
      IntKind.i64.wrap ((n.tmod 10).tdiv 8)) ==
  6)
         (some [(.mine, .p (.int .i64 (bits BinOp.or IntKind.i64
  (bits BinOp.or IntKind.i64
    (bits BinOp.or IntKind.i64
      (bits BinOp.or IntKind.i64
        (bits BinOp.or IntKind.i64 (shlI IntKind.i64 ((IntKind.i64.wrap ((n.tmod 10).tdiv 2)).tmod 4) 8)
          (shlI IntKind.i64 ((IntKind.i64.wrap (n.tdiv 100)).tmod 2) 7))
        (shlI IntKind.i64 0 5))
      (shlI IntKind.i64 (((IntKind.i64.wrap (n.tdiv 10)).tmod 10).tmod 2) 4))
    (shlI IntKind.i64 7 1))
  ((n.tmod 10).tmod 2)))), (.mine, .p (.int .i64 (0)))])
         (some [(.mine, .p (.int .i64 (bits BinOp.or IntKind.i64
  (bits BinOp.or IntKind.i64
    (bits BinOp.or IntKind.i64
      (bits BinOp.or IntKind.i64
        (bits BinOp.or IntKind.i64 (shlI IntKind.i64 0 8) (shlI IntKind.i64 ((IntKind.i64.wrap (n.tdiv 100)).tmod 2) 7))
        (shlI IntKind.i64 3 5))
      (shlI IntKind.i64 (((IntKind.i64.wrap (n.tdiv 10)).tmod 10).tmod 2) 4))
    (shlI IntKind.i64 7 1))
  ((n.tmod 10).tmod 2)))), (.mine, .p (.int .i64 (0)))]))))))))))
theorem enc13_ev (n : Int) : evFn enc13E Try.f94 [.p (.int .i64 n)] = enc13T n := by kernel_rfl
theorem enc13_he : ∀ ds κ r, (∀ d ∈ ds, d.wf) → twoC encI 999 ds κ = some r → ∃ res, κ res = some r ∧ evFn enc13E Try.f94 ds = some res :=
  two_of (N := 1000) enc13_ev rfl (fun n h => by unfold enc13T; rw [decide_eq_true h, cond_true]) (fun n h h' => by unfold enc13T; rw [decide_eq_false h, cond_false, decide_eq_true h', cond_true]) (by kernel_rfl)
abbrev enc13C : FnC := twoC encI 999
theorem enc13_fn : FnOK Try.prog 94 enc13C := fnOK_mk T mixed Try.func94 (by kernel_rfl) (fns := [(97, row13C)]) (lps := []) (live := [(0, [4, 6, 7, 39])]) (out := [(0, [4, 7])]) (fuel := 4) (give := (fun _ => false)) ⟨row13_fn, trivial⟩ trivial enc13_he
def dec18T (n : Int) : R :=
(cond (decide (n < 0))
 (some [(.mine, .p (.int .i64 (0))), (.mine, .p (.int .i64 (3)))])
 (cond (decide (n > 1023))
  (some [(.mine, .p (.int .i64 (0))), (.mine, .p (.int .i64 (3)))])
  (cond (decide (bits BinOp.and IntKind.i64 (shrI IntKind.i64 n 1) 7 < 4))
   (some [(.mine, .p (.int .i64 (IntKind.i64.wrap
  (IntKind.i64.wrap
      (IntKind.i64.wrap
          (IntKind.i64.wrap
              (IntKind.i64.wrap
                  (IntKind.i64.wrap (2 * bits BinOp.and IntKind.i64 (shrI IntKind.i64 n 8) 3) +
                    bits BinOp.and IntKind.i64 (shrI IntKind.i64 n 7) 1) *
                100) +
            IntKind.i64.wrap
              (IntKind.i64.wrap
                  (IntKind.i64.wrap (2 * bits BinOp.and IntKind.i64 (shrI IntKind.i64 n 5) 3) +
                    bits BinOp.and IntKind.i64 (shrI IntKind.i64 n 4) 1) *
                10)) +
        IntKind.i64.wrap (2 * bits BinOp.and IntKind.i64 (shrI IntKind.i64 n 1) 7)) +
    bits BinOp.and IntKind.i64 n 1)))), (.mine, .p (.int .i64 (0)))])
   (cond (bits BinOp.and IntKind.i64 (shrI IntKind.i64 n 1) 7 == 4)
    (some [(.mine, .p (.int .i64 (IntKind.i64.wrap
  (IntKind.i64.wrap
      (IntKind.i64.wrap
          (IntKind.i64.wrap
              (IntKind.i64.wrap
                  (IntKind.i64.wrap (2 * bits BinOp.and IntKind.i64 (shrI IntKind.i64 n 8) 3) +
                    bits BinOp.and IntKind.i64 (shrI IntKind.i64 n 7) 1) *
                100) +
            IntKind.i64.wrap
              (IntKind.i64.wrap
                  (IntKind.i64.wrap (2 * bits BinOp.and IntKind.i64 (shrI IntKind.i64 n 5) 3) +
                    bits BinOp.and IntKind.i64 (shrI IntKind.i64 n 4) 1) *
                10)) +
        IntKind.i64.wrap (2 * 4)) +
    bits BinOp.and IntKind.i64 n 1)))), (.mine, .p (.int .i64 (0)))])
    (cond (bits BinOp.and IntKind.i64 (shrI IntKind.i64 n 1) 7 == 5)
     (some [(.mine, .p (.int .i64 (IntKind.i64.wrap
  (IntKind.i64.wrap
      (IntKind.i64.wrap
          (IntKind.i64.wrap
              (IntKind.i64.wrap
                  (IntKind.i64.wrap (2 * bits BinOp.and IntKind.i64 (shrI IntKind.i64 n 8) 3) +
                    bits BinOp.and IntKind.i64 (shrI IntKind.i64 n 7) 1) *
                100) +
            IntKind.i64.wrap
              (IntKind.i64.wrap (IntKind.i64.wrap (2 * 4) + bits BinOp.and IntKind.i64 (shrI IntKind.i64 n 4) 1) *
                10)) +
        IntKind.i64.wrap (2 * bits BinOp.and IntKind.i64 (shrI IntKind.i64 n 5) 3)) +
    bits BinOp.and IntKind.i64 n 1)))), (.mine, .p (.int .i64 (0)))])
     (cond (bits BinOp.and IntKind.i64 (shrI IntKind.i64 n 1) 7 == 6)
      (some [(.mine, .p (.int .i64 (IntKind.i64.wrap
  (IntKind.i64.wrap
      (IntKind.i64.wrap
          (IntKind.i64.wrap
              (IntKind.i64.wrap (IntKind.i64.wrap (2 * 4) + bits BinOp.and IntKind.i64 (shrI IntKind.i64 n 7) 1) *
                100) +
            IntKind.i64.wrap
              (IntKind.i64.wrap
                  (IntKind.i64.wrap (2 * bits BinOp.and IntKind.i64 (shrI IntKind.i64 n 5) 3) +
                    bits BinOp.and IntKind.i64 (shrI IntKind.i64 n 4) 1) *
                10)) +
        IntKind.i64.wrap (2 * bits BinOp.and IntKind.i64 (shrI IntKind.i64 n 8) 3)) +
    bits BinOp.and IntKind.i64 n 1)))), (.mine, .p (.int .i64 (0)))])
      (cond (bits BinOp.and IntKind.i64 (shrI IntKind.i64 n 5) 3 == 0)
       (some [(.mine, .p (.int .i64 (IntKind.i64.wrap
  (IntKind.i64.wrap
      (IntKind.i64.wrap
          (IntKind.i64.wrap
              (IntKind.i64.wrap (IntKind.i64.wrap (2 * 4) + bits BinOp.and IntKind.i64 (shrI IntKind.i64 n 7) 1) *
                100) +
            IntKind.i64.wrap
              (IntKind.i64.wrap (IntKind.i64.wrap (2 * 4) + bits BinOp.and IntKind.i64 (shrI IntKind.i64 n 4) 1) *
                10)) +
        IntKind.i64.wrap (2 * bits BinOp.and IntKind.i64 (shrI IntKind.i64 n 8) 3)) +
    bits BinOp.and IntKind.i64 n 1)))), (.mine, .p (.int .i64 (0)))])
       (cond (bits BinOp.and IntKind.i64 (shrI IntKind.i64 n 5) 3 == 1)
        (some [(.mine, .p (.int .i64 (IntKind.i64.wrap
  (IntKind.i64.wrap
      (IntKind.i64.wrap
          (IntKind.i64.wrap
              (IntKind.i64.wrap (IntKind.i64.wrap (2 * 4) + bits BinOp.and IntKind.i64 (shrI IntKind.i64 n 7) 1) *
                100) +
            IntKind.i64.wrap
              (IntKind.i64.wrap
                  (IntKind.i64.wrap (2 * bits BinOp.and IntKind.i64 (shrI IntKind.i64 n 8) 3) +
                    bits BinOp.and IntKind.i64 (shrI IntKind.i64 n 4) 1) *
                10)) +
        IntKind.i64.wrap (2 * 4)) +
    bits BinOp.and IntKind.i64 n 1)))), (.mine, .p (.int .i64 (0)))])
        (cond (bits BinOp.and IntKind.i64 (shrI IntKind.i64 n 5) 3 == 2)
         (some [(.mine, .p (.int .i64 (IntKind.i64.wrap
  (IntKind.i64.wrap
      (IntKind.i64.wrap
          (IntKind.i64.wrap
              (IntKind.i64.wrap
                  (IntKind.i64.wrap (2 * bits BinOp.and IntKind.i64 (shrI IntKind.i64 n 8) 3) +
                    bits BinOp.and IntKind.i64 (shrI IntKind.i64 n 7) 1) *
                100) +
            IntKind.i64.wrap
              (IntKind.i64.wrap (IntKind.i64.wrap (2 * 4) + bits BinOp.and IntKind.i64 (shrI IntKind.i64 n 4) 1) *
                10)) +
        IntKind.i64.wrap (2 * 4)) +
    bits BinOp.and IntKind.i64 n 1)))), (.mine, .p (.int .i64 (0)))])
         (some [(.mine, .p (.int .i64 (IntKind.i64.wrap
  (IntKind.i64.wrap
      (IntKind.i64.wrap
          (IntKind.i64.wrap
              (IntKind.i64.wrap (IntKind.i64.wrap (2 * 4) + bits BinOp.and IntKind.i64 (shrI IntKind.i64 n 7) 1) *
                100) +
            IntKind.i64.wrap
              (IntKind.i64.wrap (IntKind.i64.wrap (2 * 4) + bits BinOp.and IntKind.i64 (shrI IntKind.i64 n 4) 1) *
                10)) +
        IntKind.i64.wrap (2 * 4)) +
    bits BinOp.and IntKind.i64 n 1)))), (.mine, .p (.int .i64 (0)))]))))))))))
abbrev dec18C : FnC := twoC decI 1023

/-! ### ref13.Decode -/
def dec13L : List V → Mem → (X → List V → Mem → R) → R := lpC 37 [0, 13] fun vs m κ => match vs with
  | [.o (.p (.int .i64 d)), .o (.p (.int .i64 0))] => cond (decide (0 ≤ d ∧ d < 1024)) (κ .ret (lay 37 [2, 3] [.o (.p (.int .i64 (decI d))), .o (.p (.int .i64 0))]) []) none
  | _ => none
def dec13E : Env := mkE ty [(94, enc13C)] [(0, dec13L)] [(0, [0, 13])] [(0, [2, 3])] 0 (fun _ => false)
def dec13St (d i : Int) : List V := lay 37 [0, 13] [.o (.p (.int .i64 d)), .o (.p (.int .i64 i))]
theorem dec13_round (d i : Int) (k : Nat) (m : Mem) (κ : X → List V → Mem → R) : lx dec13E Try.f93 0 (k + 1) (dec13St d i) m κ =
    cond (decide (i < 1000))
      (cond (within i 999 (encI i) 0 == d)
        (κ .ret (lay 37 [2, 3] [.o (.p (.int .i64 i)), .o (.p (.int .i64 0))]) [])
        (cond (bits .and .i64 d 110 == 110)
          (cond (within i 999 (encI i) 0 == bits .and .i64 d 255)
            (κ .ret (lay 37 [2, 3] [.o (.p (.int .i64 i)), .o (.p (.int .i64 0))]) [])
            (lx dec13E Try.f93 0 k (dec13St d (IntKind.i64.wrap (i + 1))) [] κ))
          (lx dec13E Try.f93 0 k (dec13St d (IntKind.i64.wrap (i + 1))) [] κ)))
      (κ (.exit 0) (lay 37 [] []) []) := by kernel_rfl
def hitB (m : Nat) : Bool := Nat.blt (decP m) 1000 && (encP (decP m) == m || (bits .and .i64 (m : Int) 110 == 110 && (encP (decP m) : Int) == bits .and .i64 (m : Int) 255)) &&
  (!(bits .and .i64 (m : Int) 110 == 110) || decP (bits .and .i64 (m : Int) 255).toNat == decP m)
theorem hits : ((List.range 1024).all hitB) = true := by kernel_rfl
theorem backs : ((List.range 1000).all fun i => decP (encP i) == i) = true := by kernel_rfl
theorem back {i : Nat} (h : i < 1000) : decP (encP i) = i := by simpa using List.all_eq_true.mp backs i (List.mem_range.mpr h)
theorem within_in {n h a b : Int} (h0 : 0 ≤ n) (h1 : n ≤ h) : within n h a b = a := by
  unfold within
  rw [decide_eq_false (by omega), cond_false, decide_eq_false (by omega), cond_false]
theorem dec13_run {d : Nat} (hd : d < 1024) (m : Mem) (κ : X → List V → Mem → R) : ∀ (j i : Nat), i + j = decP d → lx dec13E Try.f93 0 (j + 1) (dec13St d i) m κ = κ .ret (lay 37 [2, 3] [.o (.p (.int .i64 (decP d))), .o (.p (.int .i64 0))]) [] := by
  have hh := List.all_eq_true.mp hits d (List.mem_range.mpr hd)
  unfold hitB at hh
  simp only [Bool.and_eq_true, Bool.or_eq_true, Nat.blt_eq, beq_iff_eq, Bool.not_eq_true', beq_eq_false_iff_ne, ne_eq] at hh
  obtain ⟨⟨h1, h2⟩, h3⟩ := hh
  intro j
  induction j generalizing m with
  | zero =>
    intro i hi
    obtain rfl : i = decP d := by omega
    rw [dec13_round, decide_eq_true (by omega), cond_true, within_in (by omega) (by omega)]
    have e : encI (decP d : Nat) = encP (decP d) := rfl
    rw [e]
    rcases h2 with h2 | ⟨h2, h4⟩
    · rw [h2, beq_self_eq_true, cond_true]
    · rw [h2, beq_self_eq_true, cond_true, ← h4, beq_self_eq_true, cond_true]
      cases (((encP (decP d) : Nat) : Int) == (d : Int)) <;> rfl
  | succ j ih =>
    intro i hi
    rw [dec13_round, decide_eq_true (by omega), cond_true, within_in (by omega) (by omega)]
    have e : encI (i : Nat) = encP i := rfl
    have b := back (i := i) (by omega)
    have w : IntKind.i64.wrap ((i : Int) + 1) = ((i + 1 : Nat) : Int) := by
      rw [i64_wrap (by omega) (by omega)]; rfl
    have n1 : (((encP i : Nat) : Int) == (d : Int)) = false := by
      rw [beq_eq_false_iff_ne]
      intro h
      have h : encP i = d := by omega
      rw [h] at b
      omega
    rw [e, n1, cond_false, w]
    by_cases h5 : bits .and .i64 (d : Int) 110 = 110
    · have n2 : (((encP i : Nat) : Int) == bits .and .i64 (d : Int) 255) = false := by
        rw [beq_eq_false_iff_ne]
        intro h
        rw [← h] at h3
        rcases h3 with h3 | h3
        · exact h3 h5
        · rw [Int.toNat_natCast, b] at h3
          omega
      rw [h5, beq_self_eq_true, cond_true, n2, cond_false]
      exact ih [] (i + 1) (by omega)
    · rw [beq_eq_false_iff_ne.mpr h5, cond_false]
      exact ih [] (i + 1) (by omega)
theorem dec13L_ok : LoopOK dec13E 0 (lbody Try.f93 0) dec13L := loopOK_lx fun vs m κ r hv hm h => by
  split at h
  case h_2 => cases h
  rename_i d
  replace h := cond_none h
  obtain ⟨hc, h⟩ := h
  obtain ⟨h1, h2⟩ := of_decide_eq_true hc
  obtain ⟨e, rfl⟩ : ∃ e : Nat, d = e := ⟨d.toNat, by omega⟩
  exact ⟨_, (dec13_run (d := e) (by omega) m κ (decP e) 0 (by omega)).trans h⟩
theorem dec13_ev (d : Int) : evFn dec13E Try.f93 [.p (.int .i64 d)] = cond (decide (d < 0)) (some [(.mine, .p (.int .i64 0)), (.mine, .p (.int .i64 3))]) (cond (decide (d > 1023)) (some [(.mine, .p (.int .i64 0)), (.mine, .p (.int .i64 3))])
    (cond (decide (0 ≤ d ∧ d < 1024)) (some [(.mine, .p (.int .i64 (decI d))), (.mine, .p (.int .i64 0))]) none)) := by kernel_rfl
theorem dec13_he : ∀ ds κ r, (∀ d ∈ ds, d.wf) → twoC decI 1023 ds κ = some r → ∃ res, κ res = some r ∧ evFn dec13E Try.f93 ds = some res := fun ds κ r hw hr => by
  unfold twoC at hr
  split at hr
  case h_2 => cases hr
  rename_i n
  refine ⟨_, hr, ?_⟩
  rw [dec13_ev]
  unfold within
  by_cases h0 : n < 0
  · rw [decide_eq_true h0, cond_true, cond_true, cond_true]
  · rw [decide_eq_false h0, cond_false, cond_false, cond_false]
    by_cases h1 : n > 1023
    · rw [decide_eq_true h1, cond_true, cond_true, cond_true]
    · rw [decide_eq_false h1, cond_false, cond_false, cond_false, decide_eq_true (by omega), cond_true]
abbrev dec13C : FnC := twoC decI 1023
theorem dec13_fn : FnOK Try.prog 93 dec13C := fnOK_mk T mixed Try.func93 (by kernel_rfl) (fns := [(94, enc13C)]) (lps := [(0, dec13L)]) (live := [(0, [0, 13])]) (out := [(0, [2, 3])]) (fuel := 0) (give := (fun _ => false)) ⟨enc13_fn, trivial⟩ ⟨dec13L_ok, trivial⟩ dec13_he

/-! ### Canonical, awake, the law -/
def awake13C : FnC := fun ds κ => match ds with
  | [] => κ [(.mine, .p (.bool true))]
  | _ => none
end
end Go.Proofs.Ytcglfmldodhakaa.Vm

namespace Go.Proofs.Ytcglfmldodhakaa.Vm
open Go Go.Vm
noncomputable section
set_option linter.unusedVariables false
theorem encs_lt : ((List.range 1000).all fun i => Nat.blt (encP i) 1024) = true := by kernel_rfl
theorem decs_lt : ((List.range 1024).all fun i => Nat.blt (decP i) 1000) = true := by kernel_rfl
theorem enc_lt {i : Nat} (h : i < 1000) : encP i < 1024 := by simpa using List.all_eq_true.mp encs_lt i (List.mem_range.mpr h)
theorem dec_lt {i : Nat} (h : i < 1024) : decP i < 1000 := by simpa using List.all_eq_true.mp decs_lt i (List.mem_range.mpr h)
/-- The first k digits (base 1000) of C as declets. -/
def pkD : Nat → Nat → Nat
  | 0, _ => 0
  | k + 1, C => pkD k C + encP (C / 1000 ^ k % 1000) * 1024 ^ k
/-- The highest k of n declets of B as a number. -/
def upH (n B : Nat) : Nat → Nat
  | 0 => 0
  | k + 1 => upH n B k * 1000 + decP (B / 1024 ^ (n - 1 - k) % 1024)
def upD (n B : Nat) : Nat := upH n B n
theorem pkD_lt (C : Nat) : ∀ k, pkD k C < 1024 ^ k
  | 0 => by rw [Nat.pow_zero]; exact Nat.one_pos
  | k + 1 => by
    have h1 := pkD_lt C k
    have h2 : encP (C / 1000 ^ k % 1000) + 1 ≤ 1024 := enc_lt (Nat.mod_lt _ (by decide))
    have h3 := Nat.mul_le_mul_right (1024 ^ k) h2
    rw [Nat.add_mul, Nat.one_mul] at h3
    show pkD k C + encP (C / 1000 ^ k % 1000) * 1024 ^ k < _
    rw [Nat.pow_succ']
    omega
theorem upH_lt (n B : Nat) : ∀ k, upH n B k < 1000 ^ k
  | 0 => by rw [Nat.pow_zero]; exact Nat.one_pos
  | k + 1 => by
    have h1 := upH_lt n B k
    have h2 : decP (B / 1024 ^ (n - 1 - k) % 1024) < 1000 := dec_lt (Nat.mod_lt _ (by decide))
    show upH n B k * 1000 + decP _ < _
    rw [Nat.pow_succ]
    omega
theorem pkD_dig (C i : Nat) : ∀ k, i < k → pkD k C / 1024 ^ i % 1024 = encP (C / 1000 ^ i % 1000)
  | 0, h => by omega
  | k + 1, h => by
    show (pkD k C + encP (C / 1000 ^ k % 1000) * 1024 ^ k) / 1024 ^ i % 1024 = _
    have hp : 0 < 1024 ^ i := Nat.pow_pos (by decide)
    by_cases hi : i = k
    · subst hi
      rw [Nat.add_mul_div_right _ _ hp, Nat.div_eq_of_lt (pkD_lt C i), Nat.zero_add, Nat.mod_eq_of_lt (enc_lt (Nat.mod_lt _ (by decide)))]
    · obtain ⟨j, rfl⟩ : ∃ j, k = i + 1 + j := ⟨k - (i + 1), by omega⟩
      have e : encP (C / 1000 ^ (i + 1 + j) % 1000) * 1024 ^ (i + 1 + j) = (encP (C / 1000 ^ (i + 1 + j) % 1000) * 1024 ^ j) * 1024 * 1024 ^ i := by
        generalize encP (C / 1000 ^ (i + 1 + j) % 1000) = E
        rw [Nat.pow_add, Nat.pow_succ, Nat.mul_comm (1024 ^ i * 1024) (1024 ^ j), Nat.mul_comm (1024 ^ i) 1024]
        simp only [Nat.mul_assoc]
      rw [e, Nat.add_mul_div_right _ _ hp, Nat.add_mul_mod_self_right]
      exact pkD_dig C i _ (by omega)
theorem up_pk {n C : Nat} (hC : C < 1000 ^ n) : ∀ k, k ≤ n → upH n (pkD n C) k = C / 1000 ^ (n - k)
  | 0, _ => by
    rw [Nat.sub_zero, Nat.div_eq_of_lt hC]
    rfl
  | k + 1, h => by
    show upH n (pkD n C) k * 1000 + decP (pkD n C / 1024 ^ (n - 1 - k) % 1024) = _
    rw [up_pk hC k (by omega), pkD_dig C _ n (by omega), back (Nat.mod_lt _ (by decide)), show n - k = n - 1 - k + 1 by omega, show n - (k + 1) = n - 1 - k by omega, Nat.pow_succ, ← Nat.div_div_eq_div_mul]
    exact Nat.div_add_mod' _ _
theorem upD_pkD {n C : Nat} (hC : C < 1000 ^ n) : upD n (pkD n C) = C := by
  unfold upD
  rw [up_pk hC n (Nat.le_refl _), Nat.sub_self, Nat.pow_zero, Nat.div_one]
theorem pkD_more {n C : Nat} (hC : C < 1000 ^ n) : pkD (n + 1) C = pkD n C := by
  show pkD n C + encP (C / 1000 ^ n % 1000) * 1024 ^ n = _
  rw [Nat.div_eq_of_lt hC, Nat.zero_mod, show encP 0 = 0 from rfl, Nat.zero_mul, Nat.add_zero]
theorem k1024 {n : Nat} (h : n ≤ 11) : 1024 ^ n ≤ 2 ^ 110 := by
  have : (1024 : Nat) ^ n = 2 ^ (10 * n) := by rw [Nat.pow_mul]
  rw [this]
  exact Nat.pow_le_pow_right (by decide) (by omega)
theorem k1000 {n : Nat} (h : n ≤ 11) : 1000 ^ n ≤ 2 ^ 110 := Nat.le_trans (Nat.pow_le_pow_left (by decide) n) (k1024 h)
theorem p1024 (n : Nat) : (2 : Nat) ^ (10 * n) = 1024 ^ n := by rw [Nat.pow_mul]
end
end Go.Proofs.Ytcglfmldodhakaa.Vm

namespace Go.Proofs.Ytcglfmldodhakaa.Vm
open Go Go.Vm
noncomputable section
set_option linter.unusedVariables false

/-! ### declet.Pack -/
def two13 (b : List Int) (e : Int) : List (Own × D) := [(.mine, .r .u64 4 b), (.mine, .p (.int .i64 e))]
def pack13C : FnC := fun ds κ => match ds with
  | [.r .u64 4 c, .p (.int .i64 n)] => cond (decide (0 ≤ n ∧ n ≤ 11)) (cond (decide (val c < 1000 ^ n.toNat)) (κ (two13 (wordsN 4 (pkD n.toNat (val c))) 0)) (κ (two13 (wordsN 4 0) 3))) (κ (two13 (wordsN 4 0) 1))
  | _ => none
def unpack13C : FnC := fun ds κ => match ds with
  | [.r .u64 4 b, .p (.int .i64 n)] => cond (decide (0 ≤ n ∧ n ≤ 11)) (cond (decide (val b < 1024 ^ n.toNat)) (κ (two13 (wordsN 4 (upD n.toNat (val b))) 0)) (κ (two13 (wordsN 4 0) 3))) (κ (two13 (wordsN 4 0) 1))
  | _ => none
theorem and1023 {x : Nat} (hx : x < 18446744073709551616) : Go.bits .and .u64 (x : Int) 1023 = ((x % 1024 : Nat) : Int) := by
  have e : IntKind.u64.wrap (shlI .u64 1 ((10 : Nat) : Int) - 1) = 1023 := by kernel_rfl
  have := and_mask (r := 10) hx (by decide)
  rw [e] at this
  exact this
theorem encw {x : Nat} (h : x < 1000) : (IntKind.u64.wrap (within (IntKind.i64.wrap (x : Int)) 999 (encI (IntKind.i64.wrap (x : Int))) 0)).toNat = encP x := by
  have := enc_lt h
  rw [i64_wrap (by omega) (by omega), within_in (by omega) (by omega)]
  unfold encI
  rw [Int.toNat_natCast, u64_wrap (by omega) (by omega), Int.toNat_natCast]
theorem decw {x : Nat} (h : x < 1024) : (IntKind.u64.wrap (within (IntKind.i64.wrap (x : Int)) 1023 (decI (IntKind.i64.wrap (x : Int))) 0)).toNat = decP x := by
  have := dec_lt h
  rw [i64_wrap (by omega) (by omega), within_in (by omega) (by omega)]
  unfold decI
  rw [Int.toNat_natCast, u64_wrap (by omega) (by omega), Int.toNat_natCast]
theorem w10 {j : Nat} (h : j ≤ 11) : (IntKind.i64.wrap (10 * (j : Int))).toNat = 10 * j := by
  rw [i64_wrap (by omega) (by omega)]
  omega
theorem lt13z {a : Nat} (h : a ≤ 2 ^ 110) : a < 2 ^ 256 := Nat.lt_of_le_of_lt h (by decide)
theorem enc_part {C i : Nat} (hi : i < 11) : encP (C / 1000 ^ i % 1000) * 1024 ^ i < 2 ^ 256 ∧ pkD i C + encP (C / 1000 ^ i % 1000) * 1024 ^ i < 2 ^ 256 ∧ encP (C / 1000 ^ i % 1000) < 2 ^ 256 ∧ pkD i C < 2 ^ 256 := by
  have h1 : pkD (i + 1) C < 1024 ^ (i + 1) := pkD_lt C (i + 1)
  have h2 : pkD (i + 1) C = pkD i C + encP (C / 1000 ^ i % 1000) * 1024 ^ i := rfl
  have h3 := lt13z (k1024 (show i + 1 ≤ 11 by omega))
  have h4 : encP (C / 1000 ^ i % 1000) < 1024 := enc_lt (Nat.mod_lt _ (by decide))
  have h5 : 1024 < 2 ^ 256 := by decide
  generalize 2 ^ 256 = Z at *
  generalize 1024 ^ (i + 1) = U at *
  omega
def pack18L : LpC := lpC 54 [4, 6, 7, 21, 22] fun vs m κ => match vs, m with
  | [.o (.a 0 0), .o (.a 1 0), .o (.a 2 0), .o (.p (.int .i64 n)), .o (.p (.int .i64 i))], [(.mine, .w .u64 4 rs), (.mine, .w .u64 4 out), (.mine, .w .u64 4 cs)] =>
    cond (decide (0 ≤ n ∧ n ≤ 11 ∧ i = 0 ∧ val out = 0)) (κ (.exit 0) (lay 54 [4, 6, 7] [.o (.a 0 0), .o (.a 1 0), .o (.a 2 0)]) [(.mine, .w .u64 4 rs), (.mine, .w .u64 4 (wordsN 4 (pkD n.toNat (val cs)))), (.mine, .w .u64 4 (wordsN 4 (val cs / 1000 ^ n.toNat)))]) none
  | _, _ => none
def pack18St (n i : Int) : List V := lay 54 [4, 6, 7, 21, 22] [.o (.a 0 0), .o (.a 1 0), .o (.a 2 0), .o (.p (.int .i64 n)), .o (.p (.int .i64 i))]
theorem zero4 {a : Nat} (h : a < 2 ^ 256) : (wordsN 4 a = List.replicate 4 (0 : Int)) ↔ a = 0 := by
  constructor
  · intro e
    have := congrArg val e
    rw [lo4 h, val_zeros] at this
    exact this
  · rintro rfl
    rfl
abbrev pack18C := pack13C

/-! ### declet.Unpack -/
def unpack18L : LpC := lpC 56 [2, 4, 6, 7] fun vs m κ => match vs, m with
  | [.o (.a 0 0), .o (.a 1 0), .o (.a 2 0), .o (.p (.int .i64 i))], [(.mine, .w .u64 4 bs), (.mine, .w .u64 4 rs), (.mine, .w .u64 4 out)] =>
    cond (decide (-1 ≤ i ∧ i ≤ 10 ∧ val out = 0)) (κ (.exit 1) (lay 56 [4, 6] [.o (.a 0 0), .o (.a 1 0)]) [(.mine, .w .u64 4 rs), (.mine, .w .u64 4 (wordsN 4 (upD (i + 1).toNat (val bs))))]) none
  | _, _ => none
def unpack18St (i : Int) : List V := lay 56 [2, 4, 6, 7] [.o (.a 0 0), .o (.a 1 0), .o (.a 2 0), .o (.p (.int .i64 i))]
theorem up_part {n B k : Nat} (hn : n ≤ 11) (hk : k < n) : upH n B k < 2 ^ 256 ∧ upH n B k * 1000 < 2 ^ 256 ∧ decP (B / 1024 ^ (n - 1 - k) % 1024) < 2 ^ 256 := by
  have h1 := upH_lt n B k
  have h3 := k1000 (show k + 1 ≤ 11 by omega)
  have h4 : decP (B / 1024 ^ (n - 1 - k) % 1024) < 1000 := dec_lt (Nat.mod_lt _ (by decide))
  have h5 : 2 ^ 110 < 2 ^ 256 := by decide
  have h6 : 1000 < 2 ^ 256 := by decide
  rw [Nat.pow_succ] at h3
  generalize 2 ^ 256 = Z at *
  generalize 2 ^ 110 = Y at *
  generalize 1000 ^ k = U at *
  omega
abbrev unpack18C := unpack13C

end
end Go.Proofs.Ytcglfmldodhakaa.Vm

namespace Go.Proofs.Ytcglfmldodhakaa.Vm
open Go Go.Vm
noncomputable section
set_option linter.unusedVariables false

def rNatC : FnC := fun ds κ => match ds with
  | [.r .u64 4 b] => κ [(.mine, .w .u64 (words (val b)))]
  | _ => none
def rNatE : Env := mkE ty [(42, trimC)] [] [] [] 0 (fun _ => false)
theorem rNat_ev (b : List Int) : evFn rNatE Try.f16 [.r .u64 4 b] = cond (decide (b.length ≤ 1099511627776)) (some [(.mine, .w .u64 (words (val b)))]) none := by kernel_rfl
theorem rNat_he : ∀ ds κ r, (∀ d ∈ ds, d.wf) → rNatC ds κ = some r → ∃ res, κ res = some r ∧ evFn rNatE Try.f16 ds = some res := fun ds κ r hw h => by
  unfold rNatC at h
  split at h
  case h_2 => cases h
  rename_i b
  obtain ⟨hl, hx⟩ := wfR hw (xs := b) (n := 4) (by simp)
  refine ⟨_, h, (rNat_ev b).trans ?_⟩
  rw [decide_eq_true (by omega), cond_true]
theorem rNat_fn : FnOK Try.prog 16 rNatC := fnOK_mk T mixed Try.func16 (by kernel_rfl) (fns := [(42, trimC)]) (lps := []) (live := []) (out := []) (fuel := 0) (give := (fun _ => false)) ⟨trim_fn, trivial⟩ trivial rNat_he

/-! ### ref13.Pack -/
theorem val1 (a : Int) : val [a] = a.toNat := rfl
def rpackL : LpC := lpC 52 [4, 6, 7, 22, 23] fun vs m κ => match vs, m with
  | [.o (.a 0 0), .o (.f 1), .o (.a 2 0), .o (.p (.int .i64 n)), .o (.p (.int .i64 i))], [(.mine, .w .u64 4 rs), (.mine, .w .u64 n1 cs), (.mine, .w .u64 4 out)] =>
    cond (decide (0 ≤ n ∧ n ≤ 11 ∧ i = 0 ∧ val out = 0 ∧ cs = words (val cs) ∧ n1 ≤ 4))
      (κ (.exit 0) (lay 52 [4, 6, 7] [.o (.a 0 0), .o (.f 1), .o (.a 2 0)]) [(.mine, .w .u64 4 rs), (cond (decide (n = 0)) .mine .new, .w .u64 (words (val cs / 1000 ^ n.toNat)).length (words (val cs / 1000 ^ n.toNat))), (.mine, .w .u64 4 (wordsN 4 (pkD n.toNat (val cs))))]) none
  | _, _ => none
def rpackE : Env := mkE ty [(16, rNatC), (19, overC), (76, rNumberC), (94, enc13C), (80, rLayC)] [(0, rpackL)] [(0, [4, 6, 7, 22, 23])] [(0, [4, 6, 7])] 0 (fun _ => false)
def rpackSt (n i : Int) : List V := lay 52 [4, 6, 7, 22, 23] [.o (.a 0 0), .o (.f 1), .o (.a 2 0), .o (.p (.int .i64 n)), .o (.p (.int .i64 i))]
def encW (N : Nat) : Int := IntKind.u64.wrap (within (IntKind.i64.wrap ((N : Nat) : Int)) 999 (encI (IntKind.i64.wrap ((N : Nat) : Int))) 0)
def decW (N : Nat) : Int := IntKind.u64.wrap (within (IntKind.i64.wrap ((N : Nat) : Int)) 1023 (decI (IntKind.i64.wrap ((N : Nat) : Int))) 0)
theorem rpack_round (n i : Int) (n1 : Nat) (o : Own) (rs out cs : List Int) (f : Nat) (κ : X → List V → Mem → R) : lx rpackE Try.f81 0 (f + 1) (rpackSt n i) [(.mine, .w .u64 4 rs), (o, .w .u64 n1 cs), (.mine, .w .u64 4 out)] κ =
    cond (decide (i < n))
     (cond (decide (cs.length ≤ 1000000 ∧ 1 ≤ 1000000 ∧ 0 < 1000))
      (cond (decide (1 ≤ 1000 ∧ (0 : Int) ≤ IntKind.i64.wrap (10 * i) ∧ IntKind.i64.wrap (10 * i) ≤ 1000))
       (lx rpackE Try.f81 0 f (rpackSt n (IntKind.i64.wrap (i + 1))) [(.mine, .w .u64 4 rs), (.new, .w .u64 (words (val cs / 1000)).length (words (val cs / 1000))),
         (.mine, .w .u64 4 (wordsN 4 (val out + val [encW (val (words (val cs % 1000)) % 18446744073709551616)] * 2 ^ (IntKind.i64.wrap (10 * i)).toNat)))] κ)
       none)
      none)
     (κ (.exit 0) (lay 52 [4, 6, 7] [.o (.a 0 0), .o (.f 1), .o (.a 2 0)]) [(.mine, .w .u64 4 rs), (o, .w .u64 n1 cs), (.mine, .w .u64 4 out)]) := by kernel_rfl
theorem rpack_ev (c : List Int) (n : Int) : evFn rpackE Try.f81 [.r .u64 4 c, .p (.int .i64 n)] =
    (cond (decide (n < (0 : Int)))
     (some [(.mine, .r .u64 4 (List.replicate 4 (0 : Int))), (.mine, .p (.int .i64 (1)))])
     (cond (decide (n > (11 : Int)))
      (some [(.mine, .r .u64 4 (List.replicate 4 (0 : Int))), (.mine, .p (.int .i64 (1)))])
      (cond (decide
      ((0 : Int) ≤ n ∧
        n ≤ (11 : Int) ∧
          (0 : Int) = (0 : Int) ∧
            0 = 0 ∧ words (val c) = words (val (words (val c))) ∧ (words (val c)).length ≤ 4))
       (cond (decide ((↑(words (val (words (val c)) / 1000 ^ n.toNat)).length : Int) > (0 : Int)))
        (some [(.mine, .r .u64 4 (List.replicate 4 (0 : Int))), (.mine, .p (.int .i64 (3)))])
        (some [(.mine, .r .u64 4 (wordsN 4 (pkD n.toNat (val (words (val c)))))), (.mine, .p (.int .i64 (0)))]))
       none))) := by kernel_rfl

theorem wlen110 {a : Nat} (h : a ≤ 2 ^ 256) : wlen a ≤ 1000 := by
  have h1 := wlen_mono h
  have h2 := wlen_two_pow 256
  omega
theorem encW_val {x : Nat} (h : x < 1000) : val [encW (val (words x) % 18446744073709551616)] = encP x := by
  rw [val1, val_words, Nat.mod_eq_of_lt (by omega)]
  exact encw h
theorem rpack_loop (n : Nat) (hn : n ≤ 11) (rs : List Int) (C : Nat) (hC : C < 2 ^ 256) (κ : X → List V → Mem → R) : ∀ (j i : Nat), i + j = n → ∀ o : Own,
    lx rpackE Try.f81 0 (j + 1) (rpackSt n i) [(.mine, .w .u64 4 rs), (o, .w .u64 (words (C / 1000 ^ i)).length (words (C / 1000 ^ i))), (.mine, .w .u64 4 (wordsN 4 (pkD i C)))] κ =
      κ (.exit 0) (lay 52 [4, 6, 7] [.o (.a 0 0), .o (.f 1), .o (.a 2 0)]) [(.mine, .w .u64 4 rs), (cond (decide (j = 0)) o .new, .w .u64 (words (C / 1000 ^ n)).length (words (C / 1000 ^ n))), (.mine, .w .u64 4 (wordsN 4 (pkD n C)))] := by
  intro j
  induction j with
  | zero =>
    intro i h o
    obtain rfl : i = n := by omega
    rw [rpack_round, decide_eq_false (by omega), cond_false, decide_eq_true rfl, cond_true]
  | succ j ih =>
    intro i h o
    have next := ih (i + 1) (by omega) .new
    obtain ⟨e1, e2, e3, e4⟩ := enc_part (C := C) (show i < 11 by omega)
    have e5 : C / 1000 ^ i < 2 ^ 256 := Nat.lt_of_le_of_lt (Nat.div_le_self _ _) hC
    have e6 := wlen110 (Nat.le_of_lt e5)
    have e7 : (cond (decide (j = 0)) Own.new .new) = .new := by cases decide (j = 0) <;> rfl
    have e8 : IntKind.i64.wrap (10 * (i : Int)) = 10 * (i : Int) := i64_wrap (by omega) (by omega)
    rw [rpack_round, decide_eq_true (show (i : Int) < (n : Int) by omega), cond_true, length_words, decide_eq_true ⟨by omega, by decide, by decide⟩, cond_true, e8, decide_eq_true ⟨by decide, by omega, by omega⟩, cond_true, val_words,
      encW_val (Nat.mod_lt _ (by decide)), show (10 * (i : Int)).toNat = 10 * i by omega, p1024, lo4 e4, i64_wrap (by omega) (by omega), Nat.div_div_eq_div_mul, ← Nat.pow_succ, decide_eq_false (by omega), cond_false]
    rw [e7] at next
    exact next
theorem rpackL_ok : LoopOK rpackE 0 (lbody Try.f81 0) rpackL := loopOK_lx fun vs m κ r hv hm h => by
  split at h
  case h_2 => cases h
  rename_i n i rs n1 cs out
  replace h := cond_none h
  obtain ⟨hc, h⟩ := h
  obtain ⟨h1, h2, rfl, h4, h5, h6⟩ := of_decide_eq_true hc
  obtain ⟨hc1, _, hc3⟩ := hm 1 _ _ rfl
  obtain ⟨ho1, _, ho3⟩ := hm 2 _ _ rfl
  obtain ⟨n, rfl⟩ := Int.eq_ofNat_of_zero_le h1
  rw [Int.toNat_natCast] at h
  have hC : val cs < 2 ^ 256 := by
    have a1 := val_lt hc3
    have a2 : 18446744073709551616 ^ cs.length ≤ 18446744073709551616 ^ 4 := Nat.pow_le_pow_right (by decide) (by omega)
    have a3 : 18446744073709551616 ^ 4 = 2 ^ 256 := by decide
    omega
  have key := rpack_loop n (by omega) rs (val cs) hC κ n 0 (by omega) .mine
  rw [show pkD 0 (val cs) = 0 from rfl, ← wordsN_eq ho3 ho1 h4, Nat.pow_zero, Nat.div_one, ← h5, hc1] at key
  rw [decide_eq_decide.2 (show (n : Int) = 0 ↔ n = 0 by omega)] at h
  exact ⟨_, key.trans h⟩
theorem words_none {a : Nat} : ((words a).length : Int) > 0 ↔ a ≠ 0 := by
  constructor
  · rintro h rfl
    rw [words_zero] at h
    exact absurd h (by decide)
  · intro h
    by_cases h0 : (words a).length = 0
    · have := val_words a
      rw [List.length_eq_zero_iff.1 h0] at this
      exact absurd this.symm h
    · omega
theorem rpack_he : ∀ ds κ r, (∀ d ∈ ds, d.wf) → pack13C ds κ = some r → ∃ res, κ res = some r ∧ evFn rpackE Try.f81 ds = some res := fun ds κ r hw h => by
  unfold pack13C at h
  split at h
  case h_2 => cases h
  rename_i c n
  rw [rpack_ev]
  by_cases hn : 0 ≤ n ∧ n ≤ 11
  · obtain ⟨m, rfl⟩ := Int.eq_ofNat_of_zero_le hn.1
    obtain ⟨hl, hx⟩ := wfR hw (xs := c) (n := 4) (by simp)
    have hp : 0 < 1000 ^ m := Nat.pow_pos (by decide)
    have hw4 : (words (val c)).length ≤ 4 := by
      have := wlen_val hx
      rw [length_words]
      omega
    rw [decide_eq_true hn, cond_true, Int.toNat_natCast] at h
    rw [val_words, decide_eq_false (by omega), cond_false, decide_eq_false (by omega), cond_false, decide_eq_true ⟨hn.1, hn.2, rfl, rfl, rfl, hw4⟩, cond_true, Int.toNat_natCast, decide_eq_decide.2 words_none]
    by_cases hlt : val c < 1000 ^ m
    · rw [decide_eq_true hlt, cond_true] at h
      rw [decide_eq_false (by rw [Nat.div_eq_of_lt hlt]; exact fun q => q rfl), cond_false]
      exact ⟨_, h, rfl⟩
    · rw [decide_eq_false hlt, cond_false] at h
      rw [decide_eq_true (Nat.ne_of_gt (Nat.div_pos (Nat.le_of_not_lt hlt) hp)), cond_true]
      exact ⟨_, h, rfl⟩
  · rw [decide_eq_false hn, cond_false] at h
    by_cases h0 : n < 0
    · rw [decide_eq_true h0, cond_true]
      exact ⟨_, h, rfl⟩
    · rw [decide_eq_false h0, cond_false, decide_eq_true (by omega), cond_true]
      exact ⟨_, h, rfl⟩
abbrev rpackC := pack13C
theorem rpack_fn : FnOK Try.prog 81 rpackC := fnOK_mk T mixed Try.func81 (by kernel_rfl) (fns := [(16, rNatC), (19, overC), (76, rNumberC), (94, enc13C), (80, rLayC)]) (lps := [(0, rpackL)]) (live := [(0, [4, 6, 7, 22, 23])]) (out := [(0, [4, 6, 7])]) (fuel := 0) (give := (fun _ => false)) ⟨rNat_fn, over_fn, rNumber_fn, enc13_fn, rLay_fn, trivial⟩ ⟨rpackL_ok, trivial⟩ rpack_he

/-! ### ref13.Unpack -/
def runpL : LpC := lpC 49 [1, 2, 4, 6, 23, 24] fun vs m κ => match vs, m with
  | [.o (.p (.int .i64 c)), .o (.a 0 0), .o (.a 1 0), .o .z, .o (.p (.int .i64 n)), .o (.p (.int .i64 i))], [(.mine, .w .u64 4 bs), (.mine, .w .u64 4 rs)] =>
    cond (decide (0 ≤ n ∧ n ≤ 11 ∧ i = 0 ∧ c = n)) (cond (decide (n = 0)) (κ (.exit 0) (lay 49 [4, 6] [.o (.a 0 0), .o .z]) [(.mine, .w .u64 4 rs)])
      (κ (.exit 0) (lay 49 [4, 6] [.o (.a 0 0), .o (.f 1)]) [(.mine, .w .u64 4 rs), (.mine, .w .u64 (words (upD n.toNat (val bs))).length (words (upD n.toNat (val bs))))])) none
  | _, _ => none
def runpE : Env := mkE ty [(50, lenC), (77, rFieldC), (76, rNumberC), (93, dec13C), (18, timesC), (24, addC), (21, rBitsC)] [(0, runpL)] [(0, [1, 2, 4, 6, 23, 24])] [(0, [4, 6])] 0 (fun _ => false)
def runpSt (c : Int) (v : V) (n i : Int) : List V := lay 49 [1, 2, 4, 6, 23, 24] [.o (.p (.int .i64 c)), .o (.a 0 0), .o (.a 1 0), v, .o (.p (.int .i64 n)), .o (.p (.int .i64 i))]
def pos10 (c i : Int) : Int := IntKind.i64.wrap (10 * IntKind.i64.wrap (IntKind.i64.wrap (c - 1) - i))
def digW (bs : List Int) (c i : Int) : Int := decW (val (words (val bs / 2 ^ (pos10 c i).toNat % 2 ^ (10 : Int).toNat)) % 18446744073709551616)
theorem runp_first (c n i : Int) (bs rs : List Int) (f : Nat) (κ : X → List V → Mem → R) : lx runpE Try.f78 0 (f + 1) (runpSt c (.o .z) n i) [(.mine, .w .u64 4 bs), (.mine, .w .u64 4 rs)] κ =
    cond (decide (i < n))
     (cond (decide ((0 : Int) ≤ pos10 c i ∧ (0 : Int) ≤ 10 ∧ (10 : Int) ≤ 256))
      (lx runpE Try.f78 0 f (runpSt c (.o (.f 2)) n (IntKind.i64.wrap (i + 1))) [(.mine, .w .u64 4 bs), (.mine, .w .u64 4 rs), (.mine, .w .u64 (words (0 + val [digW bs c i])).length (words (0 + val [digW bs c i])))] κ)
      none)
     (κ (.exit 0) (lay 49 [4, 6] [.o (.a 0 0), .o .z]) [(.mine, .w .u64 4 rs)]) := by kernel_rfl
theorem runp_round (c n i : Int) (n1 : Nat) (bs rs us : List Int) (f : Nat) (κ : X → List V → Mem → R) : lx runpE Try.f78 0 (f + 1) (runpSt c (.o (.f 2)) n i) [(.mine, .w .u64 4 bs), (.mine, .w .u64 4 rs), (.mine, .w .u64 n1 us)] κ =
    cond (decide (i < n))
     (cond (decide ((0 : Int) ≤ pos10 c i ∧ (0 : Int) ≤ 10 ∧ (10 : Int) ≤ 256))
      (cond (decide (us.length ≤ 274877906944 ∧ 1 ≤ 274877906944))
       (cond (decide ((words (val us * 1000)).length ≤ 549755813888 ∧ 1 ≤ 549755813888))
        (lx runpE Try.f78 0 f (runpSt c (.o (.f 2)) n (IntKind.i64.wrap (i + 1))) [(.mine, .w .u64 4 bs), (.mine, .w .u64 4 rs), (.mine, .w .u64 (words (val (words (val us * 1000)) + val [digW bs c i])).length (words (val (words (val us * 1000)) + val [digW bs c i])))] κ)
        none)
       none)
      none)
     (κ (.exit 0) (lay 49 [4, 6] [.o (.a 0 0), .o (.f 1)]) [(.mine, .w .u64 4 rs), (.mine, .w .u64 n1 us)]) := by kernel_rfl
theorem runp_ev (b : List Int) (n : Int) : evFn runpE Try.f78 [.r .u64 4 b, .p (.int .i64 n)] =
    (cond (decide (n < (0 : Int)))
     (some [(.mine, .r .u64 4 (List.replicate 4 (0 : Int))), (.mine, .p (.int .i64 (1)))])
     (cond (decide (n > (11 : Int)))
      (some [(.mine, .r .u64 4 (List.replicate 4 (0 : Int))), (.mine, .p (.int .i64 (1)))])
      (cond (decide ((↑(bitlen (val b)) : Int) > IntKind.i64.wrap ((10 : Int) * n)))
       (some [(.mine, .r .u64 4 (List.replicate 4 (0 : Int))), (.mine, .p (.int .i64 (3)))])
       (cond (decide ((0 : Int) ≤ n ∧ n ≤ (11 : Int) ∧ (0 : Int) = (0 : Int) ∧ n = n))
        (cond (decide (n = (0 : Int)))
         (some [(.mine, .r .u64 4 (wordsN 4 0)), (.mine, .p (.int .i64 (0)))])
         (some [(.mine, .r .u64 4 (wordsN 4 (val (words (upD n.toNat (val b)))))), (.mine, .p (.int .i64 (0)))]))
        none)))) := by kernel_rfl
theorem pos10_is {n k j : Nat} (hn : n ≤ 11) (h : k + j + 1 = n) : pos10 n k = ((10 * j : Nat) : Int) := by
  unfold pos10
  have e1 : IntKind.i64.wrap ((n : Int) - 1) = (n : Int) - 1 := i64_wrap (by omega) (by omega)
  have e2 : IntKind.i64.wrap ((n : Int) - 1 - (k : Int)) = (j : Int) := by rw [i64_wrap (by omega) (by omega)]; omega
  rw [e1, e2, i64_wrap (by omega) (by omega)]
  omega
theorem digW_val {bs : List Int} {n k j : Nat} (hn : n ≤ 11) (h : k + j + 1 = n) : val [digW bs n k] = decP (val bs / 1024 ^ j % 1024) := by
  have h1 : val bs / 1024 ^ j % 1024 < 1024 := Nat.mod_lt _ (by decide)
  unfold digW
  rw [val1, pos10_is hn h, Int.toNat_natCast, p1024, show 2 ^ (10 : Int).toNat = 1024 from rfl, val_words, Nat.mod_eq_of_lt (show val bs / 1024 ^ j % 1024 < 18446744073709551616 by omega)]
  exact decw h1
theorem upH_next {n B k j : Nat} (h : k + j + 1 = n) : upH n B (k + 1) = upH n B k * 1000 + decP (B / 1024 ^ j % 1024) := by
  have : n - 1 - k = j := by omega
  rw [← this]
  rfl
theorem runp_loop (n : Nat) (hn : n ≤ 11) (bs rs : List Int) (κ : X → List V → Mem → R) : ∀ (j k : Nat), k + j = n →
    lx runpE Try.f78 0 (j + 1) (runpSt n (.o (.f 2)) n k) [(.mine, .w .u64 4 bs), (.mine, .w .u64 4 rs), (.mine, .w .u64 (words (upH n (val bs) k)).length (words (upH n (val bs) k)))] κ =
      κ (.exit 0) (lay 49 [4, 6] [.o (.a 0 0), .o (.f 1)]) [(.mine, .w .u64 4 rs), (.mine, .w .u64 (words (upD n (val bs))).length (words (upD n (val bs))))] := by
  intro j
  induction j with
  | zero =>
    intro k h
    obtain rfl : k = n := by omega
    rw [runp_round, decide_eq_false (by omega), cond_false]
    rfl
  | succ j ih =>
    intro k h
    have next := ih (k + 1) (by omega)
    obtain ⟨e1, e2, e3⟩ := up_part (B := val bs) hn (show k < n by omega)
    have w1 := wlen110 (Nat.le_of_lt e1)
    have w2 := wlen110 (Nat.le_of_lt e2)
    rw [upH_next (show k + j + 1 = n by omega)] at next
    rw [runp_round, decide_eq_true (show (k : Int) < (n : Int) by omega), cond_true, pos10_is hn (show k + j + 1 = n by omega), decide_eq_true ⟨by omega, by decide, by decide⟩, cond_true, val_words, length_words, decide_eq_true ⟨by omega, by decide⟩, cond_true,
      length_words, decide_eq_true ⟨by omega, by decide⟩, cond_true, val_words, digW_val hn (show k + j + 1 = n by omega), i64_wrap (by omega) (by omega)]
    exact next
theorem runpL_ok : LoopOK runpE 0 (lbody Try.f78 0) runpL := loopOK_lx fun vs m κ r hv hm h => by
  split at h
  case h_2 => cases h
  rename_i c n i bs rs
  replace h := cond_none h
  obtain ⟨hc, h⟩ := h
  obtain ⟨h1, h2, rfl, rfl⟩ := of_decide_eq_true hc
  obtain ⟨n, rfl⟩ := Int.eq_ofNat_of_zero_le h1
  rw [Int.toNat_natCast] at h
  cases n with
  | zero =>
    rw [decide_eq_true (show ((0 : Nat) : Int) = 0 from rfl), cond_true] at h
    refine ⟨0 + 1, ?_⟩
    exact (runp_first _ _ _ bs rs 0 κ).trans h
  | succ j =>
    rw [decide_eq_false (by omega), cond_false] at h
    have key := runp_loop (j + 1) (by omega) bs rs κ j 1 (by omega)
    refine ⟨(j + 1) + 1, (runp_first _ _ _ bs rs (j + 1) κ).trans ?_⟩
    have e : upH (j + 1) (val bs) 1 = 0 + decP (val bs / 1024 ^ j % 1024) := by
      have := upH_next (n := j + 1) (B := val bs) (k := 0) (j := j) (by omega)
      rw [show upH (j + 1) (val bs) 0 = 0 from rfl, Nat.zero_mul, Nat.zero_add 1] at this
      exact this
    have p := pos10_is (n := j + 1) (k := 0) (j := j) (by omega) (by omega)
    have d := digW_val (bs := bs) (n := j + 1) (k := 0) (j := j) (by omega) (by omega)
    rw [show ((0 : Nat) : Int) = 0 from rfl] at p d
    rw [e] at key
    rw [decide_eq_true (show (0 : Int) < ((j + 1 : Nat) : Int) by omega), cond_true, p, decide_eq_true ⟨by omega, by decide, by decide⟩, cond_true, d, show IntKind.i64.wrap (0 + 1) = ((1 : Nat) : Int) from rfl]
    exact key.trans h
theorem runp_he : ∀ ds κ r, (∀ d ∈ ds, d.wf) → unpack13C ds κ = some r → ∃ res, κ res = some r ∧ evFn runpE Try.f78 ds = some res := fun ds κ r hw h => by
  unfold unpack13C at h
  split at h
  case h_2 => cases h
  rename_i b n
  rw [runp_ev]
  by_cases hn : 0 ≤ n ∧ n ≤ 11
  · obtain ⟨m, rfl⟩ := Int.eq_ofNat_of_zero_le hn.1
    rw [decide_eq_true hn, cond_true, Int.toNat_natCast] at h
    have hb : ((bitlen (val b) : Nat) : Int) > 10 * (m : Int) ↔ ¬ val b < 1024 ^ m := by
      rw [← p1024, ← bitlen_le_iff]
      omega
    rw [decide_eq_false (by omega), cond_false, decide_eq_false (by omega), cond_false, i64_wrap (by omega) (by omega), Int.toNat_natCast, val_words]
    by_cases hlt : val b < 1024 ^ m
    · rw [decide_eq_true hlt, cond_true] at h
      rw [decide_eq_false (fun q => hb.1 q hlt), cond_false, decide_eq_true ⟨hn.1, hn.2, rfl, rfl⟩, cond_true]
      by_cases h0 : m = 0
      · subst h0
        rw [decide_eq_true (by omega), cond_true]
        exact ⟨_, h, rfl⟩
      · rw [decide_eq_false (by omega), cond_false]
        exact ⟨_, h, rfl⟩
    · rw [decide_eq_false hlt, cond_false] at h
      rw [decide_eq_true (hb.2 hlt), cond_true]
      exact ⟨_, h, rfl⟩
  · rw [decide_eq_false hn, cond_false] at h
    by_cases h0 : n < 0
    · rw [decide_eq_true h0, cond_true]
      exact ⟨_, h, rfl⟩
    · rw [decide_eq_false h0, cond_false, decide_eq_true (by omega), cond_true]
      exact ⟨_, h, rfl⟩
abbrev runpC := unpack13C
theorem runp_fn : FnOK Try.prog 78 runpC := fnOK_mk T mixed Try.func78 (by kernel_rfl) (fns := [(50, lenC), (77, rFieldC), (76, rNumberC), (93, dec13C), (18, timesC), (24, addC), (21, rBitsC)]) (lps := [(0, runpL)]) (live := [(0, [1, 2, 4, 6, 23, 24])]) (out := [(0, [4, 6])]) (fuel := 0) (give := (fun _ => false)) ⟨len_fn, rField_fn, rNumber_fn, dec13_fn, times_fn, add_fn, rBits_fn, trivial⟩ ⟨runpL_ok, trivial⟩ runp_he
end
end Go.Proofs.Ytcglfmldodhakaa.Vm

namespace Go.Proofs.Ytcglfmldodhakaa.Vm
open Go Go.Vm
noncomputable section
set_option linter.unusedVariables false
theorem memF_down : ∀ (k F : Nat) (q l : Int), l = q + (k : Int) → memF k (F * 10 ^ k) q l = (F, l)
  | 0, F, q, l, h => by
    show (F * 10 ^ 0, q) = (F, l)
    rw [Nat.pow_zero, Nat.mul_one, h]
    simp
  | k + 1, F, q, l, h => by
    have e : F * 10 ^ (k + 1) = 10 * (F * 10 ^ k) := by rw [Nat.pow_succ, ← Nat.mul_assoc, Nat.mul_comm]
    unfold memF
    rw [decide_eq_true (by omega), cond_true, e, Nat.mul_mod_right, decide_eq_true rfl, cond_true, Nat.mul_div_cancel_left _ (by decide)]
    exact memF_down k F (q + 1) l (by omega)
theorem memF_stop : ∀ (f c : Nat) (q l : Int), f = (l - q).toNat → l ≤ (memF f c q l).2 ∨ (memF f c q l).1 % 10 ≠ 0
  | 0, c, q, l, h => .inl (by show l ≤ q; omega)
  | f + 1, c, q, l, h => by
    unfold memF
    rw [decide_eq_true (show q < l by omega), cond_true]
    by_cases h2 : c % 10 = 0
    · rw [decide_eq_true h2, cond_true]
      exact memF_stop f (c / 10) (q + 1) l (by omega)
    · rw [decide_eq_false h2, cond_false]
      exact .inr h2
/-- A number of the format, rounded: first with as many digits as may be. -/
theorem drn_whole {n d x w : Int} {s : Bool} {F : Nat} (h7 : 7 ≤ n ∧ n ≤ 12) (hx : eminI n ≤ x ∧ x ≤ emaxI n) (hF : F < 10 ^ pN n) (h0 : 0 < F) :
    ∃ (q : Int) (k : Nat), x = q + (k : Int) ∧ eminI n ≤ q ∧ F * 10 ^ k < 10 ^ pN n ∧ (eminI n < q → 10 ^ (pN n - 1) ≤ F * 10 ^ k) ∧ drn n d s F 1 x w = (1, (mem10 (F * 10 ^ k) q (min w (emaxI n))).2, (mem10 (F * 10 ^ k) q (min w (emaxI n))).1, 0) := by
  obtain ⟨f1, f2, f3, f4, f5, f6, f7, f8, f9⟩ := fmt10 h7
  have l1 := flog_le (β := 10) (b := 1) (by decide) h0 (by decide) hF
  obtain ⟨q, hq⟩ : ∃ q, q = qOf n (flog 10 F 1 + x) := ⟨_, rfl⟩
  have hqx : q ≤ x := by rw [hq]; unfold qOf; omega
  have hqe : eminI n ≤ q := by rw [hq]; exact dq_ge _ _
  obtain ⟨k, hk⟩ : ∃ k : Nat, (k : Int) = x - q := ⟨(x - q).toNat, by omega⟩
  have u1 : upP 10 (x - q) = 10 ^ k := by unfold upP; rw [← hk, Int.toNat_natCast]
  have u2 : dnP 10 (x - q) = 1 := by unfold dnP; rw [← hk, show (-(k : Int)).toNat = 0 by omega, Nat.pow_zero]
  have hc := drn_c (e := x) h7 h0 (show 0 < 1 by decide) hq
  have hge : eminI n < q → 10 ^ (pN n - 1) ≤ F * 10 ^ k := fun h => by
    have hq2 : q = flog 10 F 1 + x - precI n + 1 := by rw [hq] at h ⊢; unfold qOf at h ⊢; omega
    have := scaled_ge (β := 10) (by decide) h0 (show 0 < 1 by decide) (z := x - q) (m := pN n - 1) (by omega)
    rwa [u1, u2, Nat.mul_one, Nat.div_one] at this
  rw [u1, u2, Nat.mul_one, Nat.div_one] at hc
  refine ⟨q, k, by omega, hqe, hc, hge, ?_⟩
  have ex : exF (F * 10 ^ k) 1 = true := by unfold exF; rw [Nat.mod_one]; rfl
  unfold drn
  rw [if_neg (by omega), ← hq, u1, u2, Nat.mul_one, ex, exF_F ex, Nat.div_one]
  unfold dCar dfin
  rw [decide_eq_false (by omega), cond_false, decide_eq_false (by omega), cond_false, cond_true]
/-- A number of the format comes out as it is, its exponent too. -/
theorem drn_keeps {n d x : Int} {s : Bool} {F : Nat} (h7 : 7 ≤ n ∧ n ≤ 12) (hx : eminI n ≤ x ∧ x ≤ emaxI n) (hF : F < 10 ^ pN n) : drn n d s F 1 x x = (1, x, F, 0) := by
  by_cases h0 : F = 0
  · subst h0
    unfold drn
    rw [if_pos rfl, show min (max x (eminI n)) (emaxI n) = x by omega]
  · obtain ⟨q, k, h1, h2, h3, _, h4⟩ := drn_whole (d := d) (s := s) (w := x) h7 hx hF (by omega)
    have h5 : min x (emaxI n) = x := by omega
    have h6 : mem10 (F * 10 ^ k) q x = (F, x) := by
      unfold mem10
      rw [show (x - q).toNat = k by omega]
      exact memF_down k F q x h1
    rw [h4, h5, h6]
/-- What is exact has the value, whatever exponent is wanted; and no member lies nearer to that. -/
theorem drn_members {n d x w : Int} {s : Bool} {F : Nat} (h7 : 7 ≤ n ∧ n ≤ 12) (hx : eminI n ≤ x ∧ x ≤ emaxI n) (hF : F < 10 ^ pN n) (h0 : 0 < F) :
    ∃ (X : Int) (C : Nat), drn n d s F 1 x w = (1, X, C, 0) ∧ eminI n ≤ X ∧ X ≤ emaxI n ∧ C < 10 ^ pN n ∧ C * upP 10 (X - x) = F * dnP 10 (X - x) ∧
      (X < w → X < emaxI n → C % 10 ≠ 0) ∧ (w < X → eminI n < X → ¬ C * 10 < 10 ^ pN n) := by
  obtain ⟨f1, f2, f3, f4, f5, f6, f7, f8, f9⟩ := fmt10 h7
  obtain ⟨q, k, h1, h2, h3, hge, h4⟩ := drn_whole (d := d) (s := s) (w := w) h7 hx hF h0
  obtain ⟨m1, m2, m3, m4⟩ := memF_is (min w (emaxI n) - q).toNat (F * 10 ^ k) q (min w (emaxI n))
  have m5 := memF_stop (min w (emaxI n) - q).toNat (F * 10 ^ k) q (min w (emaxI n)) rfl
  have hm : mem10 (F * 10 ^ k) q (min w (emaxI n)) = memF (min w (emaxI n) - q).toNat (F * 10 ^ k) q (min w (emaxI n)) := rfl
  rw [← hm] at m1 m2 m3 m4 m5
  generalize mem10 (F * 10 ^ k) q (min w (emaxI n)) = t at *
  obtain ⟨C, X⟩ := t
  dsimp only at *
  refine ⟨X, C, h4, by omega, by omega, by omega, ?_, ?_, ?_⟩
  · rcases Int.lt_or_le X x with g | g
    · have u1 : upP 10 (X - x) = 1 := by unfold upP; rw [show (X - x).toNat = 0 by omega, Nat.pow_zero]
      have u2 : dnP 10 (X - x) = 10 ^ (x - X).toNat := by unfold dnP; rw [show (-(X - x)).toNat = (x - X).toNat by omega]
      rw [u1, u2, Nat.mul_one]
      have e : F * 10 ^ k = F * 10 ^ (x - X).toNat * 10 ^ (X - q).toNat := by rw [Nat.mul_assoc, ← Nat.pow_add, show (x - X).toNat + (X - q).toNat = k by omega]
      rw [e] at m4
      exact Nat.eq_of_mul_eq_mul_right (Nat.pow_pos (by decide)) m4
    · have u1 : upP 10 (X - x) = 10 ^ (X - x).toNat := rfl
      have u2 : dnP 10 (X - x) = 1 := by unfold dnP; rw [show (-(X - x)).toNat = 0 by omega, Nat.pow_zero]
      rw [u1, u2, Nat.mul_one]
      have e : C * 10 ^ (X - q).toNat = C * 10 ^ (X - x).toNat * 10 ^ k := by rw [Nat.mul_assoc, ← Nat.pow_add, show (X - x).toNat + k = (X - q).toNat by omega]
      rw [e] at m4
      exact Nat.eq_of_mul_eq_mul_right (Nat.pow_pos (by decide)) m4
  · intro g1 g2
    rcases m5 with m5 | m5
    · omega
    · exact m5
  · intro g1 g2
    have hXq : X = q := by omega
    have hC : C = F * 10 ^ k := by
      rw [hXq, Int.sub_self] at m4
      simpa using m4
    have := hge (by omega)
    have e : 10 ^ pN n = 10 ^ (pN n - 1) * 10 := by rw [← Nat.pow_succ]; congr 1; omega
    rw [hC, e]
    omega
end
end Go.Proofs.Ytcglfmldodhakaa.Vm

namespace Go.Proofs.Ytcglfmldodhakaa.Vm
open Go Go.Vm
noncomputable section
set_option linter.unusedVariables false
def rPowFE : Env := mkE ty [(71, powC)] [] [] [] 0 (fun _ => false)
theorem rPowF_ev (b n : Int) : evFn rPowFE Try.f54 [.p (.int .i64 b), .p (.int .i64 n)] =
    (cond (decide ((0 : Int) ≤ n ∧ n ≤ (100000 : Int)))
     (some [(.mine, .w .u64 (words ((IntKind.u64.wrap b).toNat ^ n.toNat)))])
     none) := by kernel_rfl
def rPowFC : FnC := fun ds κ => match ds with
  | [.p (.int .i64 b), .p (.int .i64 n)] => cond (decide (0 ≤ b ∧ b ≤ 1000 ∧ 0 ≤ n ∧ n ≤ 100000)) (κ [(.mine, .w .u64 (words (b.toNat ^ n.toNat)))]) none
  | _ => none
theorem rPowF_he : ∀ ds κ r, (∀ d ∈ ds, d.wf) → rPowFC ds κ = some r → ∃ res, κ res = some r ∧ evFn rPowFE Try.f54 ds = some res := fun ds κ r hw h => by
  unfold rPowFC at h
  split at h
  case h_2 => cases h
  rename_i b n
  replace h := cond_none h
  obtain ⟨hc, h⟩ := h
  obtain ⟨h1, h2, h3, h4⟩ := of_decide_eq_true hc
  rw [rPowF_ev, decide_eq_true ⟨h3, h4⟩, cond_true, u64_wrap h1 (by omega)]
  exact ⟨_, h, rfl⟩
theorem rPowF_fn : FnOK Try.prog 54 rPowFC := fnOK_mk T mixed Try.func54 (by kernel_rfl) (fns := [(71, powC)]) (lps := []) (live := []) (out := []) (fuel := 0) (give := (fun _ => false)) ⟨pow_fn, trivial⟩ trivial rPowF_he
def belowFE : Env := mkE ty [(54, rPowFC), (25, cmpC)] [] [] [] 0 (fun _ => false)
theorem belowF_ev (f : List Int) (b n : Int) : evFn belowFE Try.f20 [.r .u64 4 f, .p (.int .i64 b), .p (.int .i64 n)] =
    (cond (decide ((0 : Int) ≤ b ∧ b ≤ (1000 : Int) ∧ (0 : Int) ≤ n ∧ n ≤ (100000 : Int)))
     (some [(.mine, .p (.bool (decide (cmpI (val f) (val (words (b.toNat ^ n.toNat))) < (0 : Int)))))])
     none) := by kernel_rfl
def belowFC : FnC := fun ds κ => match ds with
  | [.r .u64 4 f, .p (.int .i64 b), .p (.int .i64 n)] => cond (decide (0 ≤ b ∧ b ≤ 1000 ∧ 0 ≤ n ∧ n ≤ 100000)) (κ [(.mine, .p (.bool (decide (val f < b.toNat ^ n.toNat))))]) none
  | _ => none
theorem belowF_he : ∀ ds κ r, (∀ d ∈ ds, d.wf) → belowFC ds κ = some r → ∃ res, κ res = some r ∧ evFn belowFE Try.f20 ds = some res := fun ds κ r hw h => by
  unfold belowFC at h
  split at h
  case h_2 => cases h
  rename_i f b n
  replace h := cond_none h
  obtain ⟨hc, h⟩ := h
  rw [belowF_ev, hc, cond_true, val_words, cmpI_neg]
  exact ⟨_, h, rfl⟩
theorem belowF_fn : FnOK Try.prog 20 belowFC := fnOK_mk T mixed Try.func20 (by kernel_rfl) (fns := [(54, rPowFC), (25, cmpC)]) (lps := []) (live := []) (out := []) (fuel := 0) (give := (fun _ => false)) ⟨rPowF_fn, cmp_fn, trivial⟩ trivial belowF_he
def good14C : FnC := fun ds κ => match ds with
  | [.p (.int .i64 n), .r .u64 4 b] => cond (decide (7 ≤ n ∧ n ≤ 12)) (κ [(.mine, .p (.bool (decide (((bitlen (val b) : Nat) : Int) ≤ widthI n))))]) (κ [(.mine, .p (.bool false))])
  | _ => none
def good14E : Env := mkE ty [(22, rDecimC), (74, rFitsC)] [] [] [] 0 (fun _ => false)
theorem good14_ev (n : Int) (b : List Int) : evFn good14E Try.f43 [.p (.int .i64 n), .r .u64 4 b] =
    cond (decide (7 ≤ n ∧ n ≤ 12)) (cond (decide (1 ≤ n ∧ n ≤ 12)) (some [(.mine, .p (.bool (decide (((bitlen (val b) : Nat) : Int) ≤ widthI n))))]) (some [(.mine, .p (.bool false))])) (some [(.mine, .p (.bool false))]) := by kernel_rfl
theorem good14_he : ∀ ds κ r, (∀ d ∈ ds, d.wf) → good14C ds κ = some r → ∃ res, κ res = some r ∧ evFn good14E Try.f43 ds = some res := fun ds κ r hw h => by
  unfold good14C at h
  split at h
  case h_2 => cases h
  rename_i n b
  rw [good14_ev]
  by_cases h7 : 7 ≤ n ∧ n ≤ 12
  · rw [decide_eq_true h7, cond_true] at h
    rw [decide_eq_true h7, cond_true, decide_eq_true (show 1 ≤ n ∧ n ≤ 12 by omega), cond_true]
    exact ⟨_, h, rfl⟩
  · rw [decide_eq_false h7, cond_false] at h
    rw [decide_eq_false h7, cond_false]
    exact ⟨_, h, rfl⟩
theorem good14_fn : FnOK Try.prog 43 good14C := fnOK_mk T mixed Try.func43 (by kernel_rfl) (fns := [(22, rDecimC), (74, rFitsC)]) (lps := []) (live := []) (out := []) (fuel := 0) (give := (fun _ => false)) ⟨rDecim_fn, rFits_fn, trivial⟩ trivial good14_he
def sgI (w : Int) : Int := IntKind.i64.wrap (IntKind.i64.wrap (w.tdiv 16) + 9)
def stI (w : Int) : Int := IntKind.i64.wrap (IntKind.i64.wrap (w - 1) - sgI w)
def sdI' (p : Int) : Int := IntKind.i64.wrap ((IntKind.i64.wrap (p - 1)).tdiv 3)
def shape14C : FnC := fun ds κ => match ds with
  | [.g [.int .i64 i0, .string i1, .int .i64 i2, .int .i64 w, .int .i64 p, .int .i64 i5, .int .i64 emin, .int .i64 emax, .int .i64 pay, .bool i9]] => κ [(.mine, .p (.int .i64 (sgI w))), (.mine, .p (.int .i64 (stI w))), (.mine, .p (.int .i64 (sdI' p)))]
  | _ => none
def shape14E : Env := mkE ty [] [] [] [] 0 (fun _ => false)
theorem shape14_ev (i0 i2 w p i5 emin emax pay : Int) (i1 : ByteArray) (i9 : Bool) : evFn shape14E Try.f75 [.g [.int .i64 i0, .string i1, .int .i64 i2, .int .i64 w, .int .i64 p, .int .i64 i5, .int .i64 emin, .int .i64 emax, .int .i64 pay, .bool i9]] =
    some [(.mine, .p (.int .i64 (sgI w))), (.mine, .p (.int .i64 (stI w))), (.mine, .p (.int .i64 (sdI' p)))] := by kernel_rfl
theorem shape14_he : ∀ ds κ r, (∀ d ∈ ds, d.wf) → shape14C ds κ = some r → ∃ res, κ res = some r ∧ evFn shape14E Try.f75 ds = some res := fun ds κ r hw h => by
  unfold shape14C at h
  split at h
  case h_2 => cases h
  exact ⟨_, h, shape14_ev _ _ _ _ _ _ _ _ _ _⟩
theorem shape14_fn : FnOK Try.prog 75 shape14C := fnOK_mk T mixed Try.func75 (by kernel_rfl) (fns := []) (lps := []) (live := []) (out := []) (fuel := 0) (give := (fun _ => false)) trivial trivial shape14_he
def is14C : FnC := fun ds κ => match ds with
  | [.g [.int .i64 i0, .string i1, .int .i64 i2, .int .i64 i3, .int .i64 p, .int .i64 i5, .int .i64 emin, .int .i64 emax, .int .i64 pay, .bool i9], .g [.int .i64 c, .bool s, .bool q, .int .i64 x, .int .u64 w0, .int .u64 w1, .int .u64 w2, .int .u64 w3]] =>
    cond (decide (0 ≤ p ∧ p ≤ 100000 ∧ 0 ≤ pay ∧ pay ≤ 100000)) (κ [(.mine, .p (.bool (cond (c == 1) (!q && decide (val [w0, w1, w2, w3] < 10 ^ p.toNat) && decide (x ≥ emin) && decide (x ≤ emax)) (cond (c == 2) (!q && decide ([w0, w1, w2, w3] = [0, 0, 0, 0]) && (x == 0)) (cond (c == 3) ((x == 0) && decide (val [w0, w1, w2, w3] < 10 ^ pay.toNat)) false)))))]) none
  | _ => none
def is14E : Env := mkE ty [(20, belowFC)] [] [] [] 0 (fun _ => false)
theorem is14_ev (i0 i2 i3 p i5 emin emax pay c x w0 w1 w2 w3 : Int) (i1 : ByteArray) (i9 s q : Bool) : evFn is14E Try.f79 [.g [.int .i64 i0, .string i1, .int .i64 i2, .int .i64 i3, .int .i64 p, .int .i64 i5, .int .i64 emin, .int .i64 emax, .int .i64 pay, .bool i9], .g [.int .i64 c, .bool s, .bool q, .int .i64 x, .int .u64 w0, .int .u64 w1, .int .u64 w2, .int .u64 w3]] =
    cond (c == 1) (cond (!q) (cond (decide (0 ≤ (10 : Int) ∧ (10 : Int) ≤ 1000 ∧ 0 ≤ p ∧ p ≤ 100000)) (cond (decide (val [w0, w1, w2, w3] < (10 : Int).toNat ^ p.toNat)) (cond (decide (x ≥ emin)) (rb (decide (x ≤ emax))) (rb false)) (rb false)) none) (rb false))
      (cond (c == 2) (cond (!q) (cond (decide ([w0, w1, w2, w3] = [0, 0, 0, 0])) (rb (x == 0)) (rb false)) (rb false))
        (cond (c == 3) (cond (x == 0) (cond (decide (0 ≤ (10 : Int) ∧ (10 : Int) ≤ 1000 ∧ 0 ≤ pay ∧ pay ≤ 100000)) (rb (decide (val [w0, w1, w2, w3] < (10 : Int).toNat ^ pay.toNat))) none) (rb false)) (rb false))) := by kernel_rfl
theorem is14_he : ∀ ds κ r, (∀ d ∈ ds, d.wf) → is14C ds κ = some r → ∃ res, κ res = some r ∧ evFn is14E Try.f79 ds = some res := fun ds κ r hw h => by
  unfold is14C at h
  split at h
  case h_2 => cases h
  rename_i i0 i1 i2 i3 p i5 emin emax pay i9 c s q x w0 w1 w2 w3
  replace h := cond_none h
  obtain ⟨hc, h⟩ := h
  obtain ⟨h1, h2, h3, h4⟩ := of_decide_eq_true hc
  refine ⟨_, h, ?_⟩
  rw [is14_ev, decide_eq_true (show 0 ≤ (10 : Int) ∧ (10 : Int) ≤ 1000 ∧ 0 ≤ p ∧ p ≤ 100000 by omega), decide_eq_true (show 0 ≤ (10 : Int) ∧ (10 : Int) ≤ 1000 ∧ 0 ≤ pay ∧ pay ≤ 100000 by omega), show (10 : Int).toNat = 10 from rfl]
  cases (c == 1) <;> cases (c == 2) <;> cases (c == 3) <;> cases q <;> cases decide (val [w0, w1, w2, w3] < 10 ^ p.toNat) <;> cases decide (x ≥ emin) <;> cases decide ([w0, w1, w2, w3] = [0, 0, 0, 0]) <;> cases (x == 0) <;> rfl
theorem is14_fn : FnOK Try.prog 79 is14C := fnOK_mk T mixed Try.func79 (by kernel_rfl) (fns := [(20, belowFC)]) (lps := []) (live := []) (out := []) (fuel := 0) (give := (fun _ => false)) ⟨belowF_fn, trivial⟩ trivial is14_he
end
end Go.Proofs.Ytcglfmldodhakaa.Vm

namespace Go.Proofs.Ytcglfmldodhakaa.Vm
open Go Go.Vm
noncomputable section
set_option linter.unusedVariables false
/-- What the callees of ref14.meaning compute, as free functions. -/
structure MnF where
  fld : List Int → Int → Int → List Int
  num : List Int → Int
  bt : List Int → List Int
  un : List Int → Int → List Int
  une : List Int → Int → Int
  pw : Int → List Int
  tm : List Int → List Int → List Int
  ad : List Int → List Int → List Int
  lf : List Int → Int → List Int
  cm : List Int → List Int → Int
  bl : List Int → Int → Bool
def fldG (M : MnF) : FnC := fun ds κ => match ds with
  | [.r .u64 4 b, .p (.int .i64 p), .p (.int .i64 n)] => cond (decide (0 ≤ p ∧ 0 ≤ n ∧ n ≤ 256)) (κ [(.mine, .w .u64 (M.fld b p n))]) none
  | _ => none
def numG (M : MnF) : FnC := fun ds κ => match ds with
  | [.w .u64 xs] => κ [(.mine, .p (.int .i64 (M.num xs)))]
  | _ => none
def btG (M : MnF) : FnC := fun ds κ => match ds with
  | [.w .u64 xs] => κ [(.mine, .r .u64 4 (M.bt xs))]
  | _ => none
def unG (M : MnF) : FnC := fun ds κ => match ds with
  | [.r .u64 4 b, .p (.int .i64 n)] => κ [(.mine, .r .u64 4 (M.un b n)), (.mine, .p (.int .i64 (M.une b n)))]
  | _ => none
def pwG (M : MnF) : FnC := fun ds κ => match ds with
  | [.p (.int .u64 a), .p (.int .i64 n)] => cond (a == 10 && decide (0 ≤ n ∧ n ≤ 100000)) (κ [(.mine, .w .u64 (M.pw n))]) none
  | _ => none
def tmG (M : MnF) : FnC := fun ds κ => match ds with
  | [.w .u64 xs, .w .u64 ys] => cond (decide (xs.length ≤ 1000000 ∧ ys.length ≤ 1000000)) (κ [(.mine, .w .u64 (M.tm xs ys))]) none
  | _ => none
def adG (M : MnF) : FnC := fun ds κ => match ds with
  | [.w .u64 xs, .w .u64 ys] => cond (decide (xs.length ≤ 1000000 ∧ ys.length ≤ 1000000)) (κ [(.mine, .w .u64 (M.ad xs ys))]) none
  | _ => none
def lfG (M : MnF) : FnC := fun ds κ => match ds with
  | [.w .u64 xs, .p (.int .i64 n)] => cond (decide (xs.length ≤ 1000000 ∧ 0 ≤ n ∧ n ≤ 1000000)) (κ [(.mine, .w .u64 (M.lf xs n))]) none
  | _ => none
def cmG (M : MnF) : FnC := fun ds κ => match ds with
  | [.w .u64 xs, .w .u64 ys] => κ [(.mine, .p (.int .i64 (M.cm xs ys)))]
  | _ => none
def blG (M : MnF) : FnC := fun ds κ => match ds with
  | [.r .u64 4 f, .p (.int .i64 b), .p (.int .i64 n)] => cond (b == 10 && decide (0 ≤ n ∧ n ≤ 100000)) (κ [(.mine, .p (.bool (M.bl f n)))]) none
  | _ => none
def mnE (M : MnF) : Env := mkE ty [(14, infoInC), (75, shape14C), (77, fldG M), (76, numG M), (21, btG M), (78, unG M), (20, blG M), (71, pwG M), (18, tmG M), (24, adG M), (51, lfG M), (25, cmG M)] [] [] [] 0 (fun _ => false)
def lfD (C : Int) (s q : Bool) (X : Int) (f : List Int) : R := some [(.mine, .g (datumCells C s q X f))]
def mnCmp (M : MnF) (n : Int) (s : Bool) (c : List Int) (f : Int) : R :=
  cond (decide (0 ≤ precI n ∧ precI n ≤ 100000)) (cond (decide (M.cm c (M.pw (precI n)) ≥ 0)) (lfD 1 s false (IntKind.i64.wrap (IntKind.i64.wrap f + eminI n)) (M.bt [])) (lfD 1 s false (IntKind.i64.wrap (IntKind.i64.wrap f + eminI n)) (M.bt c))) none
def mnFin (M : MnF) (n : Int) (s : Bool) (tl : List Int) (f h : Int) : R :=
  cond (denseI n) (cond (decide (0 ≤ IntKind.i64.wrap (3 * sdI' (precI n)) ∧ IntKind.i64.wrap (3 * sdI' (precI n)) ≤ 100000))
      (cond (decide ([h].length ≤ 1000000 ∧ (M.pw (IntKind.i64.wrap (3 * sdI' (precI n)))).length ≤ 1000000))
        (cond (decide ((M.tm [h] (M.pw (IntKind.i64.wrap (3 * sdI' (precI n))))).length ≤ 1000000 ∧ tl.length ≤ 1000000))
          (mnCmp M n s (M.ad (M.tm [h] (M.pw (IntKind.i64.wrap (3 * sdI' (precI n))))) tl) f) none) none) none)
    (cond (decide ([h].length ≤ 1000000 ∧ 0 ≤ stI (widthI n) ∧ stI (widthI n) ≤ 1000000))
      (cond (decide ((M.lf [h] (stI (widthI n))).length ≤ 1000000 ∧ tl.length ≤ 1000000))
        (mnCmp M n s (M.ad (M.lf [h] (stI (widthI n))) tl) f) none) none)
def mnF1 (five A K : Int) : Int := Go.bits .or .u64 (shlI .u64 (shrI .u64 five 3) K) (Go.bits .and .u64 A (IntKind.u64.wrap (shlI .u64 1 K - 1)))
def mnF2 (five A K : Int) : Int := Go.bits .or .u64 (shlI .u64 (Go.bits .and .u64 (shrI .u64 five 1) 3) K) (Go.bits .and .u64 A (IntKind.u64.wrap (shlI .u64 1 K - 1)))
def mnF4 (A K : Int) : Int := Go.bits .and .u64 (shrI .u64 A 1) (IntKind.u64.wrap (shlI .u64 1 (IntKind.u64.wrap (K + 2)) - 1))
def mnB2 (M : MnF) (n : Int) (s : Bool) (tl : List Int) (five A K : Int) : R :=
  cond (denseI n) (cond (decide (K < 0)) none (cond (decide (K < 0)) none (mnFin M n s tl (mnF2 five A K) (IntKind.u64.wrap (8 + Go.bits .and .u64 five 1)))))
    (cond (decide (five < 24)) (mnFin M n s tl (shrI .u64 A 3) (Go.bits .and .u64 A 7)) (cond (decide (IntKind.u64.wrap (K + 2) < 0)) none (mnFin M n s tl (mnF4 A K) (IntKind.u64.wrap (8 + Go.bits .and .u64 A 1)))))
def mnB1 (M : MnF) (n : Int) (s : Bool) (tl : List Int) (five A K : Int) : R :=
  cond (denseI n) (cond (decide (five < 24)) (cond (decide (K < 0)) none (cond (decide (K < 0)) none (mnFin M n s tl (mnF1 five A K) (Go.bits .and .u64 five 7)))) (mnB2 M n s tl five A K)) (mnB2 M n s tl five A K)
def fourT (f : List Int) : List Int := [f.getD 0 0, f.getD 1 0, f.getD 2 0, f.getD 3 0]
def mnTail (M : MnF) (n : Int) (s : Bool) (A K K6 five : Int) (tl : List Int) : R :=
  cond (five == 31) (cond (decide (K6 < 0)) none (cond (decide (0 ≤ payI n ∧ payI n ≤ 100000)) (cond (M.bl tl (payI n)) (lfD 3 s (Go.bits .and .u64 (shrI .u64 A K6) 1 == 1) 0 tl) (lfD 3 s (Go.bits .and .u64 (shrI .u64 A K6) 1 == 1) 0 [0, 0, 0, 0])) none))
    (mnB1 M n s tl five A K)
def mnGo (M : MnF) (n : Int) (s : Bool) (A K K6 five : Int) (tl : List Int) : R :=
  cond (five == 30) (lfD 2 s false 0 [0, 0, 0, 0]) (cond (denseI n) (mnTail M n s A K K6 five (M.un tl (sdI' (precI n)))) (mnTail M n s A K K6 five tl))
def mnA (M : MnF) (n : Int) (b : List Int) : Int := IntKind.u64.wrap (M.num (M.fld b (stI (widthI n)) (sgI (widthI n))))
def mnK (n k : Int) : Int := IntKind.u64.wrap (IntKind.i64.wrap (sgI (widthI n) - k))
def mnS (M : MnF) (n : Int) (b : List Int) : Bool := M.num (M.fld b (IntKind.i64.wrap (stI (widthI n) + sgI (widthI n))) 1) == 1
theorem mean14_ev (M : MnF) (n : Int) (b : List Int) : evFn (mnE M) Try.f44 [.p (.int .i64 n), .r .u64 4 b] =
    cond (decide (1 ≤ n ∧ n ≤ 12)) (cond (decide (0 ≤ stI (widthI n) ∧ 0 ≤ sgI (widthI n) ∧ sgI (widthI n) ≤ 256)) (cond (decide (0 ≤ (0 : Int) ∧ 0 ≤ stI (widthI n) ∧ stI (widthI n) ≤ 256)) (cond (decide (mnK n 5 < 0)) none
      (cond (decide (0 ≤ IntKind.i64.wrap (stI (widthI n) + sgI (widthI n)) ∧ 0 ≤ (1 : Int) ∧ (1 : Int) ≤ 256))
        (mnGo M n (mnS M n b) (mnA M n b) (mnK n 5) (mnK n 6) (shrI .u64 (mnA M n b) (mnK n 5)) (M.bt (M.fld b 0 (stI (widthI n))))) none)) none) none) none := by kernel_rfl
/-- What ref14.meaning answers: a datum; and of a finite one that it is one of the format. -/
def finOK (n : Int) (t : Int × Bool × Bool × Int × Nat) : Prop := t.1 = 1 → t.2.2.1 = false ∧ (eminI n ≤ t.2.2.2.1 ∧ t.2.2.2.1 ≤ emaxI n) ∧ t.2.2.2.2 < 10 ^ pN n
def ansM (n : Int) (r : R) : Prop := ∃ t : Int × Bool × Bool × Int × Nat, r = some [(.mine, .g (datumCells t.1 t.2.1 t.2.2.1 t.2.2.2.1 (wordsN 4 t.2.2.2.2)))] ∧ finOK n t
theorem ansM_cond {n : Int} {z : Bool} {a b : R} (ha : z = true → ansM n a) (hb : z = false → ansM n b) : ansM n (cond z a b) := by cases z; exact hb rfl; exact ha rfl
theorem ansM_guard {n : Int} {z : Bool} {a : R} (hz : z = true) (ha : ansM n a) : ansM n (cond z a none) := by rw [hz]; exact ha
theorem ansM_leaf {n C X : Int} {s q : Bool} {F : Nat} (h : finOK n (C, s, q, X, F)) : ansM n (some [(.mine, .g (datumCells C s q X (wordsN 4 F)))]) := ⟨(C, s, q, X, F), rfl, h⟩
theorem fin_not {n C X : Int} {s q : Bool} {F : Nat} (h : C ≠ 1) : finOK n (C, s, q, X, F) := fun h' => absurd h' h
/-! ### the actual functions -/
def mnM : MnF where
  fld := fun b p n => words (val b / 2 ^ p.toNat % 2 ^ n.toNat)
  num := fun xs => IntKind.i64.wrap ((val xs % 18446744073709551616 : Nat) : Int)
  bt := fun xs => wordsN 4 (val xs)
  un := fun b n => wordsN 4 (cond (decide (0 ≤ n ∧ n ≤ 11)) (cond (decide (val b < 1024 ^ n.toNat)) (upD n.toNat (val b)) 0) 0)
  une := fun b n => cond (decide (0 ≤ n ∧ n ≤ 11)) (cond (decide (val b < 1024 ^ n.toNat)) 0 3) 1
  pw := fun n => words (10 ^ n.toNat)
  tm := fun xs ys => words (val xs * val ys)
  ad := fun xs ys => words (val xs + val ys)
  lf := fun xs n => words (val xs * 2 ^ n.toNat)
  cm := fun xs ys => cmpI (val xs) (val ys)
  bl := fun f n => decide (val f < 10 ^ n.toNat)
theorem fldG_fn : FnOK Try.prog 77 (fldG mnM) := fnOK_cutE rField_fn fun ds κ r h => by
  unfold fldG at h
  split at h
  case h_2 => cases h
  exact h
theorem numG_fn : FnOK Try.prog 76 (numG mnM) := fnOK_cutE rNumber_fn fun ds κ r h => by
  unfold numG at h
  split at h
  case h_2 => cases h
  exact h
theorem btG_fn : FnOK Try.prog 21 (btG mnM) := fnOK_cutE rBits_fn fun ds κ r h => by
  unfold btG at h
  split at h
  case h_2 => cases h
  exact h
theorem unG_fn : FnOK Try.prog 78 (unG mnM) := fnOK_cutE runp_fn fun ds κ r h => by
  unfold unG at h
  split at h
  case h_2 => cases h
  rename_i b n
  show cond _ (cond _ _ _) _ = some r
  unfold two13
  simp only [mnM] at h
  cases h1 : decide (0 ≤ n ∧ n ≤ 11) <;> rw [h1] at h
  · exact h
  · cases h2 : decide (val b < 1024 ^ n.toNat) <;> rw [h2] at h
    · exact h
    · exact h
theorem pwG_fn : FnOK Try.prog 71 (pwG mnM) := fnOK_cutE pow_fn fun ds κ r h => by
  unfold pwG at h
  split at h
  case h_2 => cases h
  rename_i a n
  replace h := cond_none h
  obtain ⟨hc, h⟩ := h
  rw [Bool.and_eq_true] at hc
  obtain rfl := beq_iff_eq.1 hc.1
  show cond _ _ _ = some r
  rw [hc.2]
  exact h
theorem tmG_fn : FnOK Try.prog 18 (tmG mnM) := fnOK_cutE times_fn fun ds κ r h => by
  unfold tmG at h
  split at h
  case h_2 => cases h
  replace h := cond_none h
  obtain ⟨hc, h⟩ := h
  have hc := of_decide_eq_true hc
  show cond _ _ _ = some r
  rw [decide_eq_true (by omega)]
  exact h
theorem adG_fn : FnOK Try.prog 24 (adG mnM) := fnOK_cutE add_fn fun ds κ r h => by
  unfold adG at h
  split at h
  case h_2 => cases h
  replace h := cond_none h
  obtain ⟨hc, h⟩ := h
  have hc := of_decide_eq_true hc
  show cond _ _ _ = some r
  rw [decide_eq_true (by omega)]
  exact h
theorem lfG_fn : FnOK Try.prog 51 (lfG mnM) := fnOK_cutE left_fn fun ds κ r h => by
  unfold lfG at h
  split at h
  case h_2 => cases h
  replace h := cond_none h
  obtain ⟨hc, h⟩ := h
  have hc := of_decide_eq_true hc
  show cond _ _ _ = some r
  rw [decide_eq_true (by omega)]
  exact h
theorem cmG_fn : FnOK Try.prog 25 (cmG mnM) := fnOK_cutE cmp_fn fun ds κ r h => by
  unfold cmG at h
  split at h
  case h_2 => cases h
  exact h
theorem blG_fn : FnOK Try.prog 20 (blG mnM) := fnOK_cutE belowF_fn fun ds κ r h => by
  unfold blG at h
  split at h
  case h_2 => cases h
  rename_i f b n
  replace h := cond_none h
  obtain ⟨hc, h⟩ := h
  rw [Bool.and_eq_true] at hc
  obtain rfl := beq_iff_eq.1 hc.1
  have h2 := of_decide_eq_true hc.2
  show cond _ _ _ = some r
  rw [decide_eq_true (by omega)]
  exact h
/-! ### how a pattern is cut up -/
theorem shp {n : Int} (h7 : 7 ≤ n ∧ n ≤ 12) : ∃ w t dd : Nat, sgI (widthI n) = (w : Int) + 5 ∧ stI (widthI n) = (t : Int) ∧ sdI' (precI n) = (dd : Int) ∧ 6 ≤ w ∧ w ≤ 12 ∧ 20 ≤ t ∧ t ≤ 110 ∧ dd ≤ 11 ∧
    emaxI n - eminI n + 1 = ((3 * 2 ^ w : Nat) : Int) ∧ pN n = 3 * dd + 1 ∧ widthI n = ((6 + w + t : Nat) : Int) := by
  rcases (by omega : n = 7 ∨ n = 8 ∨ n = 9 ∨ n = 10 ∨ n = 11 ∨ n = 12) with rfl | rfl | rfl | rfl | rfl | rfl
  · exact ⟨6, 20, 2, by decide, by decide, by decide, by decide, by decide, by decide, by decide, by decide, by decide, by decide, by decide⟩
  · exact ⟨8, 50, 5, by decide, by decide, by decide, by decide, by decide, by decide, by decide, by decide, by decide, by decide, by decide⟩
  · exact ⟨12, 110, 11, by decide, by decide, by decide, by decide, by decide, by decide, by decide, by decide, by decide, by decide, by decide⟩
  · exact ⟨6, 20, 2, by decide, by decide, by decide, by decide, by decide, by decide, by decide, by decide, by decide, by decide, by decide⟩
  · exact ⟨8, 50, 5, by decide, by decide, by decide, by decide, by decide, by decide, by decide, by decide, by decide, by decide, by decide⟩
  · exact ⟨12, 110, 11, by decide, by decide, by decide, by decide, by decide, by decide, by decide, by decide, by decide, by decide, by decide⟩
theorem shr3 (a : Nat) : shrI .u64 (a : Int) 3 = ((a / 8 : Nat) : Int) := shr_nat a 3
theorem shr1 (a : Nat) : shrI .u64 (a : Int) 1 = ((a / 2 : Nat) : Int) := shr_nat a 1
theorem shrK (a : Nat) {k : Nat} (h : k ≤ 64) : shrI .u64 (a : Int) (k : Int) = ((a / 2 ^ k : Nat) : Int) := by rw [shr_nat, Nat.min_eq_left h]
theorem and7 {a : Nat} (h : a < 18446744073709551616) : Go.bits .and .u64 (a : Int) 7 = ((a % 8 : Nat) : Int) := by
  have := u64_and_nat a 7 h (by decide)
  rw [Nat.and_two_pow_sub_one_eq_mod a 3] at this
  exact this
theorem and3 {a : Nat} (h : a < 18446744073709551616) : Go.bits .and .u64 (a : Int) 3 = ((a % 4 : Nat) : Int) := by
  have := u64_and_nat a 3 h (by decide)
  rw [Nat.and_two_pow_sub_one_eq_mod a 2] at this
  exact this
theorem and1 {a : Nat} (h : a < 18446744073709551616) : Go.bits .and .u64 (a : Int) 1 = ((a % 2 : Nat) : Int) := by
  have := u64_and_nat a 1 h (by decide)
  rw [Nat.and_two_pow_sub_one_eq_mod a 1] at this
  exact this
theorem or_hi {q l w : Nat} (hl : l < 2 ^ w) (hq : q < 8) (hw : w ≤ 12) : Go.bits .or .u64 (shlI .u64 (q : Int) (w : Int)) (l : Int) = ((q * 2 ^ w + l : Nat) : Int) := by
  have hp : (2 : Nat) ^ w ≤ 2 ^ 12 := Nat.pow_le_pow_right (by decide) hw
  have h12 : (2 : Nat) ^ 12 = 4096 := by decide
  have hm : q * 2 ^ w ≤ 7 * 4096 := Nat.mul_le_mul (by omega) (by omega)
  rw [shl_nat, Nat.min_eq_left (by omega), Nat.mod_eq_of_lt (by omega), u64_or_nat _ _ (by omega) (by omega), Nat.or_comm, or_add hl, Nat.add_comm]
theorem mnF1_eq {a w : Nat} (hw : 6 ≤ w ∧ w ≤ 12) (ha : a < 24 * 2 ^ w) : ∃ f : Nat, mnF1 ((a / 2 ^ w : Nat) : Int) (a : Int) (w : Int) = (f : Int) ∧ f < 3 * 2 ^ w := by
  have hp : (2 : Nat) ^ w ≤ 2 ^ 12 := Nat.pow_le_pow_right (by decide) hw.2
  have h12 : (2 : Nat) ^ 12 = 4096 := by decide
  have hl : a % 2 ^ w < 2 ^ w := Nat.mod_lt _ (Nat.two_pow_pos w)
  have hd : a / 2 ^ w < 24 := by rw [Nat.div_lt_iff_lt_mul (Nat.two_pow_pos w)]; exact ha
  refine ⟨a / 2 ^ w / 8 * 2 ^ w + a % 2 ^ w, ?_, ?_⟩
  · unfold mnF1
    rw [shr3, and_mask (by omega) (by omega), or_hi hl (by omega) hw.2]
  · have : a / 2 ^ w / 8 * 2 ^ w ≤ 2 * 2 ^ w := Nat.mul_le_mul_right _ (by omega)
    omega
theorem mnF2_eq {a w : Nat} (hw : 6 ≤ w ∧ w ≤ 12) (h1 : 24 ≤ a / 2 ^ w) (h2 : a / 2 ^ w < 30) (ha : a < 2 ^ 17) : ∃ f : Nat, mnF2 ((a / 2 ^ w : Nat) : Int) (a : Int) (w : Int) = (f : Int) ∧ f < 3 * 2 ^ w := by
  have hl : a % 2 ^ w < 2 ^ w := Nat.mod_lt _ (Nat.two_pow_pos w)
  have h17 : (2 : Nat) ^ 17 = 131072 := by decide
  refine ⟨a / 2 ^ w / 2 % 4 * 2 ^ w + a % 2 ^ w, ?_, ?_⟩
  · unfold mnF2
    rw [shr1, and3 (by omega), and_mask (by omega) (by omega), or_hi hl (by omega) hw.2]
  · have : a / 2 ^ w / 2 % 4 * 2 ^ w ≤ 2 * 2 ^ w := Nat.mul_le_mul_right _ (by omega)
    omega
theorem mnF4_eq {a w : Nat} (hw : 6 ≤ w ∧ w ≤ 12) (h1 : 24 ≤ a / 2 ^ w) (h2 : a / 2 ^ w < 30) (ha : a < 2 ^ 17) : ∃ f : Nat, mnF4 (a : Int) (w : Int) = (f : Int) ∧ f < 3 * 2 ^ w := by
  have h17 : (2 : Nat) ^ 17 = 131072 := by decide
  have e : IntKind.u64.wrap ((w : Int) + 2) = ((w + 2 : Nat) : Int) := by rw [u64_wrap (by omega) (by omega)]; rfl
  refine ⟨a / 2 % 2 ^ (w + 2), ?_, ?_⟩
  · unfold mnF4
    rw [e, shr1, and_mask (by omega) (by omega)]
  · have g1 : 24 * 2 ^ w ≤ a := by rw [Nat.le_div_iff_mul_le (Nat.two_pow_pos w)] at h1; exact h1
    have g2 : a < 30 * 2 ^ w := by rw [Nat.div_lt_iff_lt_mul (Nat.two_pow_pos w)] at h2; exact h2
    have e4 : 2 ^ (w + 2) = 4 * 2 ^ w := by rw [Nat.pow_add, Nat.mul_comm]
    rw [e4]
    generalize 2 ^ w = P at *
    have : a / 2 = 4 * P * 3 + (a / 2 - 12 * P) := by omega
    rw [this, Nat.mul_add_mod, Nat.mod_eq_of_lt (by omega)]
    omega
end
end Go.Proofs.Ytcglfmldodhakaa.Vm

namespace Go.Proofs.Ytcglfmldodhakaa.Vm
open Go Go.Vm
noncomputable section
set_option linter.unusedVariables false
theorem lfD_ans {n C X : Int} {s q : Bool} {F : Nat} {f : List Int} (hf : f = wordsN 4 F) (h : finOK n (C, s, q, X, F)) : ansM n (lfD C s q X f) := by
  subst hf
  exact ansM_leaf h
theorem mnCmp_ans {n : Int} (h7 : 7 ≤ n ∧ n ≤ 12) {s : Bool} {c : List Int} {f w : Nat} (hw : emaxI n - eminI n + 1 = ((3 * 2 ^ w : Nat) : Int)) (hf : f < 3 * 2 ^ w) : ansM n (mnCmp mnM n s c (f : Int)) := by
  obtain ⟨f1, f2, f3, f4, f5, f6, f7, f8, f9⟩ := fmt10 h7
  have hx : IntKind.i64.wrap (IntKind.i64.wrap (f : Int) + eminI n) = (f : Int) + eminI n := by
    rw [i64_wrap (x := (f : Int)) (by omega) (by omega), i64_wrap (by omega) (by omega)]
  have hX : eminI n ≤ (f : Int) + eminI n ∧ (f : Int) + eminI n ≤ emaxI n := by omega
  have hp : (precI n).toNat = pN n := rfl
  unfold mnCmp
  refine ansM_guard (decide_eq_true (by omega)) ?_
  rw [hx]
  refine ansM_cond (fun _ => ?_) (fun hc => ?_)
  · exact lfD_ans (F := 0) rfl (fun _ => ⟨rfl, hX, Nat.pow_pos (by decide)⟩)
  · have h1 : ¬ cmpI (val c) (val (words (10 ^ pN n))) ≥ 0 := of_decide_eq_false hc
    have h2 : ¬ (val c ≥ 10 ^ pN n) := fun g => by
      have := cmpI_geD (val c) (10 ^ pN n)
      rw [decide_eq_true g] at this
      rw [val_words] at h1
      exact h1 (of_decide_eq_true this)
    exact lfD_ans (F := val c) rfl (fun _ => ⟨rfl, hX, show val c < 10 ^ pN n by omega⟩)
theorem wlen_small {a : Nat} (h : a < 18446744073709551616) : wlen a ≤ 1 := by rw [wlen_le, Nat.pow_one]; exact h
theorem mnFin_ans {n : Int} (h7 : 7 ≤ n ∧ n ≤ 12) {s : Bool} {F f h w : Nat} (hw : emaxI n - eminI n + 1 = ((3 * 2 ^ w : Nat) : Int)) (hf : f < 3 * 2 ^ w) (hh : h < 16) : ansM n (mnFin mnM n s (wordsN 4 F) (f : Int) (h : Int)) := by
  obtain ⟨w', t, dd, g1, g2, g3, g4, g5, g6, g7, g8, g9, g10, g11⟩ := shp h7
  have e3 : IntKind.i64.wrap (3 * sdI' (precI n)) = ((3 * dd : Nat) : Int) := by rw [g3, i64_wrap (by omega) (by omega)]; omega
  have hv : val [(h : Int)] = h := by show ((h : Int)).toNat + _ * 0 = h; omega
  have hw1 := wlen_small (a := h) (by omega)
  unfold mnFin
  cases denseI n
  · have p1 : wlen (h * 2 ^ t) ≤ 1 + (t / 64 + 1) := wlen_mul hw1 (wlen_two_pow t)
    rw [cond_false]
    refine ansM_guard (decide_eq_true ⟨(by decide : 1 ≤ 1000000), by omega, by omega⟩) ?_
    refine ansM_guard (decide_eq_true ⟨?_, by rw [length_wordsN]; decide⟩) ?_
    · show (words (val [(h : Int)] * 2 ^ (stI (widthI n)).toNat)).length ≤ 1000000
      rw [length_words, hv, g2, Int.toNat_natCast]
      omega
    · exact mnCmp_ans h7 hw hf
  · have p0 := pow10_wl (3 * dd)
    have p1 : wlen (h * 10 ^ (3 * dd)) ≤ 1 + (4 * (3 * dd) / 64 + 1) := wlen_mul hw1 p0
    rw [cond_true, e3]
    refine ansM_guard (decide_eq_true (by omega)) ?_
    refine ansM_guard (decide_eq_true ⟨(by decide : 1 ≤ 1000000), ?_⟩) ?_
    · show (words (10 ^ (((3 * dd : Nat) : Int)).toNat)).length ≤ 1000000
      rw [length_words, Int.toNat_natCast]
      omega
    refine ansM_guard (decide_eq_true ⟨?_, by rw [length_wordsN]; decide⟩) ?_
    · show (words (val [(h : Int)] * val (words (10 ^ (((3 * dd : Nat) : Int)).toNat)))).length ≤ 1000000
      rw [length_words, hv, Int.toNat_natCast, val_words]
      omega
    · exact mnCmp_ans h7 hw hf
theorem mnB2_ans {n : Int} (h7 : 7 ≤ n ∧ n ≤ 12) {s : Bool} {F a w : Nat} (hw : emaxI n - eminI n + 1 = ((3 * 2 ^ w : Nat) : Int)) (hw6 : 6 ≤ w ∧ w ≤ 12) (ha : a < 2 ^ 17) (h30 : a / 2 ^ w < 30) (hd : denseI n = true → 24 ≤ a / 2 ^ w) :
    ansM n (mnB2 mnM n s (wordsN 4 F) ((a / 2 ^ w : Nat) : Int) (a : Int) (w : Int)) := by
  have h17 : (2 : Nat) ^ 17 = 131072 := by decide
  unfold mnB2
  cases hdn : denseI n
  · rw [cond_false]
    refine ansM_cond (fun h24 => ?_) (fun h24 => ?_)
    · have h24 := of_decide_eq_true h24
      have hlt : a < 24 * 2 ^ w := by rw [← Nat.div_lt_iff_lt_mul (Nat.two_pow_pos w)]; omega
      rw [shr3, and7 (by omega)]
      refine mnFin_ans h7 hw ?_ (by omega)
      generalize 2 ^ w = P at *
      omega
    · have h24 := of_decide_eq_false h24
      obtain ⟨f, e1, e2⟩ := mnF4_eq hw6 (by omega) h30 ha
      rw [decide_eq_false (show ¬ IntKind.u64.wrap ((w : Int) + 2) < 0 by rw [u64_wrap (by omega) (by omega)]; omega), cond_false, e1, and1 (by omega), show IntKind.u64.wrap (8 + ((a % 2 : Nat) : Int)) = ((8 + a % 2 : Nat) : Int) by rw [u64_wrap (by omega) (by omega)]; rfl]
      exact mnFin_ans h7 hw e2 (by omega)
  · obtain ⟨f, e1, e2⟩ := mnF2_eq hw6 (hd hdn) h30 ha
    rw [cond_true, decide_eq_false (by omega), cond_false, cond_false, e1, and1 (by omega), show IntKind.u64.wrap (8 + ((a / 2 ^ w % 2 : Nat) : Int)) = ((8 + a / 2 ^ w % 2 : Nat) : Int) by rw [u64_wrap (by omega) (by omega)]; rfl]
    exact mnFin_ans h7 hw e2 (by omega)
theorem mnB1_ans {n : Int} (h7 : 7 ≤ n ∧ n ≤ 12) {s : Bool} {F a w : Nat} (hw : emaxI n - eminI n + 1 = ((3 * 2 ^ w : Nat) : Int)) (hw6 : 6 ≤ w ∧ w ≤ 12) (ha : a < 2 ^ 17) (h30 : a / 2 ^ w < 30) :
    ansM n (mnB1 mnM n s (wordsN 4 F) ((a / 2 ^ w : Nat) : Int) (a : Int) (w : Int)) := by
  unfold mnB1
  cases hdn : denseI n
  · rw [cond_false]
    exact mnB2_ans h7 hw hw6 ha h30 (fun h => by rw [hdn] at h; cases h)
  · rw [cond_true]
    refine ansM_cond (fun h24 => ?_) (fun h24 => ?_)
    · have h24 := of_decide_eq_true h24
      have hlt : a < 24 * 2 ^ w := by rw [← Nat.div_lt_iff_lt_mul (Nat.two_pow_pos w)]; omega
      obtain ⟨f, e1, e2⟩ := mnF1_eq hw6 hlt
      rw [decide_eq_false (by omega), cond_false, cond_false, e1, and7 (by omega)]
      exact mnFin_ans h7 hw e2 (by omega)
    · have h24 := of_decide_eq_false h24
      exact mnB2_ans h7 hw hw6 ha h30 (fun _ => by omega)
theorem mnTail_ans {n : Int} (h7 : 7 ≤ n ∧ n ≤ 12) {s : Bool} {F a w : Nat} (hw : emaxI n - eminI n + 1 = ((3 * 2 ^ w : Nat) : Int)) (hw6 : 6 ≤ w ∧ w ≤ 12) (ha : a < 2 ^ 17) (h32 : a / 2 ^ w < 32) (hn30 : a / 2 ^ w ≠ 30) {K6 : Int} (hK : 0 ≤ K6) :
    ansM n (mnTail mnM n s (a : Int) (w : Int) K6 ((a / 2 ^ w : Nat) : Int) (wordsN 4 F)) := by
  obtain ⟨f1, f2, f3, f4, f5, f6, f7, f8, f9⟩ := fmt10 h7
  unfold mnTail
  refine ansM_cond (fun h31 => ?_) (fun h31 => ?_)
  · rw [decide_eq_false (by omega), cond_false]
    refine ansM_guard (decide_eq_true (by omega)) ?_
    exact ansM_cond (fun _ => lfD_ans rfl (fin_not (by decide))) (fun _ => lfD_ans (F := 0) zeroW4.symm (fin_not (by decide)))
  · have := beq_eq_false_iff_ne.1 h31
    exact mnB1_ans h7 hw hw6 ha (by omega)
theorem mean14_ans {n : Int} (h7 : 7 ≤ n ∧ n ≤ 12) (b : List Int) : ansM n (evFn (mnE mnM) Try.f44 [.p (.int .i64 n), .r .u64 4 b]) := by
  obtain ⟨w, t, dd, g1, g2, g3, g4, g5, g6, g7, g8, g9, g10, g11⟩ := shp h7
  obtain ⟨a, ha⟩ : ∃ a, a = val b / 2 ^ t % 2 ^ (w + 5) := ⟨_, rfl⟩
  have h17 : (2 : Nat) ^ 17 = 131072 := by decide
  have hp : (2 : Nat) ^ (w + 5) ≤ 2 ^ 17 := Nat.pow_le_pow_right (by decide) (by omega)
  have hlt : a < 2 ^ (w + 5) := by rw [ha]; exact Nat.mod_lt _ (Nat.two_pow_pos _)
  have h32 : a / 2 ^ w < 32 := by
    rw [Nat.div_lt_iff_lt_mul (Nat.two_pow_pos w)]
    rwa [Nat.pow_add, Nat.mul_comm] at hlt
  have eA : mnA mnM n b = (a : Int) := by
    show IntKind.u64.wrap (IntKind.i64.wrap ((val (words (val b / 2 ^ (stI (widthI n)).toNat % 2 ^ (sgI (widthI n)).toNat)) % 18446744073709551616 : Nat) : Int)) = _
    rw [g1, g2, Int.toNat_natCast, show ((w : Int) + 5).toNat = w + 5 by omega, ← ha, val_words, Nat.mod_eq_of_lt (by omega), i64_wrap (by omega) (by omega), u64_wrap (by omega) (by omega)]
  have eK : mnK n 5 = (w : Int) := by
    unfold mnK
    rw [g1, i64_wrap (by omega) (by omega), u64_wrap (by omega) (by omega)]
    omega
  have eK6 : mnK n 6 = ((w - 1 : Nat) : Int) := by
    unfold mnK
    rw [g1, i64_wrap (by omega) (by omega), u64_wrap (by omega) (by omega)]
    omega
  have hs : IntKind.i64.wrap (stI (widthI n) + sgI (widthI n)) = ((t + w + 5 : Nat) : Int) := by
    rw [g1, g2, i64_wrap (by omega) (by omega)]
    omega
  rw [mean14_ev, decide_eq_true (show 1 ≤ n ∧ n ≤ 12 by omega), cond_true, decide_eq_true (show 0 ≤ stI (widthI n) ∧ 0 ≤ sgI (widthI n) ∧ sgI (widthI n) ≤ 256 by omega), cond_true, decide_eq_true (show 0 ≤ (0 : Int) ∧ 0 ≤ stI (widthI n) ∧ stI (widthI n) ≤ 256 by omega), cond_true,
    eK, eK6, eA, decide_eq_false (show ¬ (w : Int) < 0 by omega), cond_false, hs, decide_eq_true (show 0 ≤ ((t + w + 5 : Nat) : Int) ∧ 0 ≤ (1 : Int) ∧ (1 : Int) ≤ 256 by omega), cond_true, shrK a (by omega)]
  unfold mnGo
  refine ansM_cond (fun _ => lfD_ans (F := 0) zeroW4.symm (fin_not (by decide))) (fun h30 => ?_)
  have h30 := beq_eq_false_iff_ne.1 h30
  refine ansM_cond (fun _ => ?_) (fun _ => ?_)
  · exact mnTail_ans h7 g9 ⟨g4, g5⟩ (by omega) h32 (by omega) (by omega)
  · exact mnTail_ans h7 g9 ⟨g4, g5⟩ (by omega) h32 (by omega) (by omega)
open Classical in
def mn14 (n : Int) (b : List Int) : Int × Bool × Bool × Int × Nat :=
  if h : ∃ t : Int × Bool × Bool × Int × Nat, evFn (mnE mnM) Try.f44 [.p (.int .i64 n), .r .u64 4 b] = some [(.mine, .g (datumCells t.1 t.2.1 t.2.2.1 t.2.2.2.1 (wordsN 4 t.2.2.2.2)))] ∧ finOK n t then Classical.choose h else (0, false, false, 0, 0)
theorem mn14_fin {n : Int} {b : List Int} : finOK n (mn14 n b) := by
  unfold mn14
  split
  · rename_i h
    exact (Classical.choose_spec h).2
  · exact fin_not (by decide)
def mean14C : FnC := fun ds κ => match ds with
  | [.p (.int .i64 n), .r .u64 4 b] => cond (decide (7 ≤ n ∧ n ≤ 12)) (κ [(.mine, .g (datumCells (mn14 n b).1 (mn14 n b).2.1 (mn14 n b).2.2.1 (mn14 n b).2.2.2.1 (wordsN 4 (mn14 n b).2.2.2.2)))]) none
  | _ => none
theorem mean14_he : ∀ ds κ r, (∀ d ∈ ds, d.wf) → mean14C ds κ = some r → ∃ res, κ res = some r ∧ evFn (mnE mnM) Try.f44 ds = some res := fun ds κ r hw h => by
  unfold mean14C at h
  split at h
  case h_2 => cases h
  rename_i n b
  replace h := cond_none h
  obtain ⟨hc, h⟩ := h
  obtain ⟨hl, hb⟩ := wfR hw (xs := b) (n := 4) (by simp)
  have he : ∃ t : Int × Bool × Bool × Int × Nat, evFn (mnE mnM) Try.f44 [.p (.int .i64 n), .r .u64 4 b] = some [(.mine, .g (datumCells t.1 t.2.1 t.2.2.1 t.2.2.2.1 (wordsN 4 t.2.2.2.2)))] ∧ finOK n t := mean14_ans (of_decide_eq_true hc) b
  refine ⟨_, h, ?_⟩
  unfold mn14
  rw [dif_pos he]
  exact (Classical.choose_spec he).1
theorem mean14_fn : FnOK Try.prog 44 mean14C := fnOK_mk T mixed Try.func44 (by kernel_rfl) (fns := [(14, infoInC), (75, shape14C), (77, fldG mnM), (76, numG mnM), (21, btG mnM), (78, unG mnM), (20, blG mnM), (71, pwG mnM), (18, tmG mnM), (24, adG mnM), (51, lfG mnM), (25, cmG mnM)]) (lps := []) (live := []) (out := []) (fuel := 0) (give := (fun _ => false)) ⟨rIn_fn, shape14_fn, fldG_fn, numG_fn, btG_fn, unG_fn, blG_fn, pwG_fn, tmG_fn, adG_fn, lfG_fn, cmG_fn, trivial⟩ trivial mean14_he
end
end Go.Proofs.Ytcglfmldodhakaa.Vm

namespace Go.Proofs.Ytcglfmldodhakaa.Vm
open Go Go.Vm
noncomputable section
set_option linter.unusedVariables false
/-- What the callees of ref14.Pack compute, as free functions. -/
structure PkF where
  lay : List Int → List Int → Int → List Int
  nat : List Int → List Int
  pk : List Int → Int → List Int
  pke : List Int → Int → Int
  pw : Int → List Int
  o1 : List Int → List Int → List Int
  o2 : List Int → List Int → List Int
  bt : List Int → List Int
  num : List Int → Int
  rt : List Int → Int → List Int
  rtb : List Int → Int → Bool
  fld : List Int → Int → Int → List Int
  isd : Int → Int → Int → Int → Int → Bool → Int → List Int → Bool
def layK (M : PkF) : FnC := fun ds κ => match ds with
  | [.r .u64 4 b, .w .u64 a, .p (.int .i64 p)] => cond (decide (a.length ≤ 1000 ∧ 0 ≤ p ∧ p ≤ 1000)) (κ [(.mine, .r .u64 4 (M.lay b a p))]) none
  | _ => none
def natK (M : PkF) : FnC := fun ds κ => match ds with
  | [.r .u64 4 b] => κ [(.new, .w .u64 (M.nat b))]
  | _ => none
def pkK (M : PkF) : FnC := fun ds κ => match ds with
  | [.r .u64 4 b, .p (.int .i64 n)] => κ [(.mine, .r .u64 4 (M.pk b n)), (.mine, .p (.int .i64 (M.pke b n)))]
  | _ => none
def pwK (M : PkF) : FnC := fun ds κ => match ds with
  | [.p (.int .u64 a), .p (.int .i64 n)] => cond (a == 10 && decide (0 ≤ n ∧ n ≤ 100000)) (κ [(.mine, .w .u64 (M.pw n))]) none
  | _ => none
def ovK (M : PkF) : FnC := fun ds κ => match ds with
  | [.w .u64 xs, .w .u64 ys] => cond (decide (xs.length ≤ 1000000 ∧ ys.length ≤ 1000000 ∧ 0 < val ys)) (κ [(.new, .w .u64 (M.o1 xs ys)), (.new, .w .u64 (M.o2 xs ys))]) none
  | _ => none
def btK (M : PkF) : FnC := fun ds κ => match ds with
  | [.w .u64 xs] => κ [(.mine, .r .u64 4 (M.bt xs))]
  | _ => none
def numK (M : PkF) : FnC := fun ds κ => match ds with
  | [.w .u64 xs] => κ [(.mine, .p (.int .i64 (M.num xs)))]
  | _ => none
def rtK (M : PkF) : FnC := fun ds κ => match ds with
  | [.w .u64 xs, .p (.int .i64 n)] => cond (decide (xs.length ≤ 1000000 ∧ 0 ≤ n)) (κ [(.new, .w .u64 (M.rt xs n)), (.mine, .p (.bool (M.rtb xs n)))]) none
  | _ => none
def fldK (M : PkF) : FnC := fun ds κ => match ds with
  | [.r .u64 4 b, .p (.int .i64 p), .p (.int .i64 n)] => cond (decide (0 ≤ p ∧ 0 ≤ n ∧ n ≤ 256)) (κ [(.mine, .w .u64 (M.fld b p n))]) none
  | _ => none
def isK (M : PkF) : FnC := fun ds κ => match ds with
  | [.g [.int .i64 n, .string i1, .int .i64 i2, .int .i64 i3, .int .i64 p, .int .i64 i5, .int .i64 emin, .int .i64 emax, .int .i64 pay, .bool i9], .g [.int .i64 c, .bool s, .bool q, .int .i64 x, .int .u64 w0, .int .u64 w1, .int .u64 w2, .int .u64 w3]] => cond (decide (0 ≤ p ∧ p ≤ 100000 ∧ 0 ≤ pay ∧ pay ≤ 100000)) (κ [(.mine, .p (.bool (M.isd p emin emax pay c q x [w0, w1, w2, w3])))]) none
  | _ => none
def infoGC : FnC := fun ds κ => match ds with
  | [.p (.int .i64 n)] => cond (decide (7 ≤ n ∧ n ≤ 12)) (κ [(.mine, .g (infoCells n)), (.mine, .p (.int .i64 0))]) none
  | _ => none
def pkE (M : PkF) : Env := mkE ty [(22, rDecimC), (14, infoGC), (79, isK M), (75, shape14C), (80, layK M), (16, natK M), (81, pkK M), (71, pwK M), (19, ovK M), (21, btK M), (76, numK M), (53, rtK M), (77, fldK M)] [] [] [] 0 (fun _ => false)
theorem rPack14_ev (M : PkF) (n c x w0 w1 w2 w3 : Int) (s q : Bool) : evFn (pkE M) Try.f45 [.p (.int .i64 n), .g [.int .i64 c, .bool s, .bool q, .int .i64 x, .int .u64 w0, .int .u64 w1, .int .u64 w2, .int .u64 w3]] =
    (cond (!decide ((7 : Int) ≤ n ∧ n ≤ (12 : Int)))
     (some [(.mine, .r .u64 4 (List.replicate 4 (0 : Int))), (.mine, .p (.int .i64 (1)))])
     (cond (decide ((7 : Int) ≤ n ∧ n ≤ (12 : Int)))
      (cond (decide (0 ≤ precI n ∧ precI n ≤ 100000 ∧ 0 ≤ payI n ∧ payI n ≤ 100000)) (cond (!M.isd (precI n) (eminI n) (emaxI n) (payI n) c q x [w0, w1, w2, w3])
       (some [(.mine, .r .u64 4 (List.replicate 4 (0 : Int))), (.mine, .p (.int .i64 (3)))])
       (cond (s)
        (cond (decide
      (1 ≤ 1000 ∧
        (0 : Int) ≤ IntKind.i64.wrap (stI (widthI n) + sgI (widthI n)) ∧
          IntKind.i64.wrap (stI (widthI n) + sgI (widthI n)) ≤ (1000 : Int)))
         (cond (c == (2 : Int))
          (cond (decide
      (1 ≤ 1000 ∧
        (0 : Int) ≤ IntKind.i64.wrap (IntKind.i64.wrap (stI (widthI n) + sgI (widthI n)) - (5 : Int)) ∧
          IntKind.i64.wrap (IntKind.i64.wrap (stI (widthI n) + sgI (widthI n)) - (5 : Int)) ≤ (1000 : Int)))
           (some [(.mine, .r .u64 4 (M.lay
      (M.lay (List.replicate 4 (0 : Int)) ((List.replicate 1 (0 : Int)).set 0 (1 : Int))
        (IntKind.i64.wrap (stI (widthI n) + sgI (widthI n))))
      ((List.replicate 1 (0 : Int)).set 0 (30 : Int))
      (IntKind.i64.wrap (IntKind.i64.wrap (stI (widthI n) + sgI (widthI n)) - (5 : Int))))), (.mine, .p (.int .i64 (0)))])
           none)
          (cond (c == (3 : Int))
           (cond (decide
      (1 ≤ 1000 ∧
        (0 : Int) ≤ IntKind.i64.wrap (IntKind.i64.wrap (stI (widthI n) + sgI (widthI n)) - (5 : Int)) ∧
          IntKind.i64.wrap (IntKind.i64.wrap (stI (widthI n) + sgI (widthI n)) - (5 : Int)) ≤ (1000 : Int)))
            (cond (q)
             (cond (decide
      (1 ≤ 1000 ∧
        (0 : Int) ≤ IntKind.i64.wrap (IntKind.i64.wrap (stI (widthI n) + sgI (widthI n)) - (6 : Int)) ∧
          IntKind.i64.wrap (IntKind.i64.wrap (stI (widthI n) + sgI (widthI n)) - (6 : Int)) ≤ (1000 : Int)))
              (cond (denseI n)
               (cond (decide
      ((M.pk [w0, w1, w2, w3] (sdI' (precI n))).length ≤ 1000 ∧ (0 : Int) ≤ (0 : Int) ∧ (0 : Int) ≤ (1000 : Int)))
                (some [(.mine, .r .u64 4 (M.lay
      (M.lay
        (M.lay
          (M.lay (List.replicate 4 (0 : Int)) ((List.replicate 1 (0 : Int)).set 0 (1 : Int))
            (IntKind.i64.wrap (stI (widthI n) + sgI (widthI n))))
          ((List.replicate 1 (0 : Int)).set 0 (31 : Int))
          (IntKind.i64.wrap (IntKind.i64.wrap (stI (widthI n) + sgI (widthI n)) - (5 : Int))))
        ((List.replicate 1 (0 : Int)).set 0 (1 : Int))
        (IntKind.i64.wrap (IntKind.i64.wrap (stI (widthI n) + sgI (widthI n)) - (6 : Int))))
      (M.pk [w0, w1, w2, w3] (sdI' (precI n))) (0 : Int))), (.mine, .p (.int .i64 (0)))])
                none)
               (cond (decide ((M.nat [w0, w1, w2, w3]).length ≤ 1000 ∧ (0 : Int) ≤ (0 : Int) ∧ (0 : Int) ≤ (1000 : Int)))
                (some [(.mine, .r .u64 4 (M.lay
      (M.lay
        (M.lay
          (M.lay (List.replicate 4 (0 : Int)) ((List.replicate 1 (0 : Int)).set 0 (1 : Int))
            (IntKind.i64.wrap (stI (widthI n) + sgI (widthI n))))
          ((List.replicate 1 (0 : Int)).set 0 (31 : Int))
          (IntKind.i64.wrap (IntKind.i64.wrap (stI (widthI n) + sgI (widthI n)) - (5 : Int))))
        ((List.replicate 1 (0 : Int)).set 0 (1 : Int))
        (IntKind.i64.wrap (IntKind.i64.wrap (stI (widthI n) + sgI (widthI n)) - (6 : Int))))
      (M.nat [w0, w1, w2, w3]) (0 : Int))), (.mine, .p (.int .i64 (0)))])
                none))
              none)
             (cond (denseI n)
              (cond (decide
      ((M.pk [w0, w1, w2, w3] (sdI' (precI n))).length ≤ 1000 ∧ (0 : Int) ≤ (0 : Int) ∧ (0 : Int) ≤ (1000 : Int)))
               (some [(.mine, .r .u64 4 (M.lay
      (M.lay
        (M.lay (List.replicate 4 (0 : Int)) ((List.replicate 1 (0 : Int)).set 0 (1 : Int))
          (IntKind.i64.wrap (stI (widthI n) + sgI (widthI n))))
        ((List.replicate 1 (0 : Int)).set 0 (31 : Int))
        (IntKind.i64.wrap (IntKind.i64.wrap (stI (widthI n) + sgI (widthI n)) - (5 : Int))))
      (M.pk [w0, w1, w2, w3] (sdI' (precI n))) (0 : Int))), (.mine, .p (.int .i64 (0)))])
               none)
              (cond (decide ((M.nat [w0, w1, w2, w3]).length ≤ 1000 ∧ (0 : Int) ≤ (0 : Int) ∧ (0 : Int) ≤ (1000 : Int)))
               (some [(.mine, .r .u64 4 (M.lay
      (M.lay
        (M.lay (List.replicate 4 (0 : Int)) ((List.replicate 1 (0 : Int)).set 0 (1 : Int))
          (IntKind.i64.wrap (stI (widthI n) + sgI (widthI n))))
        ((List.replicate 1 (0 : Int)).set 0 (31 : Int))
        (IntKind.i64.wrap (IntKind.i64.wrap (stI (widthI n) + sgI (widthI n)) - (5 : Int))))
      (M.nat [w0, w1, w2, w3]) (0 : Int))), (.mine, .p (.int .i64 (0)))])
               none)))
            none)
           (cond (denseI n)
            (cond ((10 : Int) == (10 : Int) &&
      decide
        ((0 : Int) ≤ IntKind.i64.wrap ((3 : Int) * sdI' (precI n)) ∧
          IntKind.i64.wrap ((3 : Int) * sdI' (precI n)) ≤ (100000 : Int)))
             (cond (decide
      ((M.nat [w0, w1, w2, w3]).length ≤ 1000000 ∧
        (M.pw (IntKind.i64.wrap ((3 : Int) * sdI' (precI n)))).length ≤ 1000000 ∧
          0 < val (M.pw (IntKind.i64.wrap ((3 : Int) * sdI' (precI n))))))
              (cond (decide
      ((M.pk (M.bt (M.o2 (M.nat [w0, w1, w2, w3]) (M.pw (IntKind.i64.wrap ((3 : Int) * sdI' (precI n))))))
              (sdI' (precI n))).length ≤
          1000 ∧
        (0 : Int) ≤ (0 : Int) ∧ (0 : Int) ≤ (1000 : Int)))
               (cond (decide (IntKind.u64.wrap (IntKind.i64.wrap (sgI (widthI n) - (5 : Int))) < (0 : Int)))
                none
                (cond (decide
      (IntKind.u64.wrap (M.num (M.o1 (M.nat [w0, w1, w2, w3]) (M.pw (IntKind.i64.wrap ((3 : Int) * sdI' (precI n)))))) ≥
        (8 : Int)))
                 (cond (decide (IntKind.u64.wrap (IntKind.i64.wrap (sgI (widthI n) - (5 : Int))) < (0 : Int)))
                  none
                  (cond (decide (IntKind.u64.wrap (IntKind.i64.wrap (sgI (widthI n) - (5 : Int))) < (0 : Int)))
                   none
                   (cond (decide (IntKind.u64.wrap (IntKind.i64.wrap (sgI (widthI n) - (5 : Int))) < (0 : Int)))
                    none
                    (cond (decide
      (((List.replicate 1 (0 : Int)).set 0
              (bits BinOp.or IntKind.u64
                (shlI IntKind.u64
                  (bits BinOp.or IntKind.u64
                    (bits BinOp.or IntKind.u64 (24 : Int)
                      (shlI IntKind.u64
                        (shrI IntKind.u64 (IntKind.u64.wrap (IntKind.i64.wrap (x - eminI n)))
                          (IntKind.u64.wrap (IntKind.i64.wrap (sgI (widthI n) - (5 : Int)))))
                        (1 : Int)))
                    (bits BinOp.and IntKind.u64
                      (IntKind.u64.wrap
                        (M.num (M.o1 (M.nat [w0, w1, w2, w3]) (M.pw (IntKind.i64.wrap ((3 : Int) * sdI' (precI n)))))))
                      (1 : Int)))
                  (IntKind.u64.wrap (IntKind.i64.wrap (sgI (widthI n) - (5 : Int)))))
                (bits BinOp.and IntKind.u64 (IntKind.u64.wrap (IntKind.i64.wrap (x - eminI n)))
                  (IntKind.u64.wrap
                    (shlI IntKind.u64 (1 : Int) (IntKind.u64.wrap (IntKind.i64.wrap (sgI (widthI n) - (5 : Int)))) -
                      (1 : Int)))))).length ≤
          1000 ∧
        (0 : Int) ≤ stI (widthI n) ∧ stI (widthI n) ≤ (1000 : Int)))
                     (some [(.mine, .r .u64 4 (M.lay
      (M.lay
        (M.lay (List.replicate 4 (0 : Int)) ((List.replicate 1 (0 : Int)).set 0 (1 : Int))
          (IntKind.i64.wrap (stI (widthI n) + sgI (widthI n))))
        (M.pk (M.bt (M.o2 (M.nat [w0, w1, w2, w3]) (M.pw (IntKind.i64.wrap ((3 : Int) * sdI' (precI n))))))
          (sdI' (precI n)))
        (0 : Int))
      ((List.replicate 1 (0 : Int)).set 0
        (bits BinOp.or IntKind.u64
          (shlI IntKind.u64
            (bits BinOp.or IntKind.u64
              (bits BinOp.or IntKind.u64 (24 : Int)
                (shlI IntKind.u64
                  (shrI IntKind.u64 (IntKind.u64.wrap (IntKind.i64.wrap (x - eminI n)))
                    (IntKind.u64.wrap (IntKind.i64.wrap (sgI (widthI n) - (5 : Int)))))
                  (1 : Int)))
              (bits BinOp.and IntKind.u64
                (IntKind.u64.wrap
                  (M.num (M.o1 (M.nat [w0, w1, w2, w3]) (M.pw (IntKind.i64.wrap ((3 : Int) * sdI' (precI n)))))))
                (1 : Int)))
            (IntKind.u64.wrap (IntKind.i64.wrap (sgI (widthI n) - (5 : Int)))))
          (bits BinOp.and IntKind.u64 (IntKind.u64.wrap (IntKind.i64.wrap (x - eminI n)))
            (IntKind.u64.wrap
              (shlI IntKind.u64 (1 : Int) (IntKind.u64.wrap (IntKind.i64.wrap (sgI (widthI n) - (5 : Int)))) -
                (1 : Int))))))
      (stI (widthI n)))), (.mine, .p (.int .i64 (0)))])
                     none))))
                 (cond (decide (IntKind.u64.wrap (IntKind.i64.wrap (sgI (widthI n) - (5 : Int))) < (0 : Int)))
                  none
                  (cond (decide (IntKind.u64.wrap (IntKind.i64.wrap (sgI (widthI n) - (5 : Int))) < (0 : Int)))
                   none
                   (cond (decide
      (((List.replicate 1 (0 : Int)).set 0
              (bits BinOp.or IntKind.u64
                (shlI IntKind.u64
                  (bits BinOp.or IntKind.u64
                    (shlI IntKind.u64
                      (shrI IntKind.u64 (IntKind.u64.wrap (IntKind.i64.wrap (x - eminI n)))
                        (IntKind.u64.wrap (IntKind.i64.wrap (sgI (widthI n) - (5 : Int)))))
                      (3 : Int))
                    (IntKind.u64.wrap
                      (M.num (M.o1 (M.nat [w0, w1, w2, w3]) (M.pw (IntKind.i64.wrap ((3 : Int) * sdI' (precI n))))))))
                  (IntKind.u64.wrap (IntKind.i64.wrap (sgI (widthI n) - (5 : Int)))))
                (bits BinOp.and IntKind.u64 (IntKind.u64.wrap (IntKind.i64.wrap (x - eminI n)))
                  (IntKind.u64.wrap
                    (shlI IntKind.u64 (1 : Int) (IntKind.u64.wrap (IntKind.i64.wrap (sgI (widthI n) - (5 : Int)))) -
                      (1 : Int)))))).length ≤
          1000 ∧
        (0 : Int) ≤ stI (widthI n) ∧ stI (widthI n) ≤ (1000 : Int)))
                    (some [(.mine, .r .u64 4 (M.lay
      (M.lay
        (M.lay (List.replicate 4 (0 : Int)) ((List.replicate 1 (0 : Int)).set 0 (1 : Int))
          (IntKind.i64.wrap (stI (widthI n) + sgI (widthI n))))
        (M.pk (M.bt (M.o2 (M.nat [w0, w1, w2, w3]) (M.pw (IntKind.i64.wrap ((3 : Int) * sdI' (precI n))))))
          (sdI' (precI n)))
        (0 : Int))
      ((List.replicate 1 (0 : Int)).set 0
        (bits BinOp.or IntKind.u64
          (shlI IntKind.u64
            (bits BinOp.or IntKind.u64
              (shlI IntKind.u64
                (shrI IntKind.u64 (IntKind.u64.wrap (IntKind.i64.wrap (x - eminI n)))
                  (IntKind.u64.wrap (IntKind.i64.wrap (sgI (widthI n) - (5 : Int)))))
                (3 : Int))
              (IntKind.u64.wrap
                (M.num (M.o1 (M.nat [w0, w1, w2, w3]) (M.pw (IntKind.i64.wrap ((3 : Int) * sdI' (precI n))))))))
            (IntKind.u64.wrap (IntKind.i64.wrap (sgI (widthI n) - (5 : Int)))))
          (bits BinOp.and IntKind.u64 (IntKind.u64.wrap (IntKind.i64.wrap (x - eminI n)))
            (IntKind.u64.wrap
              (shlI IntKind.u64 (1 : Int) (IntKind.u64.wrap (IntKind.i64.wrap (sgI (widthI n) - (5 : Int)))) -
                (1 : Int))))))
      (stI (widthI n)))), (.mine, .p (.int .i64 (0)))])
                    none)))))
               none)
              none)
             none)
            (cond (decide ((M.nat [w0, w1, w2, w3]).length ≤ 1000000 ∧ (0 : Int) ≤ stI (widthI n)))
             (cond (decide ((0 : Int) ≤ (0 : Int) ∧ (0 : Int) ≤ stI (widthI n) ∧ stI (widthI n) ≤ (256 : Int)))
              (cond (decide
      ((M.fld [w0, w1, w2, w3] (0 : Int) (stI (widthI n))).length ≤ 1000 ∧
        (0 : Int) ≤ (0 : Int) ∧ (0 : Int) ≤ (1000 : Int)))
               (cond (decide (IntKind.u64.wrap (M.num (M.rt (M.nat [w0, w1, w2, w3]) (stI (widthI n)))) ≥ (8 : Int)))
                (cond (decide (IntKind.u64.wrap (IntKind.u64.wrap (IntKind.i64.wrap (sgI (widthI n) - (5 : Int))) + (3 : Int)) < (0 : Int)))
                 none
                 (cond (decide
      (((List.replicate 1 (0 : Int)).set 0
              (bits BinOp.or IntKind.u64
                (bits BinOp.or IntKind.u64
                  (shlI IntKind.u64 (3 : Int)
                    (IntKind.u64.wrap (IntKind.u64.wrap (IntKind.i64.wrap (sgI (widthI n) - (5 : Int))) + (3 : Int))))
                  (shlI IntKind.u64 (IntKind.u64.wrap (IntKind.i64.wrap (x - eminI n))) (1 : Int)))
                (bits BinOp.and IntKind.u64 (IntKind.u64.wrap (M.num (M.rt (M.nat [w0, w1, w2, w3]) (stI (widthI n)))))
                  (1 : Int)))).length ≤
          1000 ∧
        (0 : Int) ≤ stI (widthI n) ∧ stI (widthI n) ≤ (1000 : Int)))
                  (some [(.mine, .r .u64 4 (M.lay
      (M.lay
        (M.lay (List.replicate 4 (0 : Int)) ((List.replicate 1 (0 : Int)).set 0 (1 : Int))
          (IntKind.i64.wrap (stI (widthI n) + sgI (widthI n))))
        (M.fld [w0, w1, w2, w3] (0 : Int) (stI (widthI n))) (0 : Int))
      ((List.replicate 1 (0 : Int)).set 0
        (bits BinOp.or IntKind.u64
          (bits BinOp.or IntKind.u64
            (shlI IntKind.u64 (3 : Int)
              (IntKind.u64.wrap (IntKind.u64.wrap (IntKind.i64.wrap (sgI (widthI n) - (5 : Int))) + (3 : Int))))
            (shlI IntKind.u64 (IntKind.u64.wrap (IntKind.i64.wrap (x - eminI n))) (1 : Int)))
          (bits BinOp.and IntKind.u64 (IntKind.u64.wrap (M.num (M.rt (M.nat [w0, w1, w2, w3]) (stI (widthI n)))))
            (1 : Int))))
      (stI (widthI n)))), (.mine, .p (.int .i64 (0)))])
                  none))
                (cond (decide
      (((List.replicate 1 (0 : Int)).set 0
              (bits BinOp.or IntKind.u64 (shlI IntKind.u64 (IntKind.u64.wrap (IntKind.i64.wrap (x - eminI n))) (3 : Int))
                (IntKind.u64.wrap (M.num (M.rt (M.nat [w0, w1, w2, w3]) (stI (widthI n))))))).length ≤
          1000 ∧
        (0 : Int) ≤ stI (widthI n) ∧ stI (widthI n) ≤ (1000 : Int)))
                 (some [(.mine, .r .u64 4 (M.lay
      (M.lay
        (M.lay (List.replicate 4 (0 : Int)) ((List.replicate 1 (0 : Int)).set 0 (1 : Int))
          (IntKind.i64.wrap (stI (widthI n) + sgI (widthI n))))
        (M.fld [w0, w1, w2, w3] (0 : Int) (stI (widthI n))) (0 : Int))
      ((List.replicate 1 (0 : Int)).set 0
        (bits BinOp.or IntKind.u64 (shlI IntKind.u64 (IntKind.u64.wrap (IntKind.i64.wrap (x - eminI n))) (3 : Int))
          (IntKind.u64.wrap (M.num (M.rt (M.nat [w0, w1, w2, w3]) (stI (widthI n)))))))
      (stI (widthI n)))), (.mine, .p (.int .i64 (0)))])
                 none))
               none)
              none)
             none))))
         none)
        (cond (c == (2 : Int))
         (cond (decide
      (1 ≤ 1000 ∧
        (0 : Int) ≤ IntKind.i64.wrap (IntKind.i64.wrap (stI (widthI n) + sgI (widthI n)) - (5 : Int)) ∧
          IntKind.i64.wrap (IntKind.i64.wrap (stI (widthI n) + sgI (widthI n)) - (5 : Int)) ≤ (1000 : Int)))
          (some [(.mine, .r .u64 4 (M.lay (List.replicate 4 (0 : Int)) ((List.replicate 1 (0 : Int)).set 0 (30 : Int))
      (IntKind.i64.wrap (IntKind.i64.wrap (stI (widthI n) + sgI (widthI n)) - (5 : Int))))), (.mine, .p (.int .i64 (0)))])
          none)
         (cond (c == (3 : Int))
          (cond (decide
      (1 ≤ 1000 ∧
        (0 : Int) ≤ IntKind.i64.wrap (IntKind.i64.wrap (stI (widthI n) + sgI (widthI n)) - (5 : Int)) ∧
          IntKind.i64.wrap (IntKind.i64.wrap (stI (widthI n) + sgI (widthI n)) - (5 : Int)) ≤ (1000 : Int)))
           (cond (q)
            (cond (decide
      (1 ≤ 1000 ∧
        (0 : Int) ≤ IntKind.i64.wrap (IntKind.i64.wrap (stI (widthI n) + sgI (widthI n)) - (6 : Int)) ∧
          IntKind.i64.wrap (IntKind.i64.wrap (stI (widthI n) + sgI (widthI n)) - (6 : Int)) ≤ (1000 : Int)))
             (cond (denseI n)
              (cond (decide
      ((M.pk [w0, w1, w2, w3] (sdI' (precI n))).length ≤ 1000 ∧ (0 : Int) ≤ (0 : Int) ∧ (0 : Int) ≤ (1000 : Int)))
               (some [(.mine, .r .u64 4 (M.lay
      (M.lay
        (M.lay (List.replicate 4 (0 : Int)) ((List.replicate 1 (0 : Int)).set 0 (31 : Int))
          (IntKind.i64.wrap (IntKind.i64.wrap (stI (widthI n) + sgI (widthI n)) - (5 : Int))))
        ((List.replicate 1 (0 : Int)).set 0 (1 : Int))
        (IntKind.i64.wrap (IntKind.i64.wrap (stI (widthI n) + sgI (widthI n)) - (6 : Int))))
      (M.pk [w0, w1, w2, w3] (sdI' (precI n))) (0 : Int))), (.mine, .p (.int .i64 (0)))])
               none)
              (cond (decide ((M.nat [w0, w1, w2, w3]).length ≤ 1000 ∧ (0 : Int) ≤ (0 : Int) ∧ (0 : Int) ≤ (1000 : Int)))
               (some [(.mine, .r .u64 4 (M.lay
      (M.lay
        (M.lay (List.replicate 4 (0 : Int)) ((List.replicate 1 (0 : Int)).set 0 (31 : Int))
          (IntKind.i64.wrap (IntKind.i64.wrap (stI (widthI n) + sgI (widthI n)) - (5 : Int))))
        ((List.replicate 1 (0 : Int)).set 0 (1 : Int))
        (IntKind.i64.wrap (IntKind.i64.wrap (stI (widthI n) + sgI (widthI n)) - (6 : Int))))
      (M.nat [w0, w1, w2, w3]) (0 : Int))), (.mine, .p (.int .i64 (0)))])
               none))
             none)
            (cond (denseI n)
             (cond (decide
      ((M.pk [w0, w1, w2, w3] (sdI' (precI n))).length ≤ 1000 ∧ (0 : Int) ≤ (0 : Int) ∧ (0 : Int) ≤ (1000 : Int)))
              (some [(.mine, .r .u64 4 (M.lay
      (M.lay (List.replicate 4 (0 : Int)) ((List.replicate 1 (0 : Int)).set 0 (31 : Int))
        (IntKind.i64.wrap (IntKind.i64.wrap (stI (widthI n) + sgI (widthI n)) - (5 : Int))))
      (M.pk [w0, w1, w2, w3] (sdI' (precI n))) (0 : Int))), (.mine, .p (.int .i64 (0)))])
              none)
             (cond (decide ((M.nat [w0, w1, w2, w3]).length ≤ 1000 ∧ (0 : Int) ≤ (0 : Int) ∧ (0 : Int) ≤ (1000 : Int)))
              (some [(.mine, .r .u64 4 (M.lay
      (M.lay (List.replicate 4 (0 : Int)) ((List.replicate 1 (0 : Int)).set 0 (31 : Int))
        (IntKind.i64.wrap (IntKind.i64.wrap (stI (widthI n) + sgI (widthI n)) - (5 : Int))))
      (M.nat [w0, w1, w2, w3]) (0 : Int))), (.mine, .p (.int .i64 (0)))])
              none)))
           none)
          (cond (denseI n)
           (cond ((10 : Int) == (10 : Int) &&
      decide
        ((0 : Int) ≤ IntKind.i64.wrap ((3 : Int) * sdI' (precI n)) ∧
          IntKind.i64.wrap ((3 : Int) * sdI' (precI n)) ≤ (100000 : Int)))
            (cond (decide
      ((M.nat [w0, w1, w2, w3]).length ≤ 1000000 ∧
        (M.pw (IntKind.i64.wrap ((3 : Int) * sdI' (precI n)))).length ≤ 1000000 ∧
          0 < val (M.pw (IntKind.i64.wrap ((3 : Int) * sdI' (precI n))))))
             (cond (decide
      ((M.pk (M.bt (M.o2 (M.nat [w0, w1, w2, w3]) (M.pw (IntKind.i64.wrap ((3 : Int) * sdI' (precI n))))))
              (sdI' (precI n))).length ≤
          1000 ∧
        (0 : Int) ≤ (0 : Int) ∧ (0 : Int) ≤ (1000 : Int)))
              (cond (decide (IntKind.u64.wrap (IntKind.i64.wrap (sgI (widthI n) - (5 : Int))) < (0 : Int)))
               none
               (cond (decide
      (IntKind.u64.wrap (M.num (M.o1 (M.nat [w0, w1, w2, w3]) (M.pw (IntKind.i64.wrap ((3 : Int) * sdI' (precI n)))))) ≥
        (8 : Int)))
                (cond (decide (IntKind.u64.wrap (IntKind.i64.wrap (sgI (widthI n) - (5 : Int))) < (0 : Int)))
                 none
                 (cond (decide (IntKind.u64.wrap (IntKind.i64.wrap (sgI (widthI n) - (5 : Int))) < (0 : Int)))
                  none
                  (cond (decide (IntKind.u64.wrap (IntKind.i64.wrap (sgI (widthI n) - (5 : Int))) < (0 : Int)))
                   none
                   (cond (decide
      (((List.replicate 1 (0 : Int)).set 0
              (bits BinOp.or IntKind.u64
                (shlI IntKind.u64
                  (bits BinOp.or IntKind.u64
                    (bits BinOp.or IntKind.u64 (24 : Int)
                      (shlI IntKind.u64
                        (shrI IntKind.u64 (IntKind.u64.wrap (IntKind.i64.wrap (x - eminI n)))
                          (IntKind.u64.wrap (IntKind.i64.wrap (sgI (widthI n) - (5 : Int)))))
                        (1 : Int)))
                    (bits BinOp.and IntKind.u64
                      (IntKind.u64.wrap
                        (M.num (M.o1 (M.nat [w0, w1, w2, w3]) (M.pw (IntKind.i64.wrap ((3 : Int) * sdI' (precI n)))))))
                      (1 : Int)))
                  (IntKind.u64.wrap (IntKind.i64.wrap (sgI (widthI n) - (5 : Int)))))
                (bits BinOp.and IntKind.u64 (IntKind.u64.wrap (IntKind.i64.wrap (x - eminI n)))
                  (IntKind.u64.wrap
                    (shlI IntKind.u64 (1 : Int) (IntKind.u64.wrap (IntKind.i64.wrap (sgI (widthI n) - (5 : Int)))) -
                      (1 : Int)))))).length ≤
          1000 ∧
        (0 : Int) ≤ stI (widthI n) ∧ stI (widthI n) ≤ (1000 : Int)))
                    (some [(.mine, .r .u64 4 (M.lay
      (M.lay (List.replicate 4 (0 : Int))
        (M.pk (M.bt (M.o2 (M.nat [w0, w1, w2, w3]) (M.pw (IntKind.i64.wrap ((3 : Int) * sdI' (precI n))))))
          (sdI' (precI n)))
        (0 : Int))
      ((List.replicate 1 (0 : Int)).set 0
        (bits BinOp.or IntKind.u64
          (shlI IntKind.u64
            (bits BinOp.or IntKind.u64
              (bits BinOp.or IntKind.u64 (24 : Int)
                (shlI IntKind.u64
                  (shrI IntKind.u64 (IntKind.u64.wrap (IntKind.i64.wrap (x - eminI n)))
                    (IntKind.u64.wrap (IntKind.i64.wrap (sgI (widthI n) - (5 : Int)))))
                  (1 : Int)))
              (bits BinOp.and IntKind.u64
                (IntKind.u64.wrap
                  (M.num (M.o1 (M.nat [w0, w1, w2, w3]) (M.pw (IntKind.i64.wrap ((3 : Int) * sdI' (precI n)))))))
                (1 : Int)))
            (IntKind.u64.wrap (IntKind.i64.wrap (sgI (widthI n) - (5 : Int)))))
          (bits BinOp.and IntKind.u64 (IntKind.u64.wrap (IntKind.i64.wrap (x - eminI n)))
            (IntKind.u64.wrap
              (shlI IntKind.u64 (1 : Int) (IntKind.u64.wrap (IntKind.i64.wrap (sgI (widthI n) - (5 : Int)))) -
                (1 : Int))))))
      (stI (widthI n)))), (.mine, .p (.int .i64 (0)))])
                    none))))
                (cond (decide (IntKind.u64.wrap (IntKind.i64.wrap (sgI (widthI n) - (5 : Int))) < (0 : Int)))
                 none
                 (cond (decide (IntKind.u64.wrap (IntKind.i64.wrap (sgI (widthI n) - (5 : Int))) < (0 : Int)))
                  none
                  (cond (decide
      (((List.replicate 1 (0 : Int)).set 0
              (bits BinOp.or IntKind.u64
                (shlI IntKind.u64
                  (bits BinOp.or IntKind.u64
                    (shlI IntKind.u64
                      (shrI IntKind.u64 (IntKind.u64.wrap (IntKind.i64.wrap (x - eminI n)))
                        (IntKind.u64.wrap (IntKind.i64.wrap (sgI (widthI n) - (5 : Int)))))
                      (3 : Int))
                    (IntKind.u64.wrap
                      (M.num (M.o1 (M.nat [w0, w1, w2, w3]) (M.pw (IntKind.i64.wrap ((3 : Int) * sdI' (precI n))))))))
                  (IntKind.u64.wrap (IntKind.i64.wrap (sgI (widthI n) - (5 : Int)))))
                (bits BinOp.and IntKind.u64 (IntKind.u64.wrap (IntKind.i64.wrap (x - eminI n)))
                  (IntKind.u64.wrap
                    (shlI IntKind.u64 (1 : Int) (IntKind.u64.wrap (IntKind.i64.wrap (sgI (widthI n) - (5 : Int)))) -
                      (1 : Int)))))).length ≤
          1000 ∧
        (0 : Int) ≤ stI (widthI n) ∧ stI (widthI n) ≤ (1000 : Int)))
                   (some [(.mine, .r .u64 4 (M.lay
      (M.lay (List.replicate 4 (0 : Int))
        (M.pk (M.bt (M.o2 (M.nat [w0, w1, w2, w3]) (M.pw (IntKind.i64.wrap ((3 : Int) * sdI' (precI n))))))
          (sdI' (precI n)))
        (0 : Int))
      ((List.replicate 1 (0 : Int)).set 0
        (bits BinOp.or IntKind.u64
          (shlI IntKind.u64
            (bits BinOp.or IntKind.u64
              (shlI IntKind.u64
                (shrI IntKind.u64 (IntKind.u64.wrap (IntKind.i64.wrap (x - eminI n)))
                  (IntKind.u64.wrap (IntKind.i64.wrap (sgI (widthI n) - (5 : Int)))))
                (3 : Int))
              (IntKind.u64.wrap
                (M.num (M.o1 (M.nat [w0, w1, w2, w3]) (M.pw (IntKind.i64.wrap ((3 : Int) * sdI' (precI n))))))))
            (IntKind.u64.wrap (IntKind.i64.wrap (sgI (widthI n) - (5 : Int)))))
          (bits BinOp.and IntKind.u64 (IntKind.u64.wrap (IntKind.i64.wrap (x - eminI n)))
            (IntKind.u64.wrap
              (shlI IntKind.u64 (1 : Int) (IntKind.u64.wrap (IntKind.i64.wrap (sgI (widthI n) - (5 : Int)))) -
                (1 : Int))))))
      (stI (widthI n)))), (.mine, .p (.int .i64 (0)))])
                   none)))))
              none)
             none)
            none)
           (cond (decide ((M.nat [w0, w1, w2, w3]).length ≤ 1000000 ∧ (0 : Int) ≤ stI (widthI n)))
            (cond (decide ((0 : Int) ≤ (0 : Int) ∧ (0 : Int) ≤ stI (widthI n) ∧ stI (widthI n) ≤ (256 : Int)))
             (cond (decide
      ((M.fld [w0, w1, w2, w3] (0 : Int) (stI (widthI n))).length ≤ 1000 ∧
        (0 : Int) ≤ (0 : Int) ∧ (0 : Int) ≤ (1000 : Int)))
              (cond (decide (IntKind.u64.wrap (M.num (M.rt (M.nat [w0, w1, w2, w3]) (stI (widthI n)))) ≥ (8 : Int)))
               (cond (decide (IntKind.u64.wrap (IntKind.u64.wrap (IntKind.i64.wrap (sgI (widthI n) - (5 : Int))) + (3 : Int)) < (0 : Int)))
                none
                (cond (decide
      (((List.replicate 1 (0 : Int)).set 0
              (bits BinOp.or IntKind.u64
                (bits BinOp.or IntKind.u64
                  (shlI IntKind.u64 (3 : Int)
                    (IntKind.u64.wrap (IntKind.u64.wrap (IntKind.i64.wrap (sgI (widthI n) - (5 : Int))) + (3 : Int))))
                  (shlI IntKind.u64 (IntKind.u64.wrap (IntKind.i64.wrap (x - eminI n))) (1 : Int)))
                (bits BinOp.and IntKind.u64 (IntKind.u64.wrap (M.num (M.rt (M.nat [w0, w1, w2, w3]) (stI (widthI n)))))
                  (1 : Int)))).length ≤
          1000 ∧
        (0 : Int) ≤ stI (widthI n) ∧ stI (widthI n) ≤ (1000 : Int)))
                 (some [(.mine, .r .u64 4 (M.lay (M.lay (List.replicate 4 (0 : Int)) (M.fld [w0, w1, w2, w3] (0 : Int) (stI (widthI n))) (0 : Int))
      ((List.replicate 1 (0 : Int)).set 0
        (bits BinOp.or IntKind.u64
          (bits BinOp.or IntKind.u64
            (shlI IntKind.u64 (3 : Int)
              (IntKind.u64.wrap (IntKind.u64.wrap (IntKind.i64.wrap (sgI (widthI n) - (5 : Int))) + (3 : Int))))
            (shlI IntKind.u64 (IntKind.u64.wrap (IntKind.i64.wrap (x - eminI n))) (1 : Int)))
          (bits BinOp.and IntKind.u64 (IntKind.u64.wrap (M.num (M.rt (M.nat [w0, w1, w2, w3]) (stI (widthI n)))))
            (1 : Int))))
      (stI (widthI n)))), (.mine, .p (.int .i64 (0)))])
                 none))
               (cond (decide
      (((List.replicate 1 (0 : Int)).set 0
              (bits BinOp.or IntKind.u64 (shlI IntKind.u64 (IntKind.u64.wrap (IntKind.i64.wrap (x - eminI n))) (3 : Int))
                (IntKind.u64.wrap (M.num (M.rt (M.nat [w0, w1, w2, w3]) (stI (widthI n))))))).length ≤
          1000 ∧
        (0 : Int) ≤ stI (widthI n) ∧ stI (widthI n) ≤ (1000 : Int)))
                (some [(.mine, .r .u64 4 (M.lay (M.lay (List.replicate 4 (0 : Int)) (M.fld [w0, w1, w2, w3] (0 : Int) (stI (widthI n))) (0 : Int))
      ((List.replicate 1 (0 : Int)).set 0
        (bits BinOp.or IntKind.u64 (shlI IntKind.u64 (IntKind.u64.wrap (IntKind.i64.wrap (x - eminI n))) (3 : Int))
          (IntKind.u64.wrap (M.num (M.rt (M.nat [w0, w1, w2, w3]) (stI (widthI n)))))))
      (stI (widthI n)))), (.mine, .p (.int .i64 (0)))])
                none))
              none)
             none)
            none)))))) none)
      none)) := by kernel_rfl
end
end Go.Proofs.Ytcglfmldodhakaa.Vm

namespace Go.Proofs.Ytcglfmldodhakaa.Vm
open Go Go.Vm
noncomputable section
set_option linter.unusedVariables false
def pkM : PkF where
  lay := fun b a p => wordsN 4 (val b + val a * 2 ^ p.toNat)
  nat := fun b => words (val b)
  pk := fun b n => wordsN 4 (cond (decide (0 ≤ n ∧ n ≤ 11)) (cond (decide (val b < 1000 ^ n.toNat)) (pkD n.toNat (val b)) 0) 0)
  pke := fun b n => cond (decide (0 ≤ n ∧ n ≤ 11)) (cond (decide (val b < 1000 ^ n.toNat)) 0 3) 1
  pw := fun n => words (10 ^ n.toNat)
  o1 := fun xs ys => words (val xs / val ys)
  o2 := fun xs ys => words (val xs % val ys)
  bt := fun xs => wordsN 4 (val xs)
  num := fun xs => IntKind.i64.wrap ((val xs % 18446744073709551616 : Nat) : Int)
  rt := fun xs n => words (val xs / 2 ^ n.toNat)
  rtb := fun xs n => decide (val xs % 2 ^ n.toNat ≠ 0)
  fld := fun b p n => words (val b / 2 ^ p.toNat % 2 ^ n.toNat)
  isd := fun p emin emax pay c q x f => cond (c == 1) (!q && decide (val f < 10 ^ p.toNat) && decide (x ≥ emin) && decide (x ≤ emax)) (cond (c == 2) (!q && decide (f = [0, 0, 0, 0]) && (x == 0)) (cond (c == 3) ((x == 0) && decide (val f < 10 ^ pay.toNat)) false))
theorem layK_fn : FnOK Try.prog 80 (layK pkM) := fnOK_cutE rLay_fn fun ds κ r h => by
  unfold layK at h
  split at h
  case h_2 => cases h
  exact h
theorem natK_fn : FnOK Try.prog 16 (natK pkM) := fnOK_cutE rNatN_fn fun ds κ r h => by
  unfold natK at h
  split at h
  case h_2 => cases h
  exact h
theorem pkK_fn : FnOK Try.prog 81 (pkK pkM) := fnOK_cutE rpack_fn fun ds κ r h => by
  unfold pkK at h
  split at h
  case h_2 => cases h
  rename_i b n
  show cond _ (cond _ _ _) _ = some r
  unfold two13
  simp only [pkM] at h
  cases h1 : decide (0 ≤ n ∧ n ≤ 11) <;> rw [h1] at h
  · exact h
  · cases h2 : decide (val b < 1000 ^ n.toNat) <;> rw [h2] at h
    · exact h
    · exact h
theorem pwK_fn : FnOK Try.prog 71 (pwK pkM) := fnOK_cutE pow_fn fun ds κ r h => by
  unfold pwK at h
  split at h
  case h_2 => cases h
  rename_i a n
  replace h := cond_none h
  obtain ⟨hc, h⟩ := h
  rw [Bool.and_eq_true] at hc
  obtain rfl := beq_iff_eq.1 hc.1
  show cond _ _ _ = some r
  rw [hc.2]
  exact h
theorem ovK_fn : FnOK Try.prog 19 (ovK pkM) := fnOK_cutE over_fn fun ds κ r h => by
  unfold ovK at h
  split at h
  case h_2 => cases h
  exact h
theorem btK_fn : FnOK Try.prog 21 (btK pkM) := fnOK_cutE rBits_fn fun ds κ r h => by
  unfold btK at h
  split at h
  case h_2 => cases h
  exact h
theorem numK_fn : FnOK Try.prog 76 (numK pkM) := fnOK_cutE rNumber_fn fun ds κ r h => by
  unfold numK at h
  split at h
  case h_2 => cases h
  exact h
theorem rtK_fn : FnOK Try.prog 53 (rtK pkM) := fnOK_cutE right_fn fun ds κ r h => by
  unfold rtK at h
  split at h
  case h_2 => cases h
  replace h := cond_none h
  obtain ⟨hc, h⟩ := h
  have hc := of_decide_eq_true hc
  show cond _ _ _ = some r
  rw [decide_eq_true (by omega)]
  exact h
theorem fldK_fn : FnOK Try.prog 77 (fldK pkM) := fnOK_cutE rField_fn fun ds κ r h => by
  unfold fldK at h
  split at h
  case h_2 => cases h
  exact h
theorem isK_fn : FnOK Try.prog 79 (isK pkM) := fnOK_cutE is14_fn fun ds κ r h => by
  unfold isK at h
  split at h
  case h_2 => cases h
  exact h
theorem infoG_fn : FnOK Try.prog 14 infoGC := fnOK_cutE rIn_fn fun ds κ r h => by
  unfold infoGC at h
  split at h
  case h_2 => cases h
  rename_i n
  replace h := cond_none h
  obtain ⟨hc, h⟩ := h
  have hc := of_decide_eq_true hc
  show cond _ _ _ = some r
  rw [decide_eq_true (by omega)]
  exact h
/-- That ref14.Pack answers. -/
def ans2 (r : R) : Prop := ∃ c e, r = some [(.mine, .r .u64 4 c), (.mine, .p (.int .i64 e))]
theorem ans2_leaf (c : List Int) (e : Int) : ans2 (some [(.mine, .r .u64 4 c), (.mine, .p (.int .i64 e))]) := ⟨c, e, rfl⟩
theorem ans2_cond {z : Bool} {a b : R} (ha : ans2 a) (hb : ans2 b) : ans2 (cond z a b) := by cases z; exact hb; exact ha
theorem ans2_guard {z : Bool} {a : R} (hz : z = true) (ha : ans2 a) : ans2 (cond z a none) := by rw [hz]; exact ha
theorem ans2_guard' {z : Bool} {a : R} (hz : z = false) (ha : ans2 a) : ans2 (cond z none a) := by rw [hz]; exact ha
theorem pack14_ansM (M : PkF) {n : Int} (h7 : 7 ≤ n ∧ n ≤ 12) (c x w0 w1 w2 w3 : Int) (s q : Bool)
    (hpk : ∀ b k, (M.pk b k).length = 4) (hnat : (M.nat [w0, w1, w2, w3]).length ≤ 1000) (hpw : ∀ k, k ≤ 100 → (M.pw k).length ≤ 1000000 ∧ 0 < val (M.pw k)) (hfld : ∀ b k, k ≤ 256 → (M.fld b 0 k).length ≤ 1000) :
    ans2 (evFn (pkE M) Try.f45 [.p (.int .i64 n), .g [.int .i64 c, .bool s, .bool q, .int .i64 x, .int .u64 w0, .int .u64 w1, .int .u64 w2, .int .u64 w3]]) := by
  obtain ⟨w, t, dd, g1, g2, g3, g4, g5, g6, g7, g8, g9, g10, g11⟩ := shp h7
  obtain ⟨f1, f2, f3, f4, f5, f6, f7, f8, f9⟩ := fmt10 h7
  have e1 : IntKind.i64.wrap (stI (widthI n) + sgI (widthI n)) = ((t + w + 5 : Nat) : Int) := by
    rw [g1, g2, i64_wrap (by omega) (by omega)]
    omega
  have e2 : IntKind.i64.wrap (IntKind.i64.wrap (stI (widthI n) + sgI (widthI n)) - 5) = ((t + w : Nat) : Int) := by rw [e1, i64_wrap (by omega) (by omega)]; omega
  have e3 : IntKind.i64.wrap (IntKind.i64.wrap (stI (widthI n) + sgI (widthI n)) - 6) = ((t + w - 1 : Nat) : Int) := by rw [e1, i64_wrap (by omega) (by omega)]; omega
  have e4 : IntKind.i64.wrap (3 * sdI' (precI n)) = ((3 * dd : Nat) : Int) := by rw [g3, i64_wrap (by omega) (by omega)]; omega
  have e5 : IntKind.u64.wrap (IntKind.i64.wrap (sgI (widthI n) - 5)) = (w : Int) := by rw [g1, i64_wrap (by omega) (by omega), u64_wrap (by omega) (by omega)]; omega
  have e6 : IntKind.u64.wrap (IntKind.u64.wrap (IntKind.i64.wrap (sgI (widthI n) - 5)) + 3) = ((w + 3 : Nat) : Int) := by rw [e5, u64_wrap (by omega) (by omega)]; rfl
  have a0 : (!decide ((7 : Int) ≤ n ∧ n ≤ (12 : Int))) = false := by rw [decide_eq_true h7]; rfl
  have a0' : decide ((7 : Int) ≤ n ∧ n ≤ (12 : Int)) = true := decide_eq_true h7
  have ai : decide (0 ≤ precI n ∧ precI n ≤ 100000 ∧ 0 ≤ payI n ∧ payI n ≤ 100000) = true := decide_eq_true (by omega)
  have a1 : decide (1 ≤ 1000 ∧ (0 : Int) ≤ IntKind.i64.wrap (stI (widthI n) + sgI (widthI n)) ∧ IntKind.i64.wrap (stI (widthI n) + sgI (widthI n)) ≤ (1000 : Int)) = true := decide_eq_true (by rw [e1]; omega)
  have a2 : decide (1 ≤ 1000 ∧ (0 : Int) ≤ IntKind.i64.wrap (IntKind.i64.wrap (stI (widthI n) + sgI (widthI n)) - (5 : Int)) ∧ IntKind.i64.wrap (IntKind.i64.wrap (stI (widthI n) + sgI (widthI n)) - (5 : Int)) ≤ (1000 : Int)) = true := decide_eq_true (by rw [e2]; omega)
  have a3 : decide (1 ≤ 1000 ∧ (0 : Int) ≤ IntKind.i64.wrap (IntKind.i64.wrap (stI (widthI n) + sgI (widthI n)) - (6 : Int)) ∧ IntKind.i64.wrap (IntKind.i64.wrap (stI (widthI n) + sgI (widthI n)) - (6 : Int)) ≤ (1000 : Int)) = true := decide_eq_true (by rw [e3]; omega)
  have a4 : ∀ b k, decide ((M.pk b k).length ≤ 1000 ∧ (0 : Int) ≤ (0 : Int) ∧ (0 : Int) ≤ (1000 : Int)) = true := fun b k => decide_eq_true ⟨by rw [hpk]; decide, by decide, by decide⟩
  have a5 : decide ((M.nat [w0, w1, w2, w3]).length ≤ 1000 ∧ (0 : Int) ≤ (0 : Int) ∧ (0 : Int) ≤ (1000 : Int)) = true := decide_eq_true ⟨hnat, by decide, by decide⟩
  have a6 : ((10 : Int) == (10 : Int) && decide ((0 : Int) ≤ IntKind.i64.wrap ((3 : Int) * sdI' (precI n)) ∧ IntKind.i64.wrap ((3 : Int) * sdI' (precI n)) ≤ (100000 : Int))) = true := by
    rw [Bool.and_eq_true]
    exact ⟨rfl, decide_eq_true (by rw [e4]; omega)⟩
  obtain ⟨p1, p2⟩ := hpw (IntKind.i64.wrap (3 * sdI' (precI n))) (by rw [e4]; omega)
  have a7 : decide ((M.nat [w0, w1, w2, w3]).length ≤ 1000000 ∧ (M.pw (IntKind.i64.wrap ((3 : Int) * sdI' (precI n)))).length ≤ 1000000 ∧ 0 < val (M.pw (IntKind.i64.wrap ((3 : Int) * sdI' (precI n))))) = true := decide_eq_true ⟨by omega, p1, p2⟩
  have a9 : decide (IntKind.u64.wrap (IntKind.i64.wrap (sgI (widthI n) - (5 : Int))) < (0 : Int)) = false := decide_eq_false (by rw [e5]; omega)
  have a10 : ∀ v : Int, decide (((List.replicate 1 (0 : Int)).set 0 v).length ≤ 1000 ∧ (0 : Int) ≤ stI (widthI n) ∧ stI (widthI n) ≤ (1000 : Int)) = true := fun v => decide_eq_true ⟨by rw [List.length_set]; decide, by omega, by omega⟩
  have a11 : decide ((M.nat [w0, w1, w2, w3]).length ≤ 1000000 ∧ (0 : Int) ≤ stI (widthI n)) = true := decide_eq_true ⟨by omega, by omega⟩
  have a12 : decide ((0 : Int) ≤ (0 : Int) ∧ (0 : Int) ≤ stI (widthI n) ∧ stI (widthI n) ≤ (256 : Int)) = true := decide_eq_true (by omega)
  have a13 : decide ((M.fld [w0, w1, w2, w3] (0 : Int) (stI (widthI n))).length ≤ 1000 ∧ (0 : Int) ≤ (0 : Int) ∧ (0 : Int) ≤ (1000 : Int)) = true := decide_eq_true ⟨hfld _ _ (by omega), by decide, by decide⟩
  have a14 : decide (IntKind.u64.wrap (IntKind.u64.wrap (IntKind.i64.wrap (sgI (widthI n) - (5 : Int))) + (3 : Int)) < (0 : Int)) = false := decide_eq_false (by rw [e6]; omega)
  rw [rPack14_ev]
  clear e1 e2 e3 e4 e5 e6 g1 g2 g3 g4 g5 g6 g7 g8 g9 g10 g11 f1 f2 f3 f4 f5 f6 f7 f8 f9 p1 p2 hpk hnat hpw hfld
  repeat' with_reducible first
    | exact ans2_leaf _ _
    | refine ans2_guard' a0 ?_
    | refine ans2_guard a0' ?_
    | refine ans2_guard ai ?_
    | refine ans2_guard a1 ?_
    | refine ans2_guard a2 ?_
    | refine ans2_guard a3 ?_
    | refine ans2_guard (a4 _ _) ?_
    | refine ans2_guard a5 ?_
    | refine ans2_guard a6 ?_
    | refine ans2_guard a7 ?_
    | refine ans2_guard' a9 ?_
    | refine ans2_guard (a10 _) ?_
    | refine ans2_guard a11 ?_
    | refine ans2_guard a12 ?_
    | refine ans2_guard a13 ?_
    | refine ans2_guard' a14 ?_
    | refine ans2_cond ?_ ?_
theorem pack14_ans {n : Int} (h7 : 7 ≤ n ∧ n ≤ 12) (c x w0 w1 w2 w3 : Int) (s q : Bool) (hw : inR .u64 [w0, w1, w2, w3]) :
    ans2 (evFn (pkE pkM) Try.f45 [.p (.int .i64 n), .g [.int .i64 c, .bool s, .bool q, .int .i64 x, .int .u64 w0, .int .u64 w1, .int .u64 w2, .int .u64 w3]]) := by
  refine pack14_ansM pkM h7 c x w0 w1 w2 w3 s q (fun b k => length_wordsN _ _) ?_ (fun k hk => ?_) (fun b k hk => ?_)
  · show (words (val [w0, w1, w2, w3])).length ≤ 1000
    rw [length_words]
    have := wlen_val hw
    have : [w0, w1, w2, w3].length = 4 := rfl
    omega
  · show (words (10 ^ k.toNat)).length ≤ 1000000 ∧ 0 < val (words (10 ^ k.toNat))
    rw [length_words, val_words]
    have := pow10_wl k.toNat
    exact ⟨by omega, Nat.pow_pos (by decide)⟩
  · show (words (val b / 2 ^ (0 : Int).toNat % 2 ^ k.toNat)).length ≤ 1000
    rw [length_words]
    have h1 := wlen_two_pow k.toNat
    have h2 : wlen (val b / 2 ^ (0 : Int).toNat % 2 ^ k.toNat) ≤ wlen (2 ^ k.toNat) := wlen_mono (Nat.le_of_lt (Nat.mod_lt _ (Nat.two_pow_pos _)))
    omega
def pk14 (n : Int) (D : List Value) : List Int × Int := match evFn (pkE pkM) Try.f45 [.p (.int .i64 n), .g D] with
  | some [(_, .r _ _ c), (_, .p (.int _ e))] => (c, e)
  | _ => ([], 0)
def pk14C : FnC := fun ds κ => match ds with
  | [.p (.int .i64 n), .g [.int .i64 c, .bool s, .bool q, .int .i64 x, .int .u64 w0, .int .u64 w1, .int .u64 w2, .int .u64 w3]] => cond (decide (7 ≤ n ∧ n ≤ 12))
      (κ [(.mine, .r .u64 4 (pk14 n [.int .i64 c, .bool s, .bool q, .int .i64 x, .int .u64 w0, .int .u64 w1, .int .u64 w2, .int .u64 w3]).1), (.mine, .p (.int .i64 (pk14 n [.int .i64 c, .bool s, .bool q, .int .i64 x, .int .u64 w0, .int .u64 w1, .int .u64 w2, .int .u64 w3]).2))]) none
  | _ => none
theorem pk14_eq {n : Int} {D : List Value} {c' : List Int} {e' : Int} (he : evFn (pkE pkM) Try.f45 [.p (.int .i64 n), .g D] = some [(.mine, .r .u64 4 c'), (.mine, .p (.int .i64 e'))]) : pk14 n D = (c', e') := by
  unfold pk14
  rw [he]
theorem pk14_he : ∀ ds κ r, (∀ d ∈ ds, d.wf) → pk14C ds κ = some r → ∃ res, κ res = some r ∧ evFn (pkE pkM) Try.f45 ds = some res := fun ds κ r hw h => by
  unfold pk14C at h
  split at h
  case h_2 => cases h
  rename_i n c s q x w0 w1 w2 w3
  replace h := cond_none h
  obtain ⟨hc, h⟩ := h
  have hg : wfL [.int .i64 c, .bool s, .bool q, .int .i64 x, .int .u64 w0, .int .u64 w1, .int .u64 w2, .int .u64 w3] := hw (.g [.int .i64 c, .bool s, .bool q, .int .i64 x, .int .u64 w0, .int .u64 w1, .int .u64 w2, .int .u64 w3]) (by simp)
  have hr : inR .u64 [w0, w1, w2, w3] := by
    intro y hy
    refine hg (.int .u64 y) ?_
    rcases List.mem_cons.1 hy with rfl | hy
    · simp
    rcases List.mem_cons.1 hy with rfl | hy
    · simp
    rcases List.mem_cons.1 hy with rfl | hy
    · simp
    rcases List.mem_cons.1 hy with rfl | hy
    · simp
    cases hy
  obtain ⟨c', e', he⟩ := pack14_ans (of_decide_eq_true hc) c x w0 w1 w2 w3 s q hr
  refine ⟨_, h, ?_⟩
  rw [he, pk14_eq he]
theorem pk14_fn : FnOK Try.prog 45 pk14C := fnOK_mk T mixed Try.func45 (by kernel_rfl) (fns := [(22, rDecimC), (14, infoGC), (79, isK pkM), (75, shape14C), (80, layK pkM), (16, natK pkM), (81, pkK pkM), (71, pwK pkM), (19, ovK pkM), (21, btK pkM), (76, numK pkM), (53, rtK pkM), (77, fldK pkM)]) (lps := []) (live := []) (out := []) (fuel := 0) (give := (fun _ => false)) ⟨rDecim_fn, infoG_fn, isK_fn, shape14_fn, layK_fn, natK_fn, pkK_fn, pwK_fn, ovK_fn, btK_fn, numK_fn, rtK_fn, fldK_fn, trivial⟩ trivial pk14_he
/-! ### Unpack -/
abbrev UnT := (Int × Bool × Bool × Int × Nat) × Bool × Int
def unD (U : UnT) : List Value := datumCells U.1.1 U.1.2.1 U.1.2.2.1 U.1.2.2.2.1 (wordsN 4 U.1.2.2.2.2)
def un (n : Int) (b : List Int) : UnT :=
  cond (decide (7 ≤ n ∧ n ≤ 12)) (cond (decide (((bitlen (val b) : Nat) : Int) ≤ widthI n)) (mn14 n b, decide ((pk14 n (datumCells (mn14 n b).1 (mn14 n b).2.1 (mn14 n b).2.2.1 (mn14 n b).2.2.2.1 (wordsN 4 (mn14 n b).2.2.2.2))).1 = b), 0) ((0, false, false, 0, 0), false, 1)) ((0, false, false, 0, 0), false, 1)
theorem un_ok (n : Int) (b : List Int) : (un n b).2.2 = 0 → (un n b).1.1 = 1 → (7 ≤ n ∧ n ≤ 12) ∧ (un n b).1.2.2.1 = false ∧ (eminI n ≤ (un n b).1.2.2.2.1 ∧ (un n b).1.2.2.2.1 ≤ emaxI n) ∧ (un n b).1.2.2.2.2 < 10 ^ pN n := by
  unfold un
  by_cases h7 : 7 ≤ n ∧ n ≤ 12
  · rw [decide_eq_true h7, cond_true]
    cases decide (((bitlen (val b) : Nat) : Int) ≤ widthI n)
    · intro h
      exact absurd h (by show (1 : Int) ≠ 0; decide)
    · intro _ h1
      exact ⟨h7, mn14_fin h1⟩
  · rw [decide_eq_false h7, cond_false]
    intro h
    exact absurd h (by show (1 : Int) ≠ 0; decide)
def un14C : FnC := fun ds κ => match ds with
  | [.p (.int .i64 n), .r .u64 4 b] => κ [(.mine, .g (unD (un n b))), (.mine, .p (.bool (un n b).2.1)), (.mine, .p (.int .i64 (un n b).2.2))]
  | _ => none
def un14E : Env := mkE ty [(43, good14C), (44, mean14C), (45, pk14C)] [] [] [] 0 (fun _ => false)
theorem un14_ev (n : Int) (b : List Int) : evFn un14E Try.f13 [.p (.int .i64 n), .r .u64 4 b] =
    cond (decide (7 ≤ n ∧ n ≤ 12)) (cond (!decide (((bitlen (val b) : Nat) : Int) ≤ widthI n)) (some [(.mine, .g zeroDatum), (.mine, .p (.bool false)), (.mine, .p (.int .i64 1))])
      (cond (decide (7 ≤ n ∧ n ≤ 12)) (cond (decide (7 ≤ n ∧ n ≤ 12))
        (some [(.mine, .g (datumCells (mn14 n b).1 (mn14 n b).2.1 (mn14 n b).2.2.1 (mn14 n b).2.2.2.1 (wordsN 4 (mn14 n b).2.2.2.2))), (.mine, .p (.bool (decide ((pk14 n (datumCells (mn14 n b).1 (mn14 n b).2.1 (mn14 n b).2.2.1 (mn14 n b).2.2.2.1 (wordsN 4 (mn14 n b).2.2.2.2))).1 = b)))), (.mine, .p (.int .i64 0))]) none) none))
      (some [(.mine, .g zeroDatum), (.mine, .p (.bool false)), (.mine, .p (.int .i64 1))]) := by kernel_rfl
theorem zeroF_eq : zeroDatum = datumCells 0 false false 0 (wordsN 4 0) := by
  rw [zeroW4]
  rfl
theorem un14_he : ∀ ds κ r, (∀ d ∈ ds, d.wf) → un14C ds κ = some r → ∃ res, κ res = some r ∧ evFn un14E Try.f13 ds = some res := fun ds κ r hw h => by
  unfold un14C at h
  split at h
  case h_2 => cases h
  rename_i n b
  refine ⟨_, h, ?_⟩
  rw [un14_ev]
  unfold un unD
  by_cases h7 : 7 ≤ n ∧ n ≤ 12
  · rw [decide_eq_true h7, cond_true, cond_true, cond_true, cond_true]
    cases decide (((bitlen (val b) : Nat) : Int) ≤ widthI n)
    · rw [zeroF_eq]
      rfl
    · rfl
  · rw [decide_eq_false h7, cond_false, cond_false, zeroF_eq]
theorem un14_fn : FnOK Try.prog 13 un14C := fnOK_mk T mixed Try.func13 (by kernel_rfl) (fns := [(43, good14C), (44, mean14C), (45, pk14C)]) (lps := []) (live := []) (out := []) (fuel := 0) (give := (fun _ => false)) ⟨good14_fn, mean14_fn, pk14_fn, trivial⟩ trivial un14_he
end
end Go.Proofs.Ytcglfmldodhakaa.Vm

namespace Go.Proofs.Ytcglfmldodhakaa.Vm
open Go Go.Vm
noncomputable section
set_option linter.unusedVariables false
/-! ### Keep -/
abbrev KpT := (Int × Bool × Int × Nat) × Int × Int
def kp (n d : Int) (s : Bool) (xs : List Int) (e : Int) : KpT :=
  cond (decide ((7 ≤ n ∧ n ≤ 12) ∧ (0 ≤ d ∧ d ≤ 4))) (cond (decide (wlen (val xs) > 400)) ((0, false, 0, 0), 0, 4) (((drn n d s (val xs) 1 e e).1, s, (drn n d s (val xs) 1 e e).2.1, (drn n d s (val xs) 1 e e).2.2.1), (drn n d s (val xs) 1 e e).2.2.2, 0)) ((0, false, 0, 0), 0, 1)
def kpD (t : KpT) : List Value := datumCells t.1.1 t.1.2.1 false t.1.2.2.1 (wordsN 4 t.1.2.2.2)
def keepC : FnC := fun ds κ => match ds with
  | [.p (.int .i64 n), .p (.int .i64 d), .p (.bool s), .w .u64 xs, .p (.int .i64 e)] => cond (decide (xs.length ≤ 1000000)) (κ [(.mine, .g (kpD (kp n d s xs e))), (.mine, .p (.int .i64 (kp n d s xs e).2.1)), (.mine, .p (.int .i64 (kp n d s xs e).2.2))]) none
  | _ => none
def kpR (n d : Int) (s : Bool) (xs one : List Int) (e : Int) : R :=
  cond (decide (xs.length ≤ 1000000 ∧ one.length ≤ 1000000)) (cond (decide ((7 ≤ n ∧ n ≤ 12) ∧ (0 ≤ d ∧ d ≤ 4) ∧ 0 < val one)) (cond (decide (wlen (val xs) > 400 ∨ wlen (val one) > 400)) (badD 4) (drnR s (drn n d s (val xs) (val one) e e))) (badD 1)) none
theorem zeroD_eq : zeroDatum = datumCells 0 false false 0 (wordsN 4 0) := by
  rw [zeroW4]
  rfl
theorem kpR_eq {n d e : Int} {s : Bool} {xs one : List Int} (h1 : val one = 1) (h2 : one.length ≤ 1000000) (hl : xs.length ≤ 1000000) : kpR n d s xs one e = some [(.mine, .g (kpD (kp n d s xs e))), (.mine, .p (.int .i64 (kp n d s xs e).2.1)), (.mine, .p (.int .i64 (kp n d s xs e).2.2))] := by
  have w1 : wlen 1 = 1 := by decide
  unfold kpR kp
  rw [h1, decide_eq_true ⟨hl, h2⟩, cond_true]
  by_cases hg : (7 ≤ n ∧ n ≤ 12) ∧ (0 ≤ d ∧ d ≤ 4)
  · rw [decide_eq_true (show (7 ≤ n ∧ n ≤ 12) ∧ (0 ≤ d ∧ d ≤ 4) ∧ 0 < 1 from ⟨hg.1, hg.2, by decide⟩), decide_eq_true hg, cond_true, cond_true]
    by_cases hw : wlen (val xs) > 400
    · rw [decide_eq_true (.inl hw), decide_eq_true hw, cond_true, cond_true]
      unfold badD kpD
      rw [zeroD_eq]
    · rw [decide_eq_false (by omega), decide_eq_false hw, cond_false, cond_false]
      rfl
  · rw [decide_eq_false (fun h => hg ⟨h.1, h.2.1⟩), decide_eq_false hg, cond_false, cond_false]
    unfold badD kpD
    rw [zeroD_eq]
def keepE : Env := mkE ty [(32, nOfC), (10, decC)] [] [] [] 0 (fun _ => false)
theorem keep_ev (n d e : Int) (s : Bool) (xs : List Int) : evFn keepE Try.f26 [.p (.int .i64 n), .p (.int .i64 d), .p (.bool s), .w .u64 xs, .p (.int .i64 e)] = kpR n d s xs (words (1 : Int).toNat) e := by kernel_rfl
theorem keep_he : ∀ ds κ r, (∀ d ∈ ds, d.wf) → keepC ds κ = some r → ∃ res, κ res = some r ∧ evFn keepE Try.f26 ds = some res := fun ds κ r hw h => by
  unfold keepC at h
  split at h
  case h_2 => cases h
  rename_i n d s xs e
  replace h := cond_none h
  obtain ⟨hc, h⟩ := h
  exact ⟨_, h, (keep_ev n d e s xs).trans (kpR_eq (val_words 1) (by decide) (of_decide_eq_true hc))⟩
theorem keep_fn : FnOK Try.prog 26 keepC := fnOK_mk T mixed Try.func26 (by kernel_rfl) (fns := [(32, nOfC), (10, decC)]) (lps := []) (live := []) (out := []) (fuel := 0) (give := (fun _ => false)) ⟨nOf_fn, dec_fn, trivial⟩ trivial keep_he
def rkeepE : Env := mkE ty [(11, rdecC)] [] [] [] 0 (fun _ => false)
theorem rkeep_ev (n d e : Int) (s : Bool) (xs : List Int) : evFn rkeepE Try.f27 [.p (.int .i64 n), .p (.int .i64 d), .p (.bool s), .w .u64 xs, .p (.int .i64 e)] = kpR n d s xs [1] e := by kernel_rfl
theorem rkeep_he : ∀ ds κ r, (∀ d ∈ ds, d.wf) → keepC ds κ = some r → ∃ res, κ res = some r ∧ evFn rkeepE Try.f27 ds = some res := fun ds κ r hw h => by
  unfold keepC at h
  split at h
  case h_2 => cases h
  rename_i n d s xs e
  replace h := cond_none h
  obtain ⟨hc, h⟩ := h
  exact ⟨_, h, (rkeep_ev n d e s xs).trans (kpR_eq rfl (by decide) (of_decide_eq_true hc))⟩
theorem rkeep_fn : FnOK Try.prog 27 keepC := fnOK_mk T mixed Try.func27 (by kernel_rfl) (fns := [(11, rdecC)]) (lps := []) (live := []) (out := []) (fuel := 0) (give := (fun _ => false)) ⟨rdec_fn, trivial⟩ trivial rkeep_he
abbrev rkeepC := keepC
/-! ### DecroundKeeps -/
def keeps15E : Env := mkE ty [(9, awake15C), (26, keepC), (27, rkeepC), (13, un14C), (12, rDirC)] [] [] [] 0 (fun _ => false)
def fourI (f : List Int) : List Int := [f.getD 0 0, f.getD 1 0, f.getD 2 0, f.getD 3 0]
def kpL (U : UnT) (n d : Int) : R :=
  cond (U.2.2 != 0) (rb true) (cond (U.1.1 != 1) (rb true) (cond (!decide (0 ≤ d ∧ d ≤ 4)) (rb true)
    (cond (decide ((fourI (wordsN 4 U.1.2.2.2.2)).length ≤ 1000000))
      (cond ((kp n d U.1.2.1 (fourI (wordsN 4 U.1.2.2.2.2)) U.1.2.2.2.1).2.2 == 0) (cond (eqD (kpD (kp n d U.1.2.1 (fourI (wordsN 4 U.1.2.2.2.2)) U.1.2.2.2.1)) (unD U)) (rb ((kp n d U.1.2.1 (fourI (wordsN 4 U.1.2.2.2.2)) U.1.2.2.2.1).2.1 == 0)) (rb false)) (rb false)) none)))
theorem keeps15_ev (n d e : Int) (b xs : List Int) : evFn keeps15E Try.f8 [.p (.int .i64 n), .p (.int .i64 d), .r .u64 4 b, .w .u64 xs, .p (.int .i64 e)] =
    cond (decide ((xs.length : Int) > 500)) (rb true) (cond (decide (xs.length ≤ 1000000)) (cond (decide (xs.length ≤ 1000000))
      (cond (!eqD (kpD (kp n d false xs e)) (kpD (kp n d false xs e))) (rb false) (cond ((kp n d false xs e).2.1 != (kp n d false xs e).2.1) (rb false) (cond ((kp n d false xs e).2.2 != (kp n d false xs e).2.2) (rb false)
        (kpL (un n b) n d)))) none) none) := by kernel_rfl
theorem keeps15_true {v : World} {vs : List Value} (n d : Int) (b xs : List Int) (e : Int) (hds : all2 (DR v) [.p (.int .i64 n), .p (.int .i64 d), .r .u64 4 b, .w .u64 xs, .p (.int .i64 e)] vs) :
    evFn keeps15E Try.f8 [.p (.int .i64 n), .p (.int .i64 d), .r .u64 4 b, .w .u64 xs, .p (.int .i64 e)] = some [(.mine, .p (.bool true))] := by
  rw [keeps15_ev]
  by_cases lx : (xs.length : Int) > 500
  · rw [decide_eq_true lx]
    rfl
  rw [decide_eq_false lx, cond_false, decide_eq_true (by omega), cond_true, cond_true, show eqD (kpD (kp n d false xs e)) (kpD (kp n d false xs e)) = true from eqD_refl _ _ _ _ _, Bool.not_true, cond_false, bne_self_eq_false, cond_false, bne_self_eq_false, cond_false]
  have hu := un_ok n b
  generalize un n b = U at *
  obtain ⟨⟨C, s, q, X, F⟩, can, g⟩ := U
  unfold kpL
  dsimp only at *
  cases hg : (g != 0)
  case true => rfl
  cases hc : (C != 1)
  case true => rfl
  rw [cond_false, cond_false]
  by_cases hd : 0 ≤ d ∧ d ≤ 4
  case neg =>
    rw [decide_eq_false hd]
    rfl
  obtain ⟨h7, rfl, hX, hF⟩ := hu (by simpa using hg) (by simpa using hc)
  have hC : C = 1 := by simpa using hc
  subst hC
  have hF' : F < 2 ^ 256 := by
    obtain ⟨f1, f2, f3, f4, f5, f6, f7, f8, f9⟩ := fmt10 h7
    have h1 : 10 ^ pN n ≤ 2 ^ (4 * pN n) := by rw [Nat.pow_mul]; exact Nat.pow_le_pow_left (by decide) _
    have h2 : 2 ^ (4 * pN n) ≤ 2 ^ 256 := Nat.pow_le_pow_right (by decide) (by omega)
    omega
  have h4 : fourI (wordsN 4 F) = wordsN 4 F := (len4 (length_wordsN 4 F)).symm
  have hw : ¬ wlen F > 400 := by
    have : wlen F ≤ 4 := by rw [wlen_le, pow4]; exact hF'
    omega
  have hk : kp n d s (wordsN 4 F) X = ((1, s, X, F), 0, 0) := by
    unfold kp
    rw [decide_eq_true ⟨h7, hd⟩, cond_true, lo4 hF', decide_eq_false hw, cond_false, drn_keeps h7 hX hF]
  rw [decide_eq_true hd, Bool.not_true, cond_false, h4, length_wordsN, decide_eq_true (by decide), cond_true, hk]
  show cond ((0 : Int) == 0) (cond (eqD (datumCells 1 s false X (wordsN 4 F)) (datumCells 1 s false X (wordsN 4 F))) (rb ((0 : Int) == 0)) (rb false)) (rb false) = _
  rw [eqD_refl]
  rfl
theorem keeps15_call {w : World} {ds : List D} {vs : List Value} {res : List (Own × D)} (hds : all2 (DR w) ds vs) (he : evFn keeps15E Try.f8 ds = some res) : CallTo Try.prog 8 w vs res := call_mk T mixed Try.func8 (by kernel_rfl) (fns := [(9, awake15C), (26, keepC), (27, rkeepC), (13, un14C), (12, rDirC)]) (lps := []) (live := []) (out := []) (fuel := 0) (give := (fun _ => false)) ⟨awake15_fn, keep_fn, rkeep_fn, un14_fn, rDir_fn, trivial⟩ trivial hds he
/-! ### DecroundMembers -/
def memb15E : Env := mkE ty [(9, awake15C), (12, rDirC), (13, un14C), (14, rInC), (10, decGC), (16, rNatNC), (15, rScl10C), (18, timesC), (17, sameC), (19, overC), (21, rBitsC), (20, belowFC)] [] [] [] 0 (fun k => k == softId)
def mbR17 (n w X' : Int) (G : List Int) : R :=
  cond (decide (w < X')) (cond (decide (X' > eminI n)) (cond (decide ((words (val G)).length ≤ 274877906944 ∧ [(10 : Int)].length ≤ 274877906944))
      (cond (decide (0 ≤ (10 : Int) ∧ (10 : Int) ≤ 1000 ∧ 0 ≤ precI n ∧ precI n ≤ 100000)) (rb (!decide (val (wordsN 4 (val (words (val (words (val G)) * val [(10 : Int)])))) < (10 : Int).toNat ^ (precI n).toNat))) none) none) (rb true)) (rb true)
def mbR14 (n w X' : Int) (G : List Int) : R :=
  cond (decide (w > X')) (cond (decide (X' < emaxI n)) (cond (decide ((words (val G)).length ≤ 1000000 ∧ [(10 : Int)].length ≤ 1000000 ∧ 0 < val [(10 : Int)]))
      (rb (decide (((words (val (words (val G)) % val [(10 : Int)])).length : Int) > 0))) none) (mbR17 n w X' G)) (mbR17 n w X' G)
def mbR11 (n w X X' : Int) (F4 G : List Int) : R :=
  cond (rOK10 (IntKind.i64.wrap (X' - X)) (words (val G)) [1]) (cond (decide ((words (val F4)).length ≤ 274877906944 ∧ (words (val [(1 : Int)] * dnP 10 (IntKind.i64.wrap (X' - X)))).length ≤ 274877906944))
    (cond (!decide (val (words (val (words (val G)) * upP 10 (IntKind.i64.wrap (X' - X)))) = val (words (val (words (val F4)) * val (words (val [(1 : Int)] * dnP 10 (IntKind.i64.wrap (X' - X)))))))) (rb false) (mbR14 n w X' G)) none) none
def mbR (n d w : Int) (s : Bool) (X : Int) (F4 : List Int) : R :=
  cond (decide (F4 = [0, 0, 0, 0])) (rb true) (cond (decide (1 ≤ n ∧ n ≤ 12)) (cond (decide ((7 ≤ n ∧ n ≤ 12) ∧ (0 ≤ d ∧ d ≤ 4) ∧ 0 < val [(1 : Int)] ∧ F4.length ≤ 400 ∧ [(1 : Int)].length ≤ 400))
    (cond ((drn n d s (val F4) (val [(1 : Int)]) X w).2.2.2 != 0) (rb false) (cond (!(s == s)) (rb false) (mbR11 n w X (drn n d s (val F4) (val [(1 : Int)]) X w).2.1 F4 (fourI (wordsN 4 (drn n d s (val F4) (val [(1 : Int)]) X w).2.2.1))))) none) none)
theorem memb15_ev (n d w : Int) (b : List Int) : evFn memb15E Try.f4 [.p (.int .i64 n), .p (.int .i64 d), .r .u64 4 b, .p (.int .i64 w)] =
    cond (!decide (0 ≤ d ∧ d ≤ 4)) (rb true) (cond ((un n b).2.2 != 0) (rb true) (cond ((un n b).1.1 != 1) (rb true) (mbR n d w (un n b).1.2.1 (un n b).1.2.2.2.1 (fourI (wordsN 4 (un n b).1.2.2.2.2))))) := by kernel_rfl
theorem wlen_gt {a : Nat} (h : a ≠ 0) : 0 < wlen a := wlen_ge (k := 0) (by rw [Nat.pow_zero]; omega)
theorem four_eq (F : Nat) : fourI (wordsN 4 F) = wordsN 4 F := (len4 (length_wordsN 4 F)).symm
theorem ten_pN {n : Int} (h7 : 7 ≤ n ∧ n ≤ 12) : 10 ^ pN n * 10 < 2 ^ 256 := by
  obtain ⟨f1, f2, f3, f4, f5, f6, f7, f8, f9⟩ := fmt10 h7
  have h1 : 10 ^ (pN n + 1) ≤ 2 ^ (4 * (pN n + 1)) := by rw [Nat.pow_mul]; exact Nat.pow_le_pow_left (by decide) _
  have h2 : 2 ^ (4 * (pN n + 1)) < 2 ^ 256 := Nat.pow_lt_pow_right (by decide) (by omega)
  rw [Nat.pow_succ] at h1
  omega
theorem mbR17_true {n w X' : Int} {C : Nat} (h7 : 7 ≤ n ∧ n ≤ 12) (hC : C < 10 ^ pN n) (h : w < X' → eminI n < X' → ¬ C * 10 < 10 ^ pN n) : mbR17 n w X' (wordsN 4 C) = rb true := by
  have ht := ten_pN h7
  obtain ⟨f1, f2, f3, f4, f5, f6, f7, f8, f9⟩ := fmt10 h7
  have hv : val (wordsN 4 C) = C := lo4 (by omega)
  have hl : wlen C ≤ 4 := by rw [wlen_le, pow4]; omega
  have h10 : val [(10 : Int)] = 10 := by decide
  unfold mbR17
  by_cases h1 : w < X'
  case neg => rw [decide_eq_false h1]; rfl
  by_cases h2 : X' > eminI n
  case neg => rw [decide_eq_true h1, decide_eq_false h2]; rfl
  rw [decide_eq_true h1, decide_eq_true h2, cond_true, cond_true, hv, length_words, decide_eq_true ⟨by omega, (by decide : [(10 : Int)].length ≤ 274877906944)⟩, cond_true, decide_eq_true (show 0 ≤ (10 : Int) ∧ (10 : Int) ≤ 1000 ∧ 0 ≤ precI n ∧ precI n ≤ 100000 by omega), cond_true, val_words, h10, val_words, lo4 (show C * 10 < 2 ^ 256 by omega)]
  rw [decide_eq_false (show ¬ C * 10 < (10 : Int).toNat ^ (precI n).toNat from h h1 h2)]
  rfl
theorem mbR14_true {n w X' : Int} {C : Nat} (h7 : 7 ≤ n ∧ n ≤ 12) (hC : C < 10 ^ pN n) (h : w < X' → eminI n < X' → ¬ C * 10 < 10 ^ pN n) (h' : X' < w → X' < emaxI n → C % 10 ≠ 0) : mbR14 n w X' (wordsN 4 C) = rb true := by
  have ht := ten_pN h7
  have hv : val (wordsN 4 C) = C := lo4 (by omega)
  have hl : wlen C ≤ 4 := by rw [wlen_le, pow4]; omega
  have h10 : val [(10 : Int)] = 10 := by decide
  unfold mbR14
  by_cases h1 : w > X'
  case neg =>
    rw [decide_eq_false h1]
    exact mbR17_true h7 hC h
  by_cases h2 : X' < emaxI n
  case neg =>
    rw [decide_eq_true h1, decide_eq_false h2]
    exact mbR17_true h7 hC h
  rw [decide_eq_true h1, decide_eq_true h2, cond_true, cond_true, hv, length_words, val_words, h10, decide_eq_true ⟨by omega, (by decide : [(10 : Int)].length ≤ 1000000), by decide⟩, cond_true, length_words, decide_eq_true (show ((wlen (C % 10) : Nat) : Int) > 0 by have := wlen_gt (h' h1 h2); omega)]
theorem mbR11_true {n w X X' : Int} {F C : Nat} (h7 : 7 ≤ n ∧ n ≤ 12) (hF : F < 10 ^ pN n) (hC : C < 10 ^ pN n) (hX : eminI n ≤ X ∧ X ≤ emaxI n) (hX' : eminI n ≤ X' ∧ X' ≤ emaxI n) (he : C * upP 10 (X' - X) = F * dnP 10 (X' - X))
    (h : w < X' → eminI n < X' → ¬ C * 10 < 10 ^ pN n) (h' : X' < w → X' < emaxI n → C % 10 ≠ 0) : mbR11 n w X X' (wordsN 4 F) (wordsN 4 C) = rb true := by
  have ht := ten_pN h7
  obtain ⟨f1, f2, f3, f4, f5, f6, f7, f8, f9⟩ := fmt10 h7
  have hv : val (wordsN 4 C) = C := lo4 (by omega)
  have hu : val (wordsN 4 F) = F := lo4 (by omega)
  have hl : wlen C ≤ 4 := by rw [wlen_le, pow4]; omega
  have hk : wlen F ≤ 4 := by rw [wlen_le, pow4]; omega
  have h1 : val [(1 : Int)] = 1 := by decide
  have hw : IntKind.i64.wrap (X' - X) = X' - X := i64_wrap (by omega) (by omega)
  have hd : wlen (dnP 10 (X' - X)) ≤ 1000000 := by
    have := pow10_wl (-(X' - X)).toNat
    unfold dnP
    omega
  unfold mbR11
  rw [hw, hv, hu]
  have hr : rOK10 (X' - X) (words C) [1] = true := decide_eq_true ⟨by omega, by rw [val_words], by decide, by rw [length_words]; omega, by decide⟩
  rw [hr, cond_true, h1, Nat.one_mul, val_words, val_words, val_words, val_words, val_words, length_words, length_words, decide_eq_true (show wlen F ≤ 274877906944 ∧ wlen (dnP 10 (X' - X)) ≤ 274877906944 by omega), cond_true, decide_eq_true he]
  exact mbR14_true h7 hC h h'
theorem memb15_true {v : World} {vs : List Value} (n d : Int) (b : List Int) (w : Int) (hds : all2 (DR v) [.p (.int .i64 n), .p (.int .i64 d), .r .u64 4 b, .p (.int .i64 w)] vs) :
    evFn memb15E Try.f4 [.p (.int .i64 n), .p (.int .i64 d), .r .u64 4 b, .p (.int .i64 w)] = some [(.mine, .p (.bool true))] := by
  rw [memb15_ev]
  by_cases hd : 0 ≤ d ∧ d ≤ 4
  case neg =>
    rw [decide_eq_false hd]
    rfl
  rw [decide_eq_true hd, Bool.not_true, cond_false]
  have hu := un_ok n b
  generalize un n b = U at *
  obtain ⟨⟨C, s, q, X, F⟩, can, g⟩ := U
  dsimp only at *
  cases hg : (g != 0)
  case true => rfl
  cases hc : (C != 1)
  case true => rfl
  rw [cond_false, cond_false]
  obtain ⟨h7, rfl, hX, hF⟩ := hu (by simpa using hg) (by simpa using hc)
  have ht := ten_pN h7
  have hl : wlen F ≤ 4 := by rw [wlen_le, pow4]; omega
  have h1 : val [(1 : Int)] = 1 := by decide
  unfold mbR
  rw [four_eq]
  by_cases h0 : wordsN 4 F = [0, 0, 0, 0]
  · rw [decide_eq_true h0]
    rfl
  have hF0 : 0 < F := by
    rcases Nat.eq_zero_or_pos F with rfl | h
    · exact absurd zeroW4 h0
    · exact h
  obtain ⟨X', C', e, m1, m2, m3, m4, m5, m6⟩ := drn_members (d := d) (w := w) (s := s) h7 hX hF hF0
  rw [decide_eq_false h0, cond_false, decide_eq_true (show 1 ≤ n ∧ n ≤ 12 by omega), cond_true, length_wordsN, lo4 (show F < 2 ^ 256 by omega), h1, decide_eq_true ⟨h7, hd, by decide, by decide, by decide⟩, cond_true, e]
  show cond ((0 : Int) != 0) (rb false) (cond (!(s == s)) (rb false) (mbR11 n w X X' (wordsN 4 F) (fourI (wordsN 4 C')))) = _
  rw [four_eq, mbR11_true h7 hF m3 hX ⟨m1, m2⟩ m4 m6 m5, beq_self_eq_true]
  rfl
theorem memb15_call {w : World} {ds : List D} {vs : List Value} {res : List (Own × D)} (hds : all2 (DR w) ds vs) (he : evFn memb15E Try.f4 ds = some res) : CallTo Try.prog 4 w vs res := call_mk T mixed Try.func4 (by kernel_rfl) (fns := [(9, awake15C), (12, rDirC), (13, un14C), (14, rInC), (10, decGC), (16, rNatNC), (15, rScl10C), (18, timesC), (17, sameC), (19, overC), (21, rBitsC), (20, belowFC)]) (lps := []) (live := []) (out := []) (fuel := 0) (give := (fun k => k == softId)) ⟨awake15_fn, rDir_fn, un14_fn, rIn_fn, decG_fn, rNatN_fn, rScl10_fn, times_fn, same_fn, over_fn, rBits_fn, belowF_fn, trivial⟩ trivial hds he
end
end Go.Proofs.Ytcglfmldodhakaa.Vm
