/-
  The law DecletCodes, evaluated: declets. Its trees are printed by a program of this session (declet.py). No statement is proved here.
-/
import Derived.Test.YthilpmchdeolnaaCalT
namespace Go.Proofs.Ythilpmchdeolnaa.Vm
open Go Go.Vm
noncomputable section
set_option linter.unusedVariables false

/-! ### plain -/
/-- Three digits as a declet. -/
def encP (n : Nat) : Nat :=
  let a := n / 100; let b := n / 10 % 10; let c := n % 10
  128 * (a % 2) + 16 * (b % 2) + c % 2 +
    cond (Nat.blt a 8)
      (cond (Nat.blt b 8) (cond (Nat.blt c 8) (256 * (a / 2) + 32 * (b / 2) + 2 * (c / 2)) (256 * (a / 2) + 32 * (b / 2) + 8))
        (cond (Nat.blt c 8) (256 * (a / 2) + 32 * (c / 2) + 10) (256 * (a / 2) + 78)))
      (cond (Nat.blt b 8) (cond (Nat.blt c 8) (256 * (c / 2) + 32 * (b / 2) + 12) (256 * (b / 2) + 46))
        (cond (Nat.blt c 8) (256 * (c / 2) + 14) 110))
def dec3 (d a b c : Nat) : Nat := (2 * a + d / 128 % 2) * 100 + (2 * b + d / 16 % 2) * 10 + (2 * c + d % 2)
/-- A declet as three digits. -/
def decP (d : Nat) : Nat :=
  let p := d / 256 % 4; let q := d / 32 % 4; let s := d / 2 % 8
  cond (Nat.blt s 4) (dec3 d p q s) (cond (Nat.beq s 4) (dec3 d p q 4) (cond (Nat.beq s 5) (dec3 d p 4 q) (cond (Nat.beq s 6) (dec3 d 4 q p)
    (cond (Nat.beq q 0) (dec3 d 4 4 p) (cond (Nat.beq q 1) (dec3 d 4 p 4) (cond (Nat.beq q 2) (dec3 d p 4 4) (dec3 d 4 4 4)))))))
def within (n h : Int) (a b : Int) : Int := cond (decide (n < 0)) b (cond (decide (n > h)) b a)
def twoC (f : Int → Int) (h : Int) : FnC := fun ds κ => match ds with
  | [.p (.int .i64 n)] => κ [(.mine, .p (.int .i64 (within n h (f n) 0))), (.mine, .p (.int .i64 (within n h 0 3)))]
  | _ => none
def encI (n : Int) : Int := encP n.toNat
def decI (n : Int) : Int := decP n.toNat
def chk (r : R) (a : Int) : Bool := match r with
  | some [(.mine, .p (.int .i64 x)), (.mine, .p (.int .i64 y))] => x == a && y == 0
  | _ => false
theorem chk_eq {r : R} {a : Int} (h : chk r a = true) : r = some [(.mine, .p (.int .i64 a)), (.mine, .p (.int .i64 0))] := by
  unfold chk at h
  split at h
  · simp only [Bool.and_eq_true, beq_iff_eq] at h
    rw [h.1, h.2]
  · cases h
theorem two_of {E : Env} {f : Func} {g : Int → Int} {h : Int} {N : Nat} {T : Int → R} (hev : ∀ n, evFn E f [.p (.int .i64 n)] = T n) (hN : h + 1 = N)
    (hlo : ∀ n : Int, n < 0 → T n = some [(.mine, .p (.int .i64 0)), (.mine, .p (.int .i64 3))])
    (hhi : ∀ n : Int, ¬ n < 0 → n > h → T n = some [(.mine, .p (.int .i64 0)), (.mine, .p (.int .i64 3))])
    (hin : ((List.range N).all fun n => chk (T (n : Int)) (g n)) = true) :
    ∀ ds κ r, (∀ d ∈ ds, d.wf) → twoC g h ds κ = some r → ∃ res, κ res = some r ∧ evFn E f ds = some res := fun ds κ r hw hr => by
  unfold twoC at hr
  split at hr
  case h_2 => cases hr
  rename_i n
  refine ⟨_, hr, ?_⟩
  rw [hev]
  unfold within
  by_cases h0 : n < 0
  · rw [decide_eq_true h0, cond_true, cond_true]
    exact hlo n h0
  · rw [decide_eq_false h0, cond_false, cond_false]
    by_cases h1 : n > h
    · rw [decide_eq_true h1, cond_true, cond_true]
      exact hhi n h0 h1
    · rw [decide_eq_false h1, cond_false, cond_false]
      obtain ⟨m, rfl⟩ : ∃ m : Nat, n = m := ⟨n.toNat, by omega⟩
      exact chk_eq (List.all_eq_true.mp hin m (List.mem_range.mpr (by omega)))

/-! ### the table, and what the program computes -/
/-- The first that holds. -/
def pickK {α : Type} : List (Bool × α) → α → (α → R) → R
  | [], z, κ => κ z
  | q :: l, z, κ => cond q.1 (κ q.2) (pickK l z κ)
def pickD {α : Type} : List (Bool × α) → α → α
  | [], z => z
  | q :: l, z => cond q.1 q.2 (pickD l z)
theorem pickK_eq {α : Type} {l : List (Bool × α)} {z : α} {κ : α → R} : pickK l z κ = κ (pickD l z) := by
  induction l with
  | nil => rfl
  | cons q l ih =>
    unfold pickK pickD
    rw [ih]
    cases q.1 <;> rfl
def rows (g : Int) : List (Bool × List (Own × D)) := [(g == 0, [(.mine, .r .i64 3 [10, 11, 22])]), (g == 1, [(.mine, .r .i64 3 [10, 11, 4])]), (g == 2, [(.mine, .r .i64 3 [10, 12, 5])]), (g == 4, [(.mine, .r .i64 3 [12, 11, 6])]),
  (g == 3, [(.mine, .r .i64 3 [10, 2, 7])]), (g == 5, [(.mine, .r .i64 3 [11, 1, 7])]), (g == 6, [(.mine, .r .i64 3 [12, 0, 7])])]
def row13C : FnC := fun ds κ => match ds with
  | [.p (.int .i64 g)] => pickK (rows g) [(.mine, .r .i64 3 [0, 3, 7])] κ
  | _ => none
def row13E : Env := mkE ty [] [] [] [] 0 (fun _ => false)
theorem row13_ev (g : Int) : evFn row13E Try.f67 [.p (.int .i64 g)] = pickK (rows g) [(.mine, .r .i64 3 [0, 3, 7])] some := by kernel_rfl
theorem row13_he : ∀ ds κ r, (∀ d ∈ ds, d.wf) → row13C ds κ = some r → ∃ res, κ res = some r ∧ evFn row13E Try.f67 ds = some res := fun ds κ r hw h => by
  unfold row13C at h
  split at h
  case h_2 => cases h
  rename_i g
  rw [pickK_eq] at h
  exact ⟨_, h, by rw [row13_ev, pickK_eq]⟩
theorem row13_fn : FnOK Try.prog 67 row13C := fnOK_mk T mixed Try.func67 (by kernel_rfl) (fns := []) (lps := []) (live := []) (out := []) (fuel := 0) (give := (fun _ => false)) trivial trivial row13_he
def enc18E : Env := mkE ty [] [] [] [] 0 (fun _ => false)
def enc18T (n : Int) : R :=
(cond (decide (n < 0))
 (some [(.mine, .p (.int .i64 (0))), (.mine, .p (.int .i64 (3)))])
 (cond (decide (n > 999))
  (some [(.mine, .p (.int .i64 (0))), (.mine, .p (.int .i64 (3)))])
  (cond (bits BinOp.or IntKind.i64
    (bits BinOp.or IntKind.i64 (shlI IntKind.i64 (shrI IntKind.i64 (IntKind.i64.wrap (n.tdiv 100)) 3) 2)
      (shlI IntKind.i64 (shrI IntKind.i64 ((IntKind.i64.wrap (n.tdiv 10)).tmod 10) 3) 1))
    (shrI IntKind.i64 (n.tmod 10) 3) ==
  0)
   (some [(.mine, .p (.int .i64 (bits BinOp.or IntKind.i64
  (bits BinOp.or IntKind.i64
    (bits BinOp.or IntKind.i64
      (bits BinOp.or IntKind.i64
        (bits BinOp.or IntKind.i64 (shlI IntKind.i64 (bits BinOp.and IntKind.i64 (IntKind.i64.wrap (n.tdiv 100)) 1) 7)
          (shlI IntKind.i64 (bits BinOp.and IntKind.i64 ((IntKind.i64.wrap (n.tdiv 10)).tmod 10) 1) 4))
        (bits BinOp.and IntKind.i64 (n.tmod 10) 1))
      (shlI IntKind.i64 (bits BinOp.and IntKind.i64 (shrI IntKind.i64 (IntKind.i64.wrap (n.tdiv 100)) 1) 3) 8))
    (shlI IntKind.i64 (bits BinOp.and IntKind.i64 (shrI IntKind.i64 ((IntKind.i64.wrap (n.tdiv 10)).tmod 10) 1) 3) 5))
  (shlI IntKind.i64 (bits BinOp.and IntKind.i64 (shrI IntKind.i64 (n.tmod 10) 1) 3) 1)))), (.mine, .p (.int .i64 (0)))])
   (cond (bits BinOp.or IntKind.i64
    (bits BinOp.or IntKind.i64 (shlI IntKind.i64 (shrI IntKind.i64 (IntKind.i64.wrap (n.tdiv 100)) 3) 2)
      (shlI IntKind.i64 (shrI IntKind.i64 ((IntKind.i64.wrap (n.tdiv 10)).tmod 10) 3) 1))
    (shrI IntKind.i64 (n.tmod 10) 3) ==
  1)
    (some [(.mine, .p (.int .i64 (bits BinOp.or IntKind.i64
  (bits BinOp.or IntKind.i64
    (bits BinOp.or IntKind.i64
      (bits BinOp.or IntKind.i64
        (bits BinOp.or IntKind.i64 (shlI IntKind.i64 (bits BinOp.and IntKind.i64 (IntKind.i64.wrap (n.tdiv 100)) 1) 7)
          (shlI IntKind.i64 (bits BinOp.and IntKind.i64 ((IntKind.i64.wrap (n.tdiv 10)).tmod 10) 1) 4))
        (bits BinOp.and IntKind.i64 (n.tmod 10) 1))
      (shlI IntKind.i64 (bits BinOp.and IntKind.i64 (shrI IntKind.i64 (IntKind.i64.wrap (n.tdiv 100)) 1) 3) 8))
    (shlI IntKind.i64 (bits BinOp.and IntKind.i64 (shrI IntKind.i64 ((IntKind.i64.wrap (n.tdiv 10)).tmod 10) 1) 3) 5))
  8))), (.mine, .p (.int .i64 (0)))])
    (cond (bits BinOp.or IntKind.i64
    (bits BinOp.or IntKind.i64 (shlI IntKind.i64 (shrI IntKind.i64 (IntKind.i64.wrap (n.tdiv 100)) 3) 2)
      (shlI IntKind.i64 (shrI IntKind.i64 ((IntKind.i64.wrap (n.tdiv 10)).tmod 10) 3) 1))
    (shrI IntKind.i64 (n.tmod 10) 3) ==
  2)
     (some [(.mine, .p (.int .i64 (bits BinOp.or IntKind.i64
  (bits BinOp.or IntKind.i64
    (bits BinOp.or IntKind.i64
      (bits BinOp.or IntKind.i64
        (bits BinOp.or IntKind.i64 (shlI IntKind.i64 (bits BinOp.and IntKind.i64 (IntKind.i64.wrap (n.tdiv 100)) 1) 7)
          (shlI IntKind.i64 (bits BinOp.and IntKind.i64 ((IntKind.i64.wrap (n.tdiv 10)).tmod 10) 1) 4))
        (bits BinOp.and IntKind.i64 (n.tmod 10) 1))
      (shlI IntKind.i64 (bits BinOp.and IntKind.i64 (shrI IntKind.i64 (IntKind.i64.wrap (n.tdiv 100)) 1) 3) 8))
    (shlI IntKind.i64 (bits BinOp.and IntKind.i64 (shrI IntKind.i64 (n.tmod 10) 1) 3) 5))
  10))), (.mine, .p (.int .i64 (0)))])
     (cond (bits BinOp.or IntKind.i64
    (bits BinOp.or IntKind.i64 (shlI IntKind.i64 (shrI IntKind.i64 (IntKind.i64.wrap (n.tdiv 100)) 3) 2)
      (shlI IntKind.i64 (shrI IntKind.i64 ((IntKind.i64.wrap (n.tdiv 10)).tmod 10) 3) 1))
    (shrI IntKind.i64 (n.tmod 10) 3) ==
  4)
      (some [(.mine, .p (.int .i64 (bits BinOp.or IntKind.i64
  (bits BinOp.or IntKind.i64
    (bits BinOp.or IntKind.i64
      (bits BinOp.or IntKind.i64
        (bits BinOp.or IntKind.i64 (shlI IntKind.i64 (bits BinOp.and IntKind.i64 (IntKind.i64.wrap (n.tdiv 100)) 1) 7)
          (shlI IntKind.i64 (bits BinOp.and IntKind.i64 ((IntKind.i64.wrap (n.tdiv 10)).tmod 10) 1) 4))
        (bits BinOp.and IntKind.i64 (n.tmod 10) 1))
      (shlI IntKind.i64 (bits BinOp.and IntKind.i64 (shrI IntKind.i64 (n.tmod 10) 1) 3) 8))
    (shlI IntKind.i64 (bits BinOp.and IntKind.i64 (shrI IntKind.i64 ((IntKind.i64.wrap (n.tdiv 10)).tmod 10) 1) 3) 5))
  12))), (.mine, .p (.int .i64 (0)))])
      (cond (bits BinOp.or IntKind.i64
    (bits BinOp.or IntKind.i64 (shlI IntKind.i64 (shrI IntKind.i64 (IntKind.i64.wrap (n.tdiv 100)) 3) 2)
      (shlI IntKind.i64 (shrI IntKind.i64 ((IntKind.i64.wrap (n.tdiv 10)).tmod 10) 3) 1))
    (shrI IntKind.i64 (n.tmod 10) 3) ==
  3)
       (some [(.mine, .p (.int .i64 (bits BinOp.or IntKind.i64
  (bits BinOp.or IntKind.i64
    (bits BinOp.or IntKind.i64
      (bits BinOp.or IntKind.i64
        (bits BinOp.or IntKind.i64 (shlI IntKind.i64 (bits BinOp.and IntKind.i64 (IntKind.i64.wrap (n.tdiv 100)) 1) 7)
          (shlI IntKind.i64 (bits BinOp.and IntKind.i64 ((IntKind.i64.wrap (n.tdiv 10)).tmod 10) 1) 4))
        (bits BinOp.and IntKind.i64 (n.tmod 10) 1))
      (shlI IntKind.i64 (bits BinOp.and IntKind.i64 (shrI IntKind.i64 (IntKind.i64.wrap (n.tdiv 100)) 1) 3) 8))
    64)
  14))), (.mine, .p (.int .i64 (0)))])
       (cond (bits BinOp.or IntKind.i64
    (bits BinOp.or IntKind.i64 (shlI IntKind.i64 (shrI IntKind.i64 (IntKind.i64.wrap (n.tdiv 100)) 3) 2)
      (shlI IntKind.i64 (shrI IntKind.i64 ((IntKind.i64.wrap (n.tdiv 10)).tmod 10) 3) 1))
    (shrI IntKind.i64 (n.tmod 10) 3) ==
  5)
        (some [(.mine, .p (.int .i64 (bits BinOp.or IntKind.i64
  (bits BinOp.or IntKind.i64
    (bits BinOp.or IntKind.i64
      (bits BinOp.or IntKind.i64
        (bits BinOp.or IntKind.i64 (shlI IntKind.i64 (bits BinOp.and IntKind.i64 (IntKind.i64.wrap (n.tdiv 100)) 1) 7)
          (shlI IntKind.i64 (bits BinOp.and IntKind.i64 ((IntKind.i64.wrap (n.tdiv 10)).tmod 10) 1) 4))
        (bits BinOp.and IntKind.i64 (n.tmod 10) 1))
      (shlI IntKind.i64 (bits BinOp.and IntKind.i64 (shrI IntKind.i64 ((IntKind.i64.wrap (n.tdiv 10)).tmod 10) 1) 3) 8))
    32)
  14))), (.mine, .p (.int .i64 (0)))])
        (cond (bits BinOp.or IntKind.i64
    (bits BinOp.or IntKind.i64 (shlI IntKind.i64 (shrI IntKind.i64 (IntKind.i64.wrap (n.tdiv 100)) 3) 2)
      (shlI IntKind.i64 (shrI IntKind.i64 ((IntKind.i64.wrap (n.tdiv 10)).tmod 10) 3) 1))
    (shrI IntKind.i64 (n.tmod 10) 3) ==
  6)
         (some [(.mine, .p (.int .i64 (bits BinOp.or IntKind.i64
  (bits BinOp.or IntKind.i64
    (bits BinOp.or IntKind.i64
      (bits BinOp.or IntKind.i64 (shlI IntKind.i64 (bits BinOp.and IntKind.i64 (IntKind.i64.wrap (n.tdiv 100)) 1) 7)
        (shlI IntKind.i64 (bits BinOp.and IntKind.i64 ((IntKind.i64.wrap (n.tdiv 10)).tmod 10) 1) 4))
      (bits BinOp.and IntKind.i64 (n.tmod 10) 1))
    (shlI IntKind.i64 (bits BinOp.and IntKind.i64 (shrI IntKind.i64 (n.tmod 10) 1) 3) 8))
  14))), (.mine, .p (.int .i64 (0)))])
         (some [(.mine, .p (.int .i64 (bits BinOp.or IntKind.i64
  (bits BinOp.or IntKind.i64
    (bits BinOp.or IntKind.i64
      (bits BinOp.or IntKind.i64 (shlI IntKind.i64 (bits BinOp.and IntKind.i64 (IntKind.i64.wrap (n.tdiv 100)) 1) 7)
        (shlI IntKind.i64 (bits BinOp.and IntKind.i64 ((IntKind.i64.wrap (n.tdiv 10)).tmod 10) 1) 4))
      (bits BinOp.and IntKind.i64 (n.tmod 10) 1))
    96)
  14))), (.mine, .p (.int .i64 (0)))]))))))))))
theorem enc18_ev (n : Int) : evFn enc18E Try.f37 [.p (.int .i64 n)] = enc18T n := by kernel_rfl
theorem enc18_he : ∀ ds κ r, (∀ d ∈ ds, d.wf) → twoC encI 999 ds κ = some r → ∃ res, κ res = some r ∧ evFn enc18E Try.f37 ds = some res :=
  two_of (N := 1000) enc18_ev rfl (fun n h => by unfold enc18T; rw [decide_eq_true h, cond_true]) (fun n h h' => by unfold enc18T; rw [decide_eq_false h, cond_false, decide_eq_true h', cond_true]) (by kernel_rfl)
abbrev enc18C : FnC := twoC encI 999
theorem enc18_fn : FnOK Try.prog 37 enc18C := fnOK_mk T mixed Try.func37 (by kernel_rfl) (fns := []) (lps := []) (live := []) (out := []) (fuel := 0) (give := (fun _ => false)) trivial trivial enc18_he
def enc13E : Env := mkE ty [(67, row13C)] [] [(0, [4, 6, 7, 39])] [(0, [4, 7])] 4 (fun _ => false)
def enc13T (n : Int) : R :=
(cond (decide (n < 0))
 (some [(.mine, .p (.int .i64 (0))), (.mine, .p (.int .i64 (3)))])
 (cond (decide (n > 999))
  (some [(.mine, .p (.int .i64 (0))), (.mine, .p (.int .i64 (3)))])
  (cond (IntKind.i64.wrap
    (IntKind.i64.wrap
        (IntKind.i64.wrap (IntKind.i64.wrap ((IntKind.i64.wrap (n.tdiv 100)).tdiv 8) * 4) +
          IntKind.i64.wrap (IntKind.i64.wrap (((IntKind.i64.wrap (n.tdiv 10)).tmod 10).tdiv 8) * 2)) +
      IntKind.i64.wrap ((n.tmod 10).tdiv 8)) ==
  0)
   (some [(.mine, .p (.int .i64 (bits BinOp.or IntKind.i64
  (bits BinOp.or IntKind.i64
    (bits BinOp.or IntKind.i64
      (bits BinOp.or IntKind.i64
        (bits BinOp.or IntKind.i64
          (shlI IntKind.i64 ((IntKind.i64.wrap ((IntKind.i64.wrap (n.tdiv 100)).tdiv 2)).tmod 4) 8)
          (shlI IntKind.i64 ((IntKind.i64.wrap (n.tdiv 100)).tmod 2) 7))
        (shlI IntKind.i64 ((IntKind.i64.wrap (((IntKind.i64.wrap (n.tdiv 10)).tmod 10).tdiv 2)).tmod 4) 5))
      (shlI IntKind.i64 (((IntKind.i64.wrap (n.tdiv 10)).tmod 10).tmod 2) 4))
    (shlI IntKind.i64 ((IntKind.i64.wrap ((n.tmod 10).tdiv 2)).tmod 4) 1))
  ((n.tmod 10).tmod 2)))), (.mine, .p (.int .i64 (0)))])
   (cond (IntKind.i64.wrap
    (IntKind.i64.wrap
        (IntKind.i64.wrap (IntKind.i64.wrap ((IntKind.i64.wrap (n.tdiv 100)).tdiv 8) * 4) +
          IntKind.i64.wrap (IntKind.i64.wrap (((IntKind.i64.wrap (n.tdiv 10)).tmod 10).tdiv 8) * 2)) +
      IntKind.i64.wrap ((n.tmod 10).tdiv 8)) ==
  1)
    (some [(.mine, .p (.int .i64 (bits BinOp.or IntKind.i64
  (bits BinOp.or IntKind.i64
    (bits BinOp.or IntKind.i64
      (bits BinOp.or IntKind.i64
        (bits BinOp.or IntKind.i64
          (shlI IntKind.i64 ((IntKind.i64.wrap ((IntKind.i64.wrap (n.tdiv 100)).tdiv 2)).tmod 4) 8)
          (shlI IntKind.i64 ((IntKind.i64.wrap (n.tdiv 100)).tmod 2) 7))
        (shlI IntKind.i64 ((IntKind.i64.wrap (((IntKind.i64.wrap (n.tdiv 10)).tmod 10).tdiv 2)).tmod 4) 5))
      (shlI IntKind.i64 (((IntKind.i64.wrap (n.tdiv 10)).tmod 10).tmod 2) 4))
    (shlI IntKind.i64 4 1))
  ((n.tmod 10).tmod 2)))), (.mine, .p (.int .i64 (0)))])
    (cond (IntKind.i64.wrap
    (IntKind.i64.wrap
        (IntKind.i64.wrap (IntKind.i64.wrap ((IntKind.i64.wrap (n.tdiv 100)).tdiv 8) * 4) +
          IntKind.i64.wrap (IntKind.i64.wrap (((IntKind.i64.wrap (n.tdiv 10)).tmod 10).tdiv 8) * 2)) +
      IntKind.i64.wrap ((n.tmod 10).tdiv 8)) ==
  2)
     (some [(.mine, .p (.int .i64 (bits BinOp.or IntKind.i64
  (bits BinOp.or IntKind.i64
    (bits BinOp.or IntKind.i64
      (bits BinOp.or IntKind.i64
        (bits BinOp.or IntKind.i64
          (shlI IntKind.i64 ((IntKind.i64.wrap ((IntKind.i64.wrap (n.tdiv 100)).tdiv 2)).tmod 4) 8)
          (shlI IntKind.i64 ((IntKind.i64.wrap (n.tdiv 100)).tmod 2) 7))
        (shlI IntKind.i64 ((IntKind.i64.wrap ((n.tmod 10).tdiv 2)).tmod 4) 5))
      (shlI IntKind.i64 (((IntKind.i64.wrap (n.tdiv 10)).tmod 10).tmod 2) 4))
    (shlI IntKind.i64 5 1))
  ((n.tmod 10).tmod 2)))), (.mine, .p (.int .i64 (0)))])
     (cond (IntKind.i64.wrap
    (IntKind.i64.wrap
        (IntKind.i64.wrap (IntKind.i64.wrap ((IntKind.i64.wrap (n.tdiv 100)).tdiv 8) * 4) +
          IntKind.i64.wrap (IntKind.i64.wrap (((IntKind.i64.wrap (n.tdiv 10)).tmod 10).tdiv 8) * 2)) +
      IntKind.i64.wrap ((n.tmod 10).tdiv 8)) ==
  4)
      (some [(.mine, .p (.int .i64 (bits BinOp.or IntKind.i64
  (bits BinOp.or IntKind.i64
    (bits BinOp.or IntKind.i64
      (bits BinOp.or IntKind.i64
        (bits BinOp.or IntKind.i64 (shlI IntKind.i64 ((IntKind.i64.wrap ((n.tmod 10).tdiv 2)).tmod 4) 8)
          (shlI IntKind.i64 ((IntKind.i64.wrap (n.tdiv 100)).tmod 2) 7))
        (shlI IntKind.i64 ((IntKind.i64.wrap (((IntKind.i64.wrap (n.tdiv 10)).tmod 10).tdiv 2)).tmod 4) 5))
      (shlI IntKind.i64 (((IntKind.i64.wrap (n.tdiv 10)).tmod 10).tmod 2) 4))
    (shlI IntKind.i64 6 1))
  ((n.tmod 10).tmod 2)))), (.mine, .p (.int .i64 (0)))])
      (cond (IntKind.i64.wrap
    (IntKind.i64.wrap
        (IntKind.i64.wrap (IntKind.i64.wrap ((IntKind.i64.wrap (n.tdiv 100)).tdiv 8) * 4) +
          IntKind.i64.wrap (IntKind.i64.wrap (((IntKind.i64.wrap (n.tdiv 10)).tmod 10).tdiv 8) * 2)) +
      IntKind.i64.wrap ((n.tmod 10).tdiv 8)) ==
  3)
       (some [(.mine, .p (.int .i64 (bits BinOp.or IntKind.i64
  (bits BinOp.or IntKind.i64
    (bits BinOp.or IntKind.i64
      (bits BinOp.or IntKind.i64
        (bits BinOp.or IntKind.i64
          (shlI IntKind.i64 ((IntKind.i64.wrap ((IntKind.i64.wrap (n.tdiv 100)).tdiv 2)).tmod 4) 8)
          (shlI IntKind.i64 ((IntKind.i64.wrap (n.tdiv 100)).tmod 2) 7))
        (shlI IntKind.i64 2 5))
      (shlI IntKind.i64 (((IntKind.i64.wrap (n.tdiv 10)).tmod 10).tmod 2) 4))
    (shlI IntKind.i64 7 1))
  ((n.tmod 10).tmod 2)))), (.mine, .p (.int .i64 (0)))])
       (cond (IntKind.i64.wrap
    (IntKind.i64.wrap
        (IntKind.i64.wrap (IntKind.i64.wrap ((IntKind.i64.wrap (n.tdiv 100)).tdiv 8) * 4) +
          IntKind.i64.wrap (IntKind.i64.wrap (((IntKind.i64.wrap (n.tdiv 10)).tmod 10).tdiv 8) * 2)) +
      IntKind.i64.wrap ((n.tmod 10).tdiv 8)) ==
  5)
        (some [(.mine, .p (.int .i64 (bits BinOp.or IntKind.i64
  (bits BinOp.or IntKind.i64
    (bits BinOp.or IntKind.i64
      (bits BinOp.or IntKind.i64
        (bits BinOp.or IntKind.i64
          (shlI IntKind.i64 ((IntKind.i64.wrap (((IntKind.i64.wrap (n.tdiv 10)).tmod 10).tdiv 2)).tmod 4) 8)
          (shlI IntKind.i64 ((IntKind.i64.wrap (n.tdiv 100)).tmod 2) 7))
        (shlI IntKind.i64 1 5))
      (shlI IntKind.i64 (((IntKind.i64.wrap (n.tdiv 10)).tmod 10).tmod 2) 4))
    (shlI IntKind.i64 7 1))
  ((n.tmod 10).tmod 2)))), (.mine, .p (.int .i64 (0)))])
        (cond (IntKind.i64.wrap
    (IntKind.i64.wrap
        (IntKind.i64.wrap (IntKind.i64.wrap ((IntKind.i64.wrap (n.tdiv 100)).tdiv 8) * 4) +
          IntKind.i64.wrap (IntKind.i64.wrap (((IntKind.i64.wrap (n.tdiv 10)).tmod 10).tdiv 8) * 2)) +
      IntKind.i64.wrap ((n.tmod 10).tdiv 8)) ==
  6)
         (some [(.mine, .p (.int .i64 (bits BinOp.or IntKind.i64
  (bits BinOp.or IntKind.i64
    (bits BinOp.or IntKind.i64
      (bits BinOp.or IntKind.i64
        (bits BinOp.or IntKind.i64 (shlI IntKind.i64 ((IntKind.i64.wrap ((n.tmod 10).tdiv 2)).tmod 4) 8)
          (shlI IntKind.i64 ((IntKind.i64.wrap (n.tdiv 100)).tmod 2) 7))
        (shlI IntKind.i64 0 5))
      (shlI IntKind.i64 (((IntKind.i64.wrap (n.tdiv 10)).tmod 10).tmod 2) 4))
    (shlI IntKind.i64 7 1))
  ((n.tmod 10).tmod 2)))), (.mine, .p (.int .i64 (0)))])
         (some [(.mine, .p (.int .i64 (bits BinOp.or IntKind.i64
  (bits BinOp.or IntKind.i64
    (bits BinOp.or IntKind.i64
      (bits BinOp.or IntKind.i64
        (bits BinOp.or IntKind.i64 (shlI IntKind.i64 0 8) (shlI IntKind.i64 ((IntKind.i64.wrap (n.tdiv 100)).tmod 2) 7))
        (shlI IntKind.i64 3 5))
      (shlI IntKind.i64 (((IntKind.i64.wrap (n.tdiv 10)).tmod 10).tmod 2) 4))
    (shlI IntKind.i64 7 1))
  ((n.tmod 10).tmod 2)))), (.mine, .p (.int .i64 (0)))]))))))))))
theorem enc13_ev (n : Int) : evFn enc13E Try.f49 [.p (.int .i64 n)] = enc13T n := by kernel_rfl
theorem enc13_he : ∀ ds κ r, (∀ d ∈ ds, d.wf) → twoC encI 999 ds κ = some r → ∃ res, κ res = some r ∧ evFn enc13E Try.f49 ds = some res :=
  two_of (N := 1000) enc13_ev rfl (fun n h => by unfold enc13T; rw [decide_eq_true h, cond_true]) (fun n h h' => by unfold enc13T; rw [decide_eq_false h, cond_false, decide_eq_true h', cond_true]) (by kernel_rfl)
abbrev enc13C : FnC := twoC encI 999
theorem enc13_fn : FnOK Try.prog 49 enc13C := fnOK_mk T mixed Try.func49 (by kernel_rfl) (fns := [(67, row13C)]) (lps := []) (live := [(0, [4, 6, 7, 39])]) (out := [(0, [4, 7])]) (fuel := 4) (give := (fun _ => false)) ⟨row13_fn, trivial⟩ trivial enc13_he
def dec18E : Env := mkE ty [] [] [] [] 0 (fun _ => false)
def dec18T (n : Int) : R :=
(cond (decide (n < 0))
 (some [(.mine, .p (.int .i64 (0))), (.mine, .p (.int .i64 (3)))])
 (cond (decide (n > 1023))
  (some [(.mine, .p (.int .i64 (0))), (.mine, .p (.int .i64 (3)))])
  (cond (decide (bits BinOp.and IntKind.i64 (shrI IntKind.i64 n 1) 7 < 4))
   (some [(.mine, .p (.int .i64 (IntKind.i64.wrap
  (IntKind.i64.wrap
      (IntKind.i64.wrap
          (IntKind.i64.wrap
              (IntKind.i64.wrap
                  (IntKind.i64.wrap (2 * bits BinOp.and IntKind.i64 (shrI IntKind.i64 n 8) 3) +
                    bits BinOp.and IntKind.i64 (shrI IntKind.i64 n 7) 1) *
                100) +
            IntKind.i64.wrap
              (IntKind.i64.wrap
                  (IntKind.i64.wrap (2 * bits BinOp.and IntKind.i64 (shrI IntKind.i64 n 5) 3) +
                    bits BinOp.and IntKind.i64 (shrI IntKind.i64 n 4) 1) *
                10)) +
        IntKind.i64.wrap (2 * bits BinOp.and IntKind.i64 (shrI IntKind.i64 n 1) 7)) +
    bits BinOp.and IntKind.i64 n 1)))), (.mine, .p (.int .i64 (0)))])
   (cond (bits BinOp.and IntKind.i64 (shrI IntKind.i64 n 1) 7 == 4)
    (some [(.mine, .p (.int .i64 (IntKind.i64.wrap
  (IntKind.i64.wrap
      (IntKind.i64.wrap
          (IntKind.i64.wrap
              (IntKind.i64.wrap
                  (IntKind.i64.wrap (2 * bits BinOp.and IntKind.i64 (shrI IntKind.i64 n 8) 3) +
                    bits BinOp.and IntKind.i64 (shrI IntKind.i64 n 7) 1) *
                100) +
            IntKind.i64.wrap
              (IntKind.i64.wrap
                  (IntKind.i64.wrap (2 * bits BinOp.and IntKind.i64 (shrI IntKind.i64 n 5) 3) +
                    bits BinOp.and IntKind.i64 (shrI IntKind.i64 n 4) 1) *
                10)) +
        IntKind.i64.wrap (2 * 4)) +
    bits BinOp.and IntKind.i64 n 1)))), (.mine, .p (.int .i64 (0)))])
    (cond (bits BinOp.and IntKind.i64 (shrI IntKind.i64 n 1) 7 == 5)
     (some [(.mine, .p (.int .i64 (IntKind.i64.wrap
  (IntKind.i64.wrap
      (IntKind.i64.wrap
          (IntKind.i64.wrap
              (IntKind.i64.wrap
                  (IntKind.i64.wrap (2 * bits BinOp.and IntKind.i64 (shrI IntKind.i64 n 8) 3) +
                    bits BinOp.and IntKind.i64 (shrI IntKind.i64 n 7) 1) *
                100) +
            IntKind.i64.wrap
              (IntKind.i64.wrap (IntKind.i64.wrap (2 * 4) + bits BinOp.and IntKind.i64 (shrI IntKind.i64 n 4) 1) *
                10)) +
        IntKind.i64.wrap (2 * bits BinOp.and IntKind.i64 (shrI IntKind.i64 n 5) 3)) +
    bits BinOp.and IntKind.i64 n 1)))), (.mine, .p (.int .i64 (0)))])
     (cond (bits BinOp.and IntKind.i64 (shrI IntKind.i64 n 1) 7 == 6)
      (some [(.mine, .p (.int .i64 (IntKind.i64.wrap
  (IntKind.i64.wrap
      (IntKind.i64.wrap
          (IntKind.i64.wrap
              (IntKind.i64.wrap (IntKind.i64.wrap (2 * 4) + bits BinOp.and IntKind.i64 (shrI IntKind.i64 n 7) 1) *
                100) +
            IntKind.i64.wrap
              (IntKind.i64.wrap
                  (IntKind.i64.wrap (2 * bits BinOp.and IntKind.i64 (shrI IntKind.i64 n 5) 3) +
                    bits BinOp.and IntKind.i64 (shrI IntKind.i64 n 4) 1) *
                10)) +
        IntKind.i64.wrap (2 * bits BinOp.and IntKind.i64 (shrI IntKind.i64 n 8) 3)) +
    bits BinOp.and IntKind.i64 n 1)))), (.mine, .p (.int .i64 (0)))])
      (cond (bits BinOp.and IntKind.i64 (shrI IntKind.i64 n 5) 3 == 0)
       (some [(.mine, .p (.int .i64 (IntKind.i64.wrap
  (IntKind.i64.wrap
      (IntKind.i64.wrap
          (IntKind.i64.wrap
              (IntKind.i64.wrap (IntKind.i64.wrap (2 * 4) + bits BinOp.and IntKind.i64 (shrI IntKind.i64 n 7) 1) *
                100) +
            IntKind.i64.wrap
              (IntKind.i64.wrap (IntKind.i64.wrap (2 * 4) + bits BinOp.and IntKind.i64 (shrI IntKind.i64 n 4) 1) *
                10)) +
        IntKind.i64.wrap (2 * bits BinOp.and IntKind.i64 (shrI IntKind.i64 n 8) 3)) +
    bits BinOp.and IntKind.i64 n 1)))), (.mine, .p (.int .i64 (0)))])
       (cond (bits BinOp.and IntKind.i64 (shrI IntKind.i64 n 5) 3 == 1)
        (some [(.mine, .p (.int .i64 (IntKind.i64.wrap
  (IntKind.i64.wrap
      (IntKind.i64.wrap
          (IntKind.i64.wrap
              (IntKind.i64.wrap (IntKind.i64.wrap (2 * 4) + bits BinOp.and IntKind.i64 (shrI IntKind.i64 n 7) 1) *
                100) +
            IntKind.i64.wrap
              (IntKind.i64.wrap
                  (IntKind.i64.wrap (2 * bits BinOp.and IntKind.i64 (shrI IntKind.i64 n 8) 3) +
                    bits BinOp.and IntKind.i64 (shrI IntKind.i64 n 4) 1) *
                10)) +
        IntKind.i64.wrap (2 * 4)) +
    bits BinOp.and IntKind.i64 n 1)))), (.mine, .p (.int .i64 (0)))])
        (cond (bits BinOp.and IntKind.i64 (shrI IntKind.i64 n 5) 3 == 2)
         (some [(.mine, .p (.int .i64 (IntKind.i64.wrap
  (IntKind.i64.wrap
      (IntKind.i64.wrap
          (IntKind.i64.wrap
              (IntKind.i64.wrap
                  (IntKind.i64.wrap (2 * bits BinOp.and IntKind.i64 (shrI IntKind.i64 n 8) 3) +
                    bits BinOp.and IntKind.i64 (shrI IntKind.i64 n 7) 1) *
                100) +
            IntKind.i64.wrap
              (IntKind.i64.wrap (IntKind.i64.wrap (2 * 4) + bits BinOp.and IntKind.i64 (shrI IntKind.i64 n 4) 1) *
                10)) +
        IntKind.i64.wrap (2 * 4)) +
    bits BinOp.and IntKind.i64 n 1)))), (.mine, .p (.int .i64 (0)))])
         (some [(.mine, .p (.int .i64 (IntKind.i64.wrap
  (IntKind.i64.wrap
      (IntKind.i64.wrap
          (IntKind.i64.wrap
              (IntKind.i64.wrap (IntKind.i64.wrap (2 * 4) + bits BinOp.and IntKind.i64 (shrI IntKind.i64 n 7) 1) *
                100) +
            IntKind.i64.wrap
              (IntKind.i64.wrap (IntKind.i64.wrap (2 * 4) + bits BinOp.and IntKind.i64 (shrI IntKind.i64 n 4) 1) *
                10)) +
        IntKind.i64.wrap (2 * 4)) +
    bits BinOp.and IntKind.i64 n 1)))), (.mine, .p (.int .i64 (0)))]))))))))))
theorem dec18_ev (n : Int) : evFn dec18E Try.f44 [.p (.int .i64 n)] = dec18T n := by kernel_rfl
theorem dec18_he : ∀ ds κ r, (∀ d ∈ ds, d.wf) → twoC decI 1023 ds κ = some r → ∃ res, κ res = some r ∧ evFn dec18E Try.f44 ds = some res :=
  two_of (N := 1024) dec18_ev rfl (fun n h => by unfold dec18T; rw [decide_eq_true h, cond_true]) (fun n h h' => by unfold dec18T; rw [decide_eq_false h, cond_false, decide_eq_true h', cond_true]) (by kernel_rfl)
abbrev dec18C : FnC := twoC decI 1023
theorem dec18_fn : FnOK Try.prog 44 dec18C := fnOK_mk T mixed Try.func44 (by kernel_rfl) (fns := []) (lps := []) (live := []) (out := []) (fuel := 0) (give := (fun _ => false)) trivial trivial dec18_he

/-! ### ref13.Decode -/
def dec13L : List V → Mem → (X → List V → Mem → R) → R := lpC 37 [0, 13] fun vs m κ => match vs with
  | [.o (.p (.int .i64 d)), .o (.p (.int .i64 0))] => cond (decide (0 ≤ d ∧ d < 1024)) (κ .ret (lay 37 [2, 3] [.o (.p (.int .i64 (decI d))), .o (.p (.int .i64 0))]) []) none
  | _ => none
def dec13E : Env := mkE ty [(49, enc13C)] [(0, dec13L)] [(0, [0, 13])] [(0, [2, 3])] 0 (fun _ => false)
def dec13St (d i : Int) : List V := lay 37 [0, 13] [.o (.p (.int .i64 d)), .o (.p (.int .i64 i))]
theorem dec13_round (d i : Int) (k : Nat) (m : Mem) (κ : X → List V → Mem → R) : lx dec13E Try.f51 0 (k + 1) (dec13St d i) m κ =
    cond (decide (i < 1000))
      (cond (within i 999 (encI i) 0 == d)
        (κ .ret (lay 37 [2, 3] [.o (.p (.int .i64 i)), .o (.p (.int .i64 0))]) [])
        (cond (bits .and .i64 d 110 == 110)
          (cond (within i 999 (encI i) 0 == bits .and .i64 d 255)
            (κ .ret (lay 37 [2, 3] [.o (.p (.int .i64 i)), .o (.p (.int .i64 0))]) [])
            (lx dec13E Try.f51 0 k (dec13St d (IntKind.i64.wrap (i + 1))) [] κ))
          (lx dec13E Try.f51 0 k (dec13St d (IntKind.i64.wrap (i + 1))) [] κ)))
      (κ (.exit 0) (lay 37 [] []) []) := by kernel_rfl
def hitB (m : Nat) : Bool := Nat.blt (decP m) 1000 && (encP (decP m) == m || (bits .and .i64 (m : Int) 110 == 110 && (encP (decP m) : Int) == bits .and .i64 (m : Int) 255)) &&
  (!(bits .and .i64 (m : Int) 110 == 110) || decP (bits .and .i64 (m : Int) 255).toNat == decP m)
theorem hits : ((List.range 1024).all hitB) = true := by kernel_rfl
theorem backs : ((List.range 1000).all fun i => decP (encP i) == i) = true := by kernel_rfl
theorem back {i : Nat} (h : i < 1000) : decP (encP i) = i := by simpa using List.all_eq_true.mp backs i (List.mem_range.mpr h)
theorem within_in {n h a b : Int} (h0 : 0 ≤ n) (h1 : n ≤ h) : within n h a b = a := by
  unfold within
  rw [decide_eq_false (by omega), cond_false, decide_eq_false (by omega), cond_false]
theorem dec13_run {d : Nat} (hd : d < 1024) (m : Mem) (κ : X → List V → Mem → R) : ∀ (j i : Nat), i + j = decP d → lx dec13E Try.f51 0 (j + 1) (dec13St d i) m κ = κ .ret (lay 37 [2, 3] [.o (.p (.int .i64 (decP d))), .o (.p (.int .i64 0))]) [] := by
  have hh := List.all_eq_true.mp hits d (List.mem_range.mpr hd)
  unfold hitB at hh
  simp only [Bool.and_eq_true, Bool.or_eq_true, Nat.blt_eq, beq_iff_eq, Bool.not_eq_true', beq_eq_false_iff_ne, ne_eq] at hh
  obtain ⟨⟨h1, h2⟩, h3⟩ := hh
  intro j
  induction j generalizing m with
  | zero =>
    intro i hi
    obtain rfl : i = decP d := by omega
    rw [dec13_round, decide_eq_true (by omega), cond_true, within_in (by omega) (by omega)]
    have e : encI (decP d : Nat) = encP (decP d) := rfl
    rw [e]
    rcases h2 with h2 | ⟨h2, h4⟩
    · rw [h2, beq_self_eq_true, cond_true]
    · rw [h2, beq_self_eq_true, cond_true, ← h4, beq_self_eq_true, cond_true]
      cases (((encP (decP d) : Nat) : Int) == (d : Int)) <;> rfl
  | succ j ih =>
    intro i hi
    rw [dec13_round, decide_eq_true (by omega), cond_true, within_in (by omega) (by omega)]
    have e : encI (i : Nat) = encP i := rfl
    have b := back (i := i) (by omega)
    have w : IntKind.i64.wrap ((i : Int) + 1) = ((i + 1 : Nat) : Int) := by
      rw [i64_wrap (by omega) (by omega)]; rfl
    have n1 : (((encP i : Nat) : Int) == (d : Int)) = false := by
      rw [beq_eq_false_iff_ne]
      intro h
      have h : encP i = d := by omega
      rw [h] at b
      omega
    rw [e, n1, cond_false, w]
    by_cases h5 : bits .and .i64 (d : Int) 110 = 110
    · have n2 : (((encP i : Nat) : Int) == bits .and .i64 (d : Int) 255) = false := by
        rw [beq_eq_false_iff_ne]
        intro h
        rw [← h] at h3
        rcases h3 with h3 | h3
        · exact h3 h5
        · rw [Int.toNat_natCast, b] at h3
          omega
      rw [h5, beq_self_eq_true, cond_true, n2, cond_false]
      exact ih [] (i + 1) (by omega)
    · rw [beq_eq_false_iff_ne.mpr h5, cond_false]
      exact ih [] (i + 1) (by omega)
theorem dec13L_ok : LoopOK dec13E 0 (lbody Try.f51 0) dec13L := loopOK_lx fun vs m κ r hv hm h => by
  split at h
  case h_2 => cases h
  rename_i d
  replace h := cond_none h
  obtain ⟨hc, h⟩ := h
  obtain ⟨h1, h2⟩ := of_decide_eq_true hc
  obtain ⟨e, rfl⟩ : ∃ e : Nat, d = e := ⟨d.toNat, by omega⟩
  exact ⟨_, (dec13_run (d := e) (by omega) m κ (decP e) 0 (by omega)).trans h⟩
theorem dec13_ev (d : Int) : evFn dec13E Try.f51 [.p (.int .i64 d)] = cond (decide (d < 0)) (some [(.mine, .p (.int .i64 0)), (.mine, .p (.int .i64 3))]) (cond (decide (d > 1023)) (some [(.mine, .p (.int .i64 0)), (.mine, .p (.int .i64 3))])
    (cond (decide (0 ≤ d ∧ d < 1024)) (some [(.mine, .p (.int .i64 (decI d))), (.mine, .p (.int .i64 0))]) none)) := by kernel_rfl
theorem dec13_he : ∀ ds κ r, (∀ d ∈ ds, d.wf) → twoC decI 1023 ds κ = some r → ∃ res, κ res = some r ∧ evFn dec13E Try.f51 ds = some res := fun ds κ r hw hr => by
  unfold twoC at hr
  split at hr
  case h_2 => cases hr
  rename_i n
  refine ⟨_, hr, ?_⟩
  rw [dec13_ev]
  unfold within
  by_cases h0 : n < 0
  · rw [decide_eq_true h0, cond_true, cond_true, cond_true]
  · rw [decide_eq_false h0, cond_false, cond_false, cond_false]
    by_cases h1 : n > 1023
    · rw [decide_eq_true h1, cond_true, cond_true, cond_true]
    · rw [decide_eq_false h1, cond_false, cond_false, cond_false, decide_eq_true (by omega), cond_true]
abbrev dec13C : FnC := twoC decI 1023
theorem dec13_fn : FnOK Try.prog 51 dec13C := fnOK_mk T mixed Try.func51 (by kernel_rfl) (fns := [(49, enc13C)]) (lps := [(0, dec13L)]) (live := [(0, [0, 13])]) (out := [(0, [2, 3])]) (fuel := 0) (give := (fun _ => false)) ⟨enc13_fn, trivial⟩ ⟨dec13L_ok, trivial⟩ dec13_he

/-! ### Canonical, awake, the law -/
def awake13E : Env := mkE ty [(37, enc18C)] [] [] [] 0 (fun _ => false)
def awake13C : FnC := fun ds κ => match ds with
  | [] => κ [(.mine, .p (.bool true))]
  | _ => none
theorem awake13_ev : evFn awake13E Try.f14 [] = some [(.mine, .p (.bool true))] := by kernel_rfl
theorem awake13_he : ∀ ds κ r, (∀ d ∈ ds, d.wf) → awake13C ds κ = some r → ∃ res, κ res = some r ∧ evFn awake13E Try.f14 ds = some res := fun ds κ r hw h => by
  unfold awake13C at h
  split at h
  case h_2 => cases h
  exact ⟨_, h, awake13_ev⟩
theorem awake13_fn : FnOK Try.prog 14 awake13C := fnOK_mk T mixed Try.func14 (by kernel_rfl) (fns := [(37, enc18C)]) (lps := []) (live := []) (out := []) (fuel := 0) (give := (fun _ => false)) ⟨enc18_fn, trivial⟩ trivial awake13_he
end
end Go.Proofs.Ythilpmchdeolnaa.Vm
