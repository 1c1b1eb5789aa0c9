/-
  Quotients by many words: Knuth's algorithm D (package nat). No statement is proved here.
-/
import Derived.Test.YtcglfmldodhakaaCalN3
namespace Go.Proofs.Ytcglfmldodhakaa.Vm
open Go Go.Vm
noncomputable section
set_option linter.unusedVariables false

/-- The guess, made less. -/
def adj (b1 b2 u2 : Nat) : Nat → Nat → Nat
  | 0, _ => 0
  | g + 1, r => if (g + 1) * b2 ≤ r * 18446744073709551616 + u2 then g + 1 else if 18446744073709551616 ≤ r + b1 then g else adj b1 b2 u2 g (r + b1)
abbrev gL2 (C : Int → Int → Nat → Nat → Bool) (A : List Int → List Int → Int → Nat → Int → Int → Int) : LpC := lpC 243 [1, 6, 7, 8, 9, 10, 11] fun vs m κ => match vs, m with
  | [.o (.f 0), .o (.p (.int .i64 n)), .o (.f 1), .o (.f 2), .o (.p (.int .i64 j)), .o (.p (.int .u64 g)), .o (.p (.int .u64 r))], [(o, .w .u64 nb bs), (.mine, .w .u64 nu us), (.mine, .w .u64 nq qs)] =>
    cond (C n j nb nu) (κ (.exit 2) (lay 243 [1, 6, 7, 8, 9, 10] [.o (.f 0), .o (.p (.int .i64 n)), .o (.f 1), .o (.f 2), .o (.p (.int .i64 j)), .o (.p (.int .u64 (A bs us j nb g r)))]) [(o, .w .u64 nb bs), (.mine, .w .u64 nu us), (.mine, .w .u64 nq qs)]) none
  | _, _ => none
abbrev gL4 (C : Int → Int → Int → Int → Int → Nat → Nat → Bool) (P : List Int → Int → Nat → Int) (B : List Int → List Int → Int → Int → Nat → Int) (A : List Int → List Int → Int → Int → Nat → List Int) : LpC := lpC 243 [1, 6, 7, 8, 9, 10, 15, 16, 121, 122, 123] fun vs m κ => match vs, m with
  | [.o (.f 0), .o (.p (.int .i64 n)), .o (.f 1), .o (.f 2), .o (.p (.int .i64 j)), .o (.p (.int .u64 g)), .o (.p (.int .u64 c)), .o (.p (.int .u64 b)), .o (.f 0), .o (.p (.int .i64 l)), .o (.p (.int .i64 i))], [(o, .w .u64 nb bs), (.mine, .w .u64 nu us), (.mine, .w .u64 nq qs)] =>
    cond (C c b l i j nb nu)
      (κ (.exit 4) (lay 243 [1, 6, 7, 8, 9, 10, 15, 16] [.o (.f 0), .o (.p (.int .i64 n)), .o (.f 1), .o (.f 2), .o (.p (.int .i64 j)), .o (.p (.int .u64 g)), .o (.p (.int .u64 (P bs g nb))), .o (.p (.int .u64 (B bs us j g nb)))])
        [(o, .w .u64 nb bs), (.mine, .w .u64 nu (A bs us j g nb)), (.mine, .w .u64 nq qs)]) none
  | _, _ => none
abbrev gL6 (C : Int → Int → Int → Nat → Nat → List Int → List Int → Int → Bool) (G : List Int → List Int → Int → Int → Int → Int) (A : List Int → List Int → Int → Int → Int → Nat → List Int) : LpC := lpC 243 [1, 6, 7, 8, 9, 10, 16] fun vs m κ => match vs, m with
  | [.o (.f 0), .o (.p (.int .i64 n)), .o (.f 1), .o (.f 2), .o (.p (.int .i64 j)), .o (.p (.int .u64 g)), .o (.p (.int .u64 b))], [(o, .w .u64 nb bs), (.mine, .w .u64 nu us), (.mine, .w .u64 nq qs)] =>
    cond (C n j b nb nu bs us g) (κ (.exit 6) (lay 243 [1, 6, 7, 8, 9, 10] [.o (.f 0), .o (.p (.int .i64 n)), .o (.f 1), .o (.f 2), .o (.p (.int .i64 j)), .o (.p (.int .u64 (G bs us j g b)))]) [(o, .w .u64 nb bs), (.mine, .w .u64 nu (A bs us j g b nb)), (.mine, .w .u64 nq qs)]) none
  | _, _ => none
def c2 (n j : Int) (nb nu : Nat) : Bool := decide (n = (nb : Int) ∧ 2 ≤ nb ∧ 0 ≤ j ∧ j + n < (nu : Int))
def a2 (bs us : List Int) (j : Int) (nb : Nat) (g r : Int) : Int := ((adj (bs.getD (nb - 1) 0).toNat (bs.getD (nb - 2) 0).toNat (us.getD (j.toNat + nb - 2) 0).toNat g.toNat r.toNat : Nat) : Int)
abbrev longL2 : LpC := gL2 c2 a2
def c4 (c b l i j : Int) (nb nu : Nat) : Bool := decide (c = 0 ∧ b = 0 ∧ l = (nb : Int) ∧ i = 0 ∧ 0 ≤ j ∧ j + (nb : Int) < (nu : Int))
def p4 (bs : List Int) (g : Int) (nb : Nat) : Int := ((g.toNat * val bs / 18446744073709551616 ^ nb : Nat) : Int)
def b4 (bs us : List Int) (j g : Int) (nb : Nat) : Int := if val ((us.drop j.toNat).take nb) < g.toNat * val bs % 18446744073709551616 ^ nb then 1 else 0
def a4 (bs us : List Int) (j g : Int) (nb : Nat) : List Int := us.take j.toNat ++ wordsN nb (val ((us.drop j.toNat).take nb) + (18446744073709551616 ^ nb - g.toNat * val bs % 18446744073709551616 ^ nb)) ++ us.drop (j.toNat + nb)
abbrev longL4 : LpC := gL4 c4 p4 b4 a4
def longL8 : LpC := lpC 243 [1, 6, 7, 8, 9, 10, 16, 22, 182, 183, 184] fun vs m κ => match vs, m with
  | [.o (.f 0), .o (.p (.int .i64 n)), .o (.f 1), .o (.f 2), .o (.p (.int .i64 j)), .o (.p (.int .u64 g)), .o (.p (.int .u64 b)), .o (.p (.int .u64 c)), .o (.f 0), .o (.p (.int .i64 l)), .o (.p (.int .i64 i))], [(o, .w .u64 nb bs), (.mine, .w .u64 nu us), (.mine, .w .u64 nq qs)] =>
    cond (decide (c = 0 ∧ l = (nb : Int) ∧ i = 0 ∧ 0 ≤ j ∧ j + (nb : Int) < (nu : Int)))
      (κ (.exit 8) (lay 243 [1, 6, 7, 8, 9, 10, 16, 22] [.o (.f 0), .o (.p (.int .i64 n)), .o (.f 1), .o (.f 2), .o (.p (.int .i64 j)), .o (.p (.int .u64 g)), .o (.p (.int .u64 b)), .o (.p (.int .u64 (((val ((us.drop j.toNat).take nb) + val bs) / 18446744073709551616 ^ nb : Nat) : Int)))])
        [(o, .w .u64 nb bs), (.mine, .w .u64 nu (us.take j.toNat ++ wordsN nb (val ((us.drop j.toNat).take nb) + val bs) ++ us.drop (j.toNat + nb))), (.mine, .w .u64 nq qs)]) none
  | _, _ => none
/-- What the window at j stands for, over what is borrowed. -/
def winU (bs us : List Int) (j : Nat) (g b : Int) : Nat := val ((us.drop j).take (bs.length + 1)) + g.toNat * val bs - b.toNat * 18446744073709551616 ^ (bs.length + 1)
def c6 (n j b : Int) (nb nu : Nat) (bs us : List Int) (g : Int) : Bool := decide (n = (nb : Int) ∧ 0 ≤ j ∧ j + n < (nu : Int) ∧ b ≤ 1 ∧ 0 < val bs ∧ b.toNat * 18446744073709551616 ^ (bs.length + 1) ≤ val ((us.drop j.toNat).take (bs.length + 1)) + g.toNat * val bs ∧ winU bs us j.toNat g b / val bs ≤ g.toNat)
def g6 (bs us : List Int) (j g b : Int) : Int := ((winU bs us j.toNat g b / val bs : Nat) : Int)
def a6 (bs us : List Int) (j g b : Int) (nb : Nat) : List Int := us.take j.toNat ++ wordsN (nb + 1) (winU bs us j.toNat g b % val bs) ++ us.drop (j.toNat + nb + 1)
abbrev longL6 : LpC := gL6 c6 g6 a6
def longL : LpC := lpC 243 [1, 6, 7, 8, 9] fun vs m κ => match vs, m with
  | [.o (.f 0), .o (.p (.int .i64 n)), .o (.f 1), .o (.f 2), .o (.p (.int .i64 j))], [(o, .w .u64 nb bs), (.mine, .w .u64 nu us), (.mine, .w .u64 nq qs)] =>
    cond (decide (n = (nb : Int) ∧ 2 ≤ nb ∧ j + 1 = (nq : Int) ∧ (nq = 0 ∨ nq + nb = nu) ∧ wlen (val bs) = nb ∧ val qs = 0 ∧ val us < val bs * 18446744073709551616 ^ nq))
      (κ (.exit 0) (lay 243 [6, 7, 8] [.o (.p (.int .i64 n)), .o (.f 0), .o (.f 1)]) [(.mine, .w .u64 nu (wordsN nu (val us % val bs))), (.mine, .w .u64 nq (wordsN nq (val us / val bs)))]) none
  | _, _ => none
def longE : Env := mkE ty [(58, cloneC), (82, div64C), (47, mul64C), (48, add64C), (67, sub64C), (59, nSizeC)] [(0, longL), (2, longL2), (4, longL4), (6, longL6), (8, longL8)] [(0, [1, 6, 7, 8, 9]), (2, [1, 6, 7, 8, 9, 10, 11]), (4, [1, 6, 7, 8, 9, 10, 15, 16, 121, 122, 123]), (6, [1, 6, 7, 8, 9, 10, 16]), (8, [1, 6, 7, 8, 9, 10, 16, 22, 182, 183, 184])] [(0, [6, 7, 8]), (2, [1, 6, 7, 8, 9, 10]), (4, [1, 6, 7, 8, 9, 10, 15, 16]), (6, [1, 6, 7, 8, 9, 10]), (8, [1, 6, 7, 8, 9, 10, 16, 22])] 0 (fun _ => false)
def longSt (n j : Int) : List V := lay 243 [1, 6, 7, 8, 9] [.o (.f 0), .o (.p (.int .i64 n)), .o (.f 1), .o (.f 2), .o (.p (.int .i64 j))]
def longSt2 (n j g r : Int) : List V := lay 243 [1, 6, 7, 8, 9, 10, 11] [.o (.f 0), .o (.p (.int .i64 n)), .o (.f 1), .o (.f 2), .o (.p (.int .i64 j)), .o (.p (.int .u64 g)), .o (.p (.int .u64 r))]
def longSt4 (n j g c b l i : Int) : List V := lay 243 [1, 6, 7, 8, 9, 10, 15, 16, 121, 122, 123] [.o (.f 0), .o (.p (.int .i64 n)), .o (.f 1), .o (.f 2), .o (.p (.int .i64 j)), .o (.p (.int .u64 g)), .o (.p (.int .u64 c)), .o (.p (.int .u64 b)), .o (.f 0), .o (.p (.int .i64 l)), .o (.p (.int .i64 i))]
def longSt6 (n j g b : Int) : List V := lay 243 [1, 6, 7, 8, 9, 10, 16] [.o (.f 0), .o (.p (.int .i64 n)), .o (.f 1), .o (.f 2), .o (.p (.int .i64 j)), .o (.p (.int .u64 g)), .o (.p (.int .u64 b))]
def longSt8 (n j g b c l i : Int) : List V := lay 243 [1, 6, 7, 8, 9, 10, 16, 22, 182, 183, 184] [.o (.f 0), .o (.p (.int .i64 n)), .o (.f 1), .o (.f 2), .o (.p (.int .i64 j)), .o (.p (.int .u64 g)), .o (.p (.int .u64 b)), .o (.p (.int .u64 c)), .o (.f 0), .o (.p (.int .i64 l)), .o (.p (.int .i64 i))]
theorem long_round2 (n j g r : Int) (o : Own) (nb nu nq : Nat) (bs us qs : List Int) (f : Nat) (κ : X → List V → Mem → R) : lx longE Try.f90 2 (f + 1) (longSt2 n j g r) [(o, .w .u64 nb bs), (.mine, .w .u64 nu us), (.mine, .w .u64 nq qs)] κ =
    (cond (decide ((0 : Int) ≤ IntKind.i64.wrap (n - (2 : Int)) ∧ IntKind.i64.wrap (n - (2 : Int)) < (↑nb : Int)))
     (cond (decide ((IntKind.i64.wrap (n - (2 : Int))).toNat < nb))
      (cond (decide (g * bs.getD (IntKind.i64.wrap (n - (2 : Int))).toNat (0 : Int) / (18446744073709551616 : Int) < r))
       (κ (.exit 2) (lay 243 [1, 6, 7, 8, 9, 10] [.o (.f 0), .o (.p (.int .i64 (n))), .o (.f 1), .o (.f 2), .o (.p (.int .i64 (j))), .o (.p (.int .u64 (g)))]) [(o, .w .u64 (nb) (bs)), (.mine, .w .u64 (nu) (us)), (.mine, .w .u64 (nq) (qs))])
       (cond (g * bs.getD (IntKind.i64.wrap (n - (2 : Int))).toNat (0 : Int) / (18446744073709551616 : Int) == r)
        (cond (decide
      ((0 : Int) ≤ IntKind.i64.wrap (IntKind.i64.wrap (j + n) - (2 : Int)) ∧
        IntKind.i64.wrap (IntKind.i64.wrap (j + n) - (2 : Int)) < (↑nu : Int)))
         (cond (decide ((IntKind.i64.wrap (IntKind.i64.wrap (j + n) - (2 : Int))).toNat < nu))
          (cond (decide
      (g * bs.getD (IntKind.i64.wrap (n - (2 : Int))).toNat (0 : Int) % (18446744073709551616 : Int) ≤
        us.getD (IntKind.i64.wrap (IntKind.i64.wrap (j + n) - (2 : Int))).toNat (0 : Int)))
           (κ (.exit 2) (lay 243 [1, 6, 7, 8, 9, 10] [.o (.f 0), .o (.p (.int .i64 (n))), .o (.f 1), .o (.f 2), .o (.p (.int .i64 (j))), .o (.p (.int .u64 (g)))]) [(o, .w .u64 (nb) (bs)), (.mine, .w .u64 (nu) (us)), (.mine, .w .u64 (nq) (qs))])
           (cond (decide ((0 : Int) ≤ IntKind.i64.wrap (n - (1 : Int)) ∧ IntKind.i64.wrap (n - (1 : Int)) < (↑nb : Int)))
            (cond (decide ((IntKind.i64.wrap (n - (1 : Int))).toNat < nb))
             (cond (decide
      ((r + bs.getD (IntKind.i64.wrap (n - (1 : Int))).toNat (0 : Int) + (0 : Int)) / (18446744073709551616 : Int) >
        (0 : Int)))
              (κ (.exit 2) (lay 243 [1, 6, 7, 8, 9, 10] [.o (.f 0), .o (.p (.int .i64 (n))), .o (.f 1), .o (.f 2), .o (.p (.int .i64 (j))), .o (.p (.int .u64 (IntKind.u64.wrap (g - (1 : Int)))))]) [(o, .w .u64 (nb) (bs)), (.mine, .w .u64 (nu) (us)), (.mine, .w .u64 (nq) (qs))])
              (lx longE Try.f90 2 f (lay 243 [1, 6, 7, 8, 9, 10, 11] [.o (.f 0), .o (.p (.int .i64 (n))), .o (.f 1), .o (.f 2), .o (.p (.int .i64 (j))), .o (.p (.int .u64 (IntKind.u64.wrap (g - (1 : Int))))), .o (.p (.int .u64 ((r + bs.getD (IntKind.i64.wrap (n - (1 : Int))).toNat (0 : Int) + (0 : Int)) % (18446744073709551616 : Int))))]) [(o, .w .u64 (nb) (bs)), (.mine, .w .u64 (nu) (us)), (.mine, .w .u64 (nq) (qs))] κ))
             none)
            none))
          none)
         none)
        (cond (decide ((0 : Int) ≤ IntKind.i64.wrap (n - (1 : Int)) ∧ IntKind.i64.wrap (n - (1 : Int)) < (↑nb : Int)))
         (cond (decide ((IntKind.i64.wrap (n - (1 : Int))).toNat < nb))
          (cond (decide
      ((r + bs.getD (IntKind.i64.wrap (n - (1 : Int))).toNat (0 : Int) + (0 : Int)) / (18446744073709551616 : Int) >
        (0 : Int)))
           (κ (.exit 2) (lay 243 [1, 6, 7, 8, 9, 10] [.o (.f 0), .o (.p (.int .i64 (n))), .o (.f 1), .o (.f 2), .o (.p (.int .i64 (j))), .o (.p (.int .u64 (IntKind.u64.wrap (g - (1 : Int)))))]) [(o, .w .u64 (nb) (bs)), (.mine, .w .u64 (nu) (us)), (.mine, .w .u64 (nq) (qs))])
           (lx longE Try.f90 2 f (lay 243 [1, 6, 7, 8, 9, 10, 11] [.o (.f 0), .o (.p (.int .i64 (n))), .o (.f 1), .o (.f 2), .o (.p (.int .i64 (j))), .o (.p (.int .u64 (IntKind.u64.wrap (g - (1 : Int))))), .o (.p (.int .u64 ((r + bs.getD (IntKind.i64.wrap (n - (1 : Int))).toNat (0 : Int) + (0 : Int)) % (18446744073709551616 : Int))))]) [(o, .w .u64 (nb) (bs)), (.mine, .w .u64 (nu) (us)), (.mine, .w .u64 (nq) (qs))] κ))
          none)
         none)))
      none)
     none) := by kernel_rfl
theorem long_round4 (n j g c b l i : Int) (o : Own) (nb nu nq : Nat) (bs us qs : List Int) (f : Nat) (κ : X → List V → Mem → R) : lx longE Try.f90 4 (f + 1) (longSt4 n j g c b l i) [(o, .w .u64 nb bs), (.mine, .w .u64 nu us), (.mine, .w .u64 nq qs)] κ =
    (cond (decide (i < l))
     (cond (decide ((0 : Int) ≤ i ∧ i < (↑nb : Int)))
      (cond (decide (i.toNat < nb))
       (cond (decide ((0 : Int) ≤ IntKind.i64.wrap (j + i) ∧ IntKind.i64.wrap (j + i) < (↑nu : Int)))
        (cond (decide ((IntKind.i64.wrap (j + i)).toNat < nu))
         (cond (decide (b ≤ (1 : Int)))
          (cond (decide ((0 : Int) ≤ IntKind.i64.wrap (j + i) ∧ IntKind.i64.wrap (j + i) < (↑nu : Int)))
           (cond (decide ((IntKind.i64.wrap (j + i)).toNat < nu ∧ IntKind.u64 = IntKind.u64 ∧ 1 = 1))
            (lx longE Try.f90 4 f (lay 243 [1, 6, 7, 8, 9, 10, 15, 16, 121, 122, 123] [.o (.f 0), .o (.p (.int .i64 (n))), .o (.f 1), .o (.f 2), .o (.p (.int .i64 (j))), .o (.p (.int .u64 (g))), .o (.p (.int .u64 (IntKind.u64.wrap
      (g * bs.getD i.toNat (0 : Int) / (18446744073709551616 : Int) +
        (g * bs.getD i.toNat (0 : Int) % (18446744073709551616 : Int) + c + (0 : Int)) / (18446744073709551616 : Int))))), .o (.p (.int .u64 (-((us.getD (IntKind.i64.wrap (j + i)).toNat (0 : Int) -
            (g * bs.getD i.toNat (0 : Int) % (18446744073709551616 : Int) + c + (0 : Int)) % (18446744073709551616 : Int) -
          b) /
        (18446744073709551616 : Int))))), .o (.f 0), .o (.p (.int .i64 (l))), .o (.p (.int .i64 (IntKind.i64.wrap (i + (1 : Int)))))]) [(o, .w .u64 (nb) (bs)), (.mine, .w .u64 (nu) (us.set (IntKind.i64.wrap (j + i)).toNat
      ((us.getD (IntKind.i64.wrap (j + i)).toNat (0 : Int) -
            (g * bs.getD i.toNat (0 : Int) % (18446744073709551616 : Int) + c + (0 : Int)) % (18446744073709551616 : Int) -
          b) %
        (18446744073709551616 : Int)))), (.mine, .w .u64 (nq) (qs))] κ)
            none)
           none)
          none)
         none)
        none)
       none)
      none)
     (κ (.exit 4) (lay 243 [1, 6, 7, 8, 9, 10, 15, 16] [.o (.f 0), .o (.p (.int .i64 (n))), .o (.f 1), .o (.f 2), .o (.p (.int .i64 (j))), .o (.p (.int .u64 (g))), .o (.p (.int .u64 (c))), .o (.p (.int .u64 (b)))]) [(o, .w .u64 (nb) (bs)), (.mine, .w .u64 (nu) (us)), (.mine, .w .u64 (nq) (qs))])) := by kernel_rfl
theorem long_round8 (n j g b c l i : Int) (o : Own) (nb nu nq : Nat) (bs us qs : List Int) (f : Nat) (κ : X → List V → Mem → R) : lx longE Try.f90 8 (f + 1) (longSt8 n j g b c l i) [(o, .w .u64 nb bs), (.mine, .w .u64 nu us), (.mine, .w .u64 nq qs)] κ =
    (cond (decide (i < l))
     (cond (decide ((0 : Int) ≤ i ∧ i < (↑nb : Int)))
      (cond (decide (i.toNat < nb))
       (cond (decide ((0 : Int) ≤ IntKind.i64.wrap (j + i) ∧ IntKind.i64.wrap (j + i) < (↑nu : Int)))
        (cond (decide ((IntKind.i64.wrap (j + i)).toNat < nu))
         (cond (decide (c ≤ (1 : Int)))
          (cond (decide ((0 : Int) ≤ IntKind.i64.wrap (j + i) ∧ IntKind.i64.wrap (j + i) < (↑nu : Int)))
           (cond (decide ((IntKind.i64.wrap (j + i)).toNat < nu ∧ IntKind.u64 = IntKind.u64 ∧ 1 = 1))
            (lx longE Try.f90 8 f (lay 243 [1, 6, 7, 8, 9, 10, 16, 22, 182, 183, 184] [.o (.f 0), .o (.p (.int .i64 (n))), .o (.f 1), .o (.f 2), .o (.p (.int .i64 (j))), .o (.p (.int .u64 (g))), .o (.p (.int .u64 (b))), .o (.p (.int .u64 ((us.getD (IntKind.i64.wrap (j + i)).toNat (0 : Int) + bs.getD i.toNat (0 : Int) + c) / (18446744073709551616 : Int)))), .o (.f 0), .o (.p (.int .i64 (l))), .o (.p (.int .i64 (IntKind.i64.wrap (i + (1 : Int)))))]) [(o, .w .u64 (nb) (bs)), (.mine, .w .u64 (nu) (us.set (IntKind.i64.wrap (j + i)).toNat
      ((us.getD (IntKind.i64.wrap (j + i)).toNat (0 : Int) + bs.getD i.toNat (0 : Int) + c) % (18446744073709551616 : Int)))), (.mine, .w .u64 (nq) (qs))] κ)
            none)
           none)
          none)
         none)
        none)
       none)
      none)
     (κ (.exit 8) (lay 243 [1, 6, 7, 8, 9, 10, 16, 22] [.o (.f 0), .o (.p (.int .i64 (n))), .o (.f 1), .o (.f 2), .o (.p (.int .i64 (j))), .o (.p (.int .u64 (g))), .o (.p (.int .u64 (b))), .o (.p (.int .u64 (c)))]) [(o, .w .u64 (nb) (bs)), (.mine, .w .u64 (nu) (us)), (.mine, .w .u64 (nq) (qs))])) := by kernel_rfl
theorem long_round6 (n j g b : Int) (o : Own) (nb nu nq : Nat) (bs us qs : List Int) (f : Nat) (κ : X → List V → Mem → R) : lx longE Try.f90 6 (f + 1) (longSt6 n j g b) [(o, .w .u64 nb bs), (.mine, .w .u64 nu us), (.mine, .w .u64 nq qs)] κ =
    (cond (decide (b > (0 : Int)))
     (cond (decide
      ((0 : Int) = (0 : Int) ∧
        (↑nb : Int) = (↑nb : Int) ∧ (0 : Int) = (0 : Int) ∧ (0 : Int) ≤ j ∧ j + (↑nb : Int) < (↑nu : Int)))
      (cond (decide ((0 : Int) ≤ IntKind.i64.wrap (j + n) ∧ IntKind.i64.wrap (j + n) < (↑nu : Int)))
       (cond (decide ((IntKind.i64.wrap (j + n)).toNat < nu))
        (cond (decide ((↑((val (List.take nb (List.drop j.toNat us)) + val bs) / 18446744073709551616 ^ nb) : Int) ≤ (1 : Int)))
         (cond (decide ((0 : Int) ≤ IntKind.i64.wrap (j + n) ∧ IntKind.i64.wrap (j + n) < (↑nu : Int)))
          (cond (decide ((IntKind.i64.wrap (j + n)).toNat < nu ∧ IntKind.u64 = IntKind.u64 ∧ 1 = 1))
           (lx longE Try.f90 6 f (lay 243 [1, 6, 7, 8, 9, 10, 16] [.o (.f 0), .o (.p (.int .i64 (n))), .o (.f 1), .o (.f 2), .o (.p (.int .i64 (j))), .o (.p (.int .u64 (IntKind.u64.wrap (g - (1 : Int))))), .o (.p (.int .u64 (IntKind.u64.wrap
      (b -
        ((List.take j.toNat us ++ wordsN nb (val (List.take nb (List.drop j.toNat us)) + val bs) ++
                    List.drop (j.toNat + nb) us).getD
                (IntKind.i64.wrap (j + n)).toNat (0 : Int) +
              (0 : Int) +
            (↑((val (List.take nb (List.drop j.toNat us)) + val bs) / 18446744073709551616 ^ nb) : Int)) /
          (18446744073709551616 : Int)))))]) [(o, .w .u64 (nb) (bs)), (.mine, .w .u64 (nu) ((List.take j.toNat us ++ wordsN nb (val (List.take nb (List.drop j.toNat us)) + val bs) ++
          List.drop (j.toNat + nb) us).set
      (IntKind.i64.wrap (j + n)).toNat
      (((List.take j.toNat us ++ wordsN nb (val (List.take nb (List.drop j.toNat us)) + val bs) ++
                  List.drop (j.toNat + nb) us).getD
              (IntKind.i64.wrap (j + n)).toNat (0 : Int) +
            (0 : Int) +
          (↑((val (List.take nb (List.drop j.toNat us)) + val bs) / 18446744073709551616 ^ nb) : Int)) %
        (18446744073709551616 : Int)))), (.mine, .w .u64 (nq) (qs))] κ)
           none)
          none)
         none)
        none)
       none)
      none)
     (κ (.exit 6) (lay 243 [1, 6, 7, 8, 9, 10] [.o (.f 0), .o (.p (.int .i64 (n))), .o (.f 1), .o (.f 2), .o (.p (.int .i64 (j))), .o (.p (.int .u64 (g)))]) [(o, .w .u64 (nb) (bs)), (.mine, .w .u64 (nu) (us)), (.mine, .w .u64 (nq) (qs))])) := by kernel_rfl
/-- One digit, of a guess. -/
def longK (C4 : Int → Int → Int → Int → Int → Nat → Nat → Bool) (P : List Int → Int → Nat → Int) (B : List Int → List Int → Int → Int → Nat → Int) (A4 : List Int → List Int → Int → Int → Nat → List Int)
    (C6 : Int → Int → Int → Nat → Nat → List Int → List Int → Int → Bool) (G : List Int → List Int → Int → Int → Int → Int) (A6 : List Int → List Int → Int → Int → Int → Nat → List Int)
    (n j g : Int) (nb nu nq : Nat) (bs us qs : List Int) (k : List Int → List Int → R) : R :=
  let J := IntKind.i64.wrap (j + n)
  let x := (A4 bs us j g nb).getD J.toNat 0 - P bs g nb - B bs us j g nb
  let us5 := (A4 bs us j g nb).set J.toNat (x % 18446744073709551616)
  let b5 := -(x / 18446744073709551616)
  cond (C4 0 0 (nb : Int) 0 j nb nu)
    (cond (decide (0 ≤ J ∧ J < (nu : Int))) (cond (decide (J.toNat < nu)) (cond (decide (B bs us j g nb ≤ 1)) (cond (decide (0 ≤ J ∧ J < (nu : Int))) (cond (decide (J.toNat < nu ∧ IntKind.u64 = IntKind.u64 ∧ (Ty.i .u64).size = 1))
      (cond (C6 n j b5 nb nu bs us5 g)
        (cond (decide (0 ≤ j ∧ j < (nq : Int))) (cond (decide (j.toNat < nq ∧ IntKind.u64 = IntKind.u64 ∧ (Ty.i .u64).size = 1))
          (k (A6 bs us5 j g b5 nb) (qs.set j.toNat (G bs us5 j g b5))) none) none) none) none) none) none) none) none) none
def longT (C2 : Int → Int → Nat → Nat → Bool) (A2 : List Int → List Int → Int → Nat → Int → Int → Int) (K : Int → R) (n j : Int) (nb nu : Nat) (bs us : List Int) (ex : R) : R :=
    let J := IntKind.i64.wrap (j + n)
    let N1 := IntKind.i64.wrap (n - 1)
    let J1 := IntKind.i64.wrap (J - 1)
    let hi := us.getD J.toNat 0
    let y := bs.getD N1.toNat 0
    let lo := us.getD J1.toNat 0
    cond (decide (j ≥ 0))
      (cond (decide (0 ≤ J ∧ J < (nu : Int))) (cond (decide (J.toNat < nu)) (cond (decide (0 ≤ N1 ∧ N1 < (nb : Int))) (cond (decide (N1.toNat < nb))
        (cond (decide (hi < y))
          (cond (decide (0 ≤ J ∧ J < (nu : Int))) (cond (decide (J.toNat < nu)) (cond (decide (0 ≤ J1 ∧ J1 < (nu : Int))) (cond (decide (J1.toNat < nu)) (cond (decide (0 ≤ N1 ∧ N1 < (nb : Int))) (cond (decide (N1.toNat < nb)) (cond (decide (hi < y))
            (cond (C2 n j nb nu)
              (K (A2 bs us j nb (((hi.toNat * 18446744073709551616 + lo.toNat) / y.toNat : Nat) : Int) (((hi.toNat * 18446744073709551616 + lo.toNat) % y.toNat : Nat) : Int))) none) none) none) none) none) none) none) none)
          (K 18446744073709551615)) none) none) none) none) ex
def longG (C2 : Int → Int → Nat → Nat → Bool) (A2 : List Int → List Int → Int → Nat → Int → Int → Int) (C4 : Int → Int → Int → Int → Int → Nat → Nat → Bool) (P : List Int → Int → Nat → Int) (B : List Int → List Int → Int → Int → Nat → Int) (A4 : List Int → List Int → Int → Int → Nat → List Int)
    (C6 : Int → Int → Int → Nat → Nat → List Int → List Int → Int → Bool) (G : List Int → List Int → Int → Int → Int → Int) (A6 : List Int → List Int → Int → Int → Int → Nat → List Int) : Env :=
  mkE ty [(58, cloneC), (82, div64C), (47, mul64C), (48, add64C), (67, sub64C), (59, nSizeC)] [(0, longL), (2, gL2 C2 A2), (4, gL4 C4 P B A4), (6, gL6 C6 G A6), (8, longL8)] [(0, [1, 6, 7, 8, 9]), (2, [1, 6, 7, 8, 9, 10, 11]), (4, [1, 6, 7, 8, 9, 10, 15, 16, 121, 122, 123]), (6, [1, 6, 7, 8, 9, 10, 16]), (8, [1, 6, 7, 8, 9, 10, 16, 22, 182, 183, 184])] [(0, [6, 7, 8]), (2, [1, 6, 7, 8, 9, 10]), (4, [1, 6, 7, 8, 9, 10, 15, 16]), (6, [1, 6, 7, 8, 9, 10]), (8, [1, 6, 7, 8, 9, 10, 16, 22])] 0 (fun _ => false)
theorem long_gen (C2 : Int → Int → Nat → Nat → Bool) (A2 : List Int → List Int → Int → Nat → Int → Int → Int) (C4 : Int → Int → Int → Int → Int → Nat → Nat → Bool) (P : List Int → Int → Nat → Int) (B : List Int → List Int → Int → Int → Nat → Int) (A4 : List Int → List Int → Int → Int → Nat → List Int)
    (C6 : Int → Int → Int → Nat → Nat → List Int → List Int → Int → Bool) (G : List Int → List Int → Int → Int → Int → Int) (A6 : List Int → List Int → Int → Int → Int → Nat → List Int)
    (n j : Int) (o : Own) (nb nu nq : Nat) (bs us qs : List Int) (f : Nat) (κ : X → List V → Mem → R) :
    lx (longG C2 A2 C4 P B A4 C6 G A6) Try.f90 0 (f + 1) (longSt n j) [(o, .w .u64 nb bs), (.mine, .w .u64 nu us), (.mine, .w .u64 nq qs)] κ =
      longT C2 A2 (fun g => longK C4 P B A4 C6 G A6 n j g nb nu nq bs us qs fun us qs => lx (longG C2 A2 C4 P B A4 C6 G A6) Try.f90 0 f (longSt n (IntKind.i64.wrap (j - 1))) [(o, .w .u64 nb bs), (.mine, .w .u64 nu us), (.mine, .w .u64 nq qs)] κ)
        n j nb nu bs us (κ (.exit 0) (lay 243 [6, 7, 8] [.o (.p (.int .i64 n)), .o (.f 0), .o (.f 1)]) [(.mine, .w .u64 nu us), (.mine, .w .u64 nq qs)]) := by kernel_rfl
theorem long_round (n j : Int) (o : Own) (nb nu nq : Nat) (bs us qs : List Int) (f : Nat) (κ : X → List V → Mem → R) :
    lx longE Try.f90 0 (f + 1) (longSt n j) [(o, .w .u64 nb bs), (.mine, .w .u64 nu us), (.mine, .w .u64 nq qs)] κ =
      longT c2 a2 (fun g => longK c4 p4 b4 a4 c6 g6 a6 n j g nb nu nq bs us qs fun us qs => lx longE Try.f90 0 f (longSt n (IntKind.i64.wrap (j - 1))) [(o, .w .u64 nb bs), (.mine, .w .u64 nu us), (.mine, .w .u64 nq qs)] κ)
        n j nb nu bs us (κ (.exit 0) (lay 243 [6, 7, 8] [.o (.p (.int .i64 n)), .o (.f 0), .o (.f 1)]) [(.mine, .w .u64 nu us), (.mine, .w .u64 nq qs)]) :=
  long_gen c2 a2 c4 p4 b4 a4 c6 g6 a6 n j o nb nu nq bs us qs f κ
/-! ### The guess -/
theorem long_loop2 (n j : Int) (o : Own) (nb nu nq : Nat) (bs us qs : List Int) (hb : inR .u64 bs) (hu : inR .u64 us) (hn : n = (nb : Int)) (h2 : 2 ≤ nb) (h0 : 0 ≤ j) (hj : j + n < (nu : Int)) (hB : nb ≤ 140737488355328) (hU : nu ≤ 140737488355328) (κ : X → List V → Mem → R) :
    ∀ (g r : Nat), g < 18446744073709551616 → r < 18446744073709551616 → lx longE Try.f90 2 (g + 1) (longSt2 n j g r) [(o, .w .u64 nb bs), (.mine, .w .u64 nu us), (.mine, .w .u64 nq qs)] κ =
      κ (.exit 2) (lay 243 [1, 6, 7, 8, 9, 10] [.o (.f 0), .o (.p (.int .i64 n)), .o (.f 1), .o (.f 2), .o (.p (.int .i64 j)), .o (.p (.int .u64 (a2 bs us j nb g r)))]) [(o, .w .u64 nb bs), (.mine, .w .u64 nu us), (.mine, .w .u64 nq qs)] := by
  subst hn
  obtain ⟨J, rfl⟩ := Int.eq_ofNat_of_zero_le h0
  have e1 : IntKind.i64.wrap ((nb : Int) - 2) = ((nb - 2 : Nat) : Int) := by rw [i64_wrap (by omega) (by omega)]; omega
  have e2 : IntKind.i64.wrap ((nb : Int) - 1) = ((nb - 1 : Nat) : Int) := by rw [i64_wrap (by omega) (by omega)]; omega
  have e3 : IntKind.i64.wrap (IntKind.i64.wrap ((J : Int) + (nb : Int)) - 2) = ((J + nb - 2 : Nat) : Int) := by rw [i64_wrap (x := (J : Int) + (nb : Int)) (by omega) (by omega), i64_wrap (by omega) (by omega)]; omega
  have d1 : decide ((0 : Int) ≤ ((nb - 2 : Nat) : Int) ∧ ((nb - 2 : Nat) : Int) < (nb : Int)) = true := decide_eq_true (by omega)
  have d2 : decide (nb - 2 < nb) = true := decide_eq_true (by omega)
  have d3 : decide ((0 : Int) ≤ ((nb - 1 : Nat) : Int) ∧ ((nb - 1 : Nat) : Int) < (nb : Int)) = true := decide_eq_true (by omega)
  have d4 : decide (nb - 1 < nb) = true := decide_eq_true (by omega)
  have d5 : decide ((0 : Int) ≤ ((J + nb - 2 : Nat) : Int) ∧ ((J + nb - 2 : Nat) : Int) < (nu : Int)) = true := decide_eq_true (by omega)
  have d6 : decide (J + nb - 2 < nu) = true := decide_eq_true (by omega)
  have ab1 := inR_at hb (nb - 1)
  have ab2 := inR_at hb (nb - 2)
  have au := inR_at hu (J + nb - 2)
  unfold a2
  obtain ⟨b1, hb1⟩ := Int.eq_ofNat_of_zero_le ab1.1
  obtain ⟨b2, hb2⟩ := Int.eq_ofNat_of_zero_le ab2.1
  obtain ⟨u2, hu2⟩ := Int.eq_ofNat_of_zero_le au.1
  rw [hb1] at ab1
  rw [hb2] at ab2
  rw [hu2] at au
  have key : ∀ (g r : Nat), g < 18446744073709551616 → r < 18446744073709551616 → lx longE Try.f90 2 (g + 1) (longSt2 (nb : Int) (J : Int) g r) [(o, .w .u64 nb bs), (.mine, .w .u64 nu us), (.mine, .w .u64 nq qs)] κ =
      κ (.exit 2) (lay 243 [1, 6, 7, 8, 9, 10] [.o (.f 0), .o (.p (.int .i64 (nb : Int))), .o (.f 1), .o (.f 2), .o (.p (.int .i64 (J : Int))), .o (.p (.int .u64 ((adj b1 b2 u2 g r : Nat) : Int)))]) [(o, .w .u64 nb bs), (.mine, .w .u64 nu us), (.mine, .w .u64 nq qs)] := by
    intro g
    induction g with
    | zero =>
      intro r _ hr
      rw [long_round2, e1, e2, e3, Int.toNat_natCast, Int.toNat_natCast, Int.toNat_natCast, hb1, hb2, hu2, d1, cond_true, d2, cond_true, show ((0 : Nat) : Int) * (b2 : Int) = 0 from Int.zero_mul _]
      by_cases h : r = 0
      · rw [decide_eq_false (by omega), cond_false, beq_iff_eq.2 (show (0 : Int) / 18446744073709551616 = (r : Int) by omega), cond_true, d5, cond_true, d6, cond_true, decide_eq_true (by omega), cond_true]
        rfl
      · rw [decide_eq_true (show (0 : Int) / 18446744073709551616 < (r : Int) by omega), cond_true]
        rfl
    | succ g ih =>
      intro r hg hr
      rw [long_round2, e1, e2, e3, Int.toNat_natCast, Int.toNat_natCast, Int.toNat_natCast, hb1, hb2, hu2, d1, cond_true, d2, cond_true, ← Int.natCast_mul]
      have eg : IntKind.u64.wrap (((g + 1 : Nat) : Int) - 1) = (g : Int) := by rw [u64_wrap (by omega) (by omega)]; omega
      rw [eg]
      simp only [d3, d4, d5, d6, cond_true]
      unfold adj
      generalize (g + 1) * b2 = p
      by_cases h1 : p / 18446744073709551616 < r
      · rw [decide_eq_true (show (p : Int) / 18446744073709551616 < (r : Int) by omega), cond_true, if_pos (by omega)]
      · rw [decide_eq_false (show ¬ (p : Int) / 18446744073709551616 < (r : Int) by omega), cond_false]
        by_cases h2 : p ≤ r * 18446744073709551616 + u2
        · rw [beq_iff_eq.2 (show (p : Int) / 18446744073709551616 = (r : Int) by omega), cond_true, decide_eq_true (show (p : Int) % 18446744073709551616 ≤ (u2 : Int) by omega), cond_true, if_pos h2]
        · rw [if_neg h2]
          have tail : cond (decide (((r : Int) + (b1 : Int) + 0) / 18446744073709551616 > 0)) (κ (.exit 2) (lay 243 [1, 6, 7, 8, 9, 10] [.o (.f 0), .o (.p (.int .i64 (nb : Int))), .o (.f 1), .o (.f 2), .o (.p (.int .i64 (J : Int))), .o (.p (.int .u64 (g : Int)))]) [(o, .w .u64 nb bs), (.mine, .w .u64 nu us), (.mine, .w .u64 nq qs)])
              (lx longE Try.f90 2 (g + 1) (longSt2 (nb : Int) (J : Int) g (((r : Int) + (b1 : Int) + 0) % 18446744073709551616)) [(o, .w .u64 nb bs), (.mine, .w .u64 nu us), (.mine, .w .u64 nq qs)] κ) =
              κ (.exit 2) (lay 243 [1, 6, 7, 8, 9, 10] [.o (.f 0), .o (.p (.int .i64 (nb : Int))), .o (.f 1), .o (.f 2), .o (.p (.int .i64 (J : Int))), .o (.p (.int .u64 ((if 18446744073709551616 ≤ r + b1 then g else adj b1 b2 u2 g (r + b1) : Nat) : Int)))]) [(o, .w .u64 nb bs), (.mine, .w .u64 nu us), (.mine, .w .u64 nq qs)] := by
            by_cases h3 : 18446744073709551616 ≤ r + b1
            · rw [decide_eq_true (show ((r : Int) + (b1 : Int) + 0) / 18446744073709551616 > 0 by omega), cond_true, if_pos h3]
            · rw [decide_eq_false (show ¬ ((r : Int) + (b1 : Int) + 0) / 18446744073709551616 > 0 by omega), cond_false, if_neg h3, show ((r : Int) + (b1 : Int) + 0) % 18446744073709551616 = ((r + b1 : Nat) : Int) by omega]
              exact ih (r + b1) (by omega) (by omega)
          by_cases h4 : (p : Int) / 18446744073709551616 = (r : Int)
          · rw [beq_iff_eq.2 h4, cond_true, decide_eq_false (show ¬ (p : Int) % 18446744073709551616 ≤ (u2 : Int) by omega), cond_false]
            exact tail
          · rw [beq_eq_false_iff_ne.2 h4, cond_false]
            exact tail
  intro g r hg hr
  rw [hb1, hb2, Int.toNat_natCast, Int.toNat_natCast, Int.toNat_natCast, Int.toNat_natCast, Int.toNat_natCast, hu2, Int.toNat_natCast]
  exact key g r hg hr
theorem longL2_ok : LoopOK longE 2 (lbody Try.f90 2) longL2 := loopOK_lx fun vs m κ r hv hm h => by
  split at h
  case h_2 => cases h
  rename_i n j g r o nb bs nu us nq qs
  replace h := cond_none h
  obtain ⟨hc, h⟩ := h
  obtain ⟨h1, h2, h3, h4⟩ := of_decide_eq_true hc
  have hb := hm 0 _ _ rfl
  have hu := hm 1 _ _ rfl
  have hg := u64_iff.1 (hv (.o (.p (.int .u64 g))) (by simp))
  have hr := u64_iff.1 (hv (.o (.p (.int .u64 r))) (by simp))
  have h47 : lim = 140737488355328 := by decide
  obtain ⟨g, rfl⟩ := Int.eq_ofNat_of_zero_le hg.1
  obtain ⟨r, rfl⟩ := Int.eq_ofNat_of_zero_le hr.1
  exact ⟨_, (long_loop2 n j o nb nu nq bs us qs hb.2.2 hu.2.2 h1 h2 h3 h4 (by have := hb.2.1; omega) (by have := hu.2.1; omega) κ g r (by omega) (by omega)).trans h⟩
/-- The guess is never below the digit. -/
theorem adj_ge {b1 b2 u2 u10 q : Nat} (hq : q * (b1 * 18446744073709551616 + b2) ≤ u10 * 18446744073709551616 + u2) (hu : u2 < 18446744073709551616) : ∀ (g r : Nat), g * b1 + r = u10 → q ≤ g → q ≤ adj b1 b2 u2 g r ∧ adj b1 b2 u2 g r ≤ g
  | 0, r, _, h => ⟨by unfold adj; exact h, by unfold adj; exact Nat.le_refl _⟩
  | g + 1, r, he, h => by
    unfold adj
    split
    · exact ⟨h, Nat.le_refl _⟩
    · rename_i h1
      have hlt : q ≠ g + 1 := by
        rintro rfl
        rw [Nat.mul_add, ← Nat.mul_assoc] at hq
        generalize (g + 1) * b1 = a at *
        generalize (g + 1) * b2 = b at *
        omega
      split
      · exact ⟨by omega, by omega⟩
      · have ih := adj_ge hq hu g (r + b1) (by rw [Nat.add_mul, Nat.one_mul] at he; omega) (by omega)
        exact ⟨ih.1, by omega⟩

/-! ### What is taken off, and added again -/
theorem at_win {us : List Int} {J nb i : Nat} (h : i < nb) : us.getD (J + i) 0 = ((us.drop J).take nb).getD i 0 := by
  rw [← at_take h, List.getD_eq_getElem?_getD, List.getD_eq_getElem?_getD, List.getElem?_drop]
theorem long_loop4 (n j g : Int) (o : Own) (nb nu nq J G : Nat) (bs us qs : List Int) (hb : inR .u64 bs) (hu : inR .u64 us) (hbl : bs.length = nb) (hul : us.length = nu) (h0 : j = (J : Int)) (hg : g = (G : Int)) (hG : G < 18446744073709551616) (hj : J + nb < nu) (hU : nu ≤ 140737488355328) (κ : X → List V → Mem → R) :
    ∀ (k i : Nat) (A : List Int) (b : Nat), i + k = nb → A.length = i → inR .u64 A → b ≤ 1 → val A + G * val (bs.take i) % 18446744073709551616 ^ i = val (((us.drop J).take nb).take i) + 18446744073709551616 ^ i * b →
    lx longE Try.f90 4 (k + 1) (longSt4 n j g ((G * val (bs.take i) / 18446744073709551616 ^ i : Nat) : Int) b nb i) [(o, .w .u64 nb bs), (.mine, .w .u64 nu (us.take J ++ A ++ us.drop (J + i))), (.mine, .w .u64 nq qs)] κ =
      κ (.exit 4) (lay 243 [1, 6, 7, 8, 9, 10, 15, 16] [.o (.f 0), .o (.p (.int .i64 n)), .o (.f 1), .o (.f 2), .o (.p (.int .i64 j)), .o (.p (.int .u64 g)), .o (.p (.int .u64 (p4 bs g nb))), .o (.p (.int .u64 (b4 bs us j g nb)))])
        [(o, .w .u64 nb bs), (.mine, .w .u64 nu (a4 bs us j g nb)), (.mine, .w .u64 nq qs)] := by
  subst h0 hg
  intro k
  induction k with
  | zero =>
    intro i A b hi hA hR hb1 hv
    obtain rfl : i = nb := by omega
    rw [List.take_of_length_le (l := bs) (by omega), List.take_of_length_le (l := (us.drop J).take i) (by rw [List.length_take]; omega)] at hv
    obtain ⟨e1, e2⟩ := sub_end hR hA (Nat.mod_lt _ (pow_pos64 _)) hb1 hv
    rw [long_round4, decide_eq_false (by omega), cond_false, List.take_of_length_le (l := bs) (by omega)]
    unfold p4 b4 a4
    rw [Int.toNat_natCast, Int.toNat_natCast, ← e1]
    have e3 : (if val (List.take i (List.drop J us)) < G * val bs % 18446744073709551616 ^ i then (1 : Int) else 0) = (b : Int) := by
      rw [e2]
      split <;> rfl
    rw [e3]
  | succ k ih =>
    intro i A b hi hA hR hb1 hv
    have hT : (us.take J ++ A).length = J + i := by rw [List.length_append, List.length_take]; omega
    have hL := inR_take (inR_drop hu J) nb
    have ab := inR_at hb i
    have au := inR_at hL i
    rw [long_round4, Int.toNat_natCast, i64_wrap (x := (J : Int) + (i : Int)) (by omega) (by omega), show (J : Int) + (i : Int) = ((J + i : Nat) : Int) by omega, Int.toNat_natCast, lo_get hT, lo_set hT (by omega), at_win (show i < nb by omega), i64_wrap (x := (i : Int) + 1) (by omega) (by omega)]
    have hVs : val (bs.take (i + 1)) = val (bs.take i) + 18446744073709551616 ^ i * (bs.getD i 0).toNat := val_take_succ (by omega)
    obtain ⟨y, hY⟩ := Int.eq_ofNat_of_zero_le ab.1
    rw [hY] at ab
    rw [hY, Int.toNat_natCast] at hVs
    have hc : G * val (bs.take i) / 18446744073709551616 ^ i < 18446744073709551616 := by
      rw [Nat.div_lt_iff_lt_mul (pow_pos64 i)]
      have h1 := val_lt (inR_take hb i)
      rw [List.length_take, Nat.min_eq_left (by omega)] at h1
      rcases Nat.eq_zero_or_pos G with h2 | h2
      · rw [h2, Nat.zero_mul]; exact Nat.mul_pos (by decide) (pow_pos64 _)
      · exact Nat.lt_of_lt_of_le (Nat.mul_lt_mul_of_pos_left h1 h2) (Nat.mul_le_mul_right _ (by omega))
    have hn : G * val (bs.take (i + 1)) = G * val (bs.take i) + 18446744073709551616 ^ i * (G * y) := by rw [hVs, Nat.mul_add, Nat.mul_left_comm]
    have hdiv : G * val (bs.take (i + 1)) / 18446744073709551616 ^ i = G * val (bs.take i) / 18446744073709551616 ^ i + G * y := by rw [hn, Nat.add_mul_div_left _ _ (pow_pos64 _)]
    have hmod : G * val (bs.take (i + 1)) % 18446744073709551616 ^ i = G * val (bs.take i) % 18446744073709551616 ^ i := by rw [hn, Nat.add_mul_mod_self_left]
    have hdiv2 : G * val (bs.take (i + 1)) / 18446744073709551616 ^ (i + 1) = (G * y + G * val (bs.take i) / 18446744073709551616 ^ i) / 18446744073709551616 := by rw [Nat.pow_succ, ← Nat.div_div_eq_div_mul, hdiv, Nat.add_comm]
    have hmod2 : G * val (bs.take (i + 1)) % 18446744073709551616 ^ (i + 1) = G * val (bs.take i) % 18446744073709551616 ^ i + 18446744073709551616 ^ i * ((G * y + G * val (bs.take i) / 18446744073709551616 ^ i) % 18446744073709551616) := by rw [mod_step, hdiv, hmod, Nat.add_comm (G * y)]
    obtain ⟨m1, m2, m3⟩ := mul_carry hG (show y < 18446744073709551616 by omega) hc
    rw [hY, m1, m2, ← hdiv2]
    have hs : (G * y + G * val (bs.take i) / 18446744073709551616 ^ i) % 18446744073709551616 < 18446744073709551616 := Nat.mod_lt _ (by decide)
    generalize hS : (G * y + G * val (bs.take i) / 18446744073709551616 ^ i) % 18446744073709551616 = S at *
    generalize hx : ((us.drop J).take nb).getD i 0 = x at *
    obtain ⟨b', hb'⟩ : ∃ b' : Nat, -((x - (S : Int) - (b : Int)) / 18446744073709551616) = (b' : Int) := ⟨(-((x - (S : Int) - (b : Int)) / 18446744073709551616)).toNat, by omega⟩
    have es : ((x - (S : Int) - (b : Int)) % 18446744073709551616).toNat + S + b = x.toNat + 18446744073709551616 * b' := by omega
    have next := ih (i + 1) (A ++ [(x - (S : Int) - (b : Int)) % 18446744073709551616]) b' (by omega) (by simp; omega) (inR_append hR (by
      intro z hz
      rcases List.mem_cons.1 hz with rfl | hz
      · exact u64_iff.2 ⟨by omega, by omega⟩
      · cases hz)) (by omega) (by
      have hLl : i < ((us.drop J).take nb).length := by rw [List.length_take, List.length_drop]; omega
      rw [hmod2, val_append, hA, val_take_succ hLl, hx]
      simp only [val, Nat.mul_zero, Nat.add_zero]
      rw [Nat.pow_succ]
      exact borrow_step hv es)
    rw [hb', decide_eq_true (show (i : Int) < (nb : Int) by omega), cond_true, decide_eq_true (show (0 : Int) ≤ (i : Int) ∧ (i : Int) < (nb : Int) by omega), cond_true, decide_eq_true (show i < nb by omega), cond_true, decide_eq_true (show (0 : Int) ≤ ((J + i : Nat) : Int) ∧ ((J + i : Nat) : Int) < (nu : Int) by omega), cond_true, cond_true, decide_eq_true (show J + i < nu by omega), cond_true,
      decide_eq_true (show (b : Int) ≤ 1 by omega), cond_true, decide_eq_true (show J + i < nu ∧ IntKind.u64 = IntKind.u64 ∧ 1 = 1 from ⟨by omega, rfl, rfl⟩), cond_true]
    rw [show (i : Int) + 1 = ((i + 1 : Nat) : Int) by omega, List.append_assoc (us.take J) A]
    exact next
theorem longL4_ok : LoopOK longE 4 (lbody Try.f90 4) longL4 := loopOK_lx fun vs m κ r hv hm h => by
  split at h
  case h_2 => cases h
  rename_i n j g c b l i o nb bs nu us nq qs
  replace h := cond_none h
  obtain ⟨hc, h⟩ := h
  obtain ⟨rfl, rfl, rfl, rfl, h5, h6⟩ := of_decide_eq_true hc
  have hb := hm 0 _ _ rfl
  have hu := hm 1 _ _ rfl
  have hg := u64_iff.1 (hv (.o (.p (.int .u64 g))) (by simp))
  have h47 : lim = 140737488355328 := by decide
  obtain ⟨G, rfl⟩ := Int.eq_ofNat_of_zero_le hg.1
  obtain ⟨J, rfl⟩ := Int.eq_ofNat_of_zero_le h5
  have key := long_loop4 n J G o nb nu nq J G bs us qs hb.2.2 hu.2.2 hb.1 hu.1 rfl rfl (by omega) (by omega) (by have := hu.2.1; omega) κ nb 0 [] 0 (by omega) rfl (fun _ h => by cases h) (by omega) (by simp [val])
  rw [List.append_nil, show J + 0 = J from rfl, List.take_append_drop] at key
  have e : G * val (bs.take 0) / 18446744073709551616 ^ 0 = 0 := by simp [val]
  rw [e] at key
  exact ⟨_, key.trans h⟩
theorem long_loop8 (n j g b : Int) (o : Own) (nb nu nq J : Nat) (bs us qs : List Int) (hb : inR .u64 bs) (hu : inR .u64 us) (hbl : bs.length = nb) (hul : us.length = nu) (h0 : j = (J : Int)) (hj : J + nb < nu) (hU : nu ≤ 140737488355328) (κ : X → List V → Mem → R) :
    ∀ (k i : Nat) (A : List Int) (c : Nat), i + k = nb → A.length = i → inR .u64 A → c ≤ 1 → val A + 18446744073709551616 ^ i * c = val (((us.drop J).take nb).take i) + val (bs.take i) →
    lx longE Try.f90 8 (k + 1) (longSt8 n j g b c nb i) [(o, .w .u64 nb bs), (.mine, .w .u64 nu (us.take J ++ A ++ us.drop (J + i))), (.mine, .w .u64 nq qs)] κ =
      κ (.exit 8) (lay 243 [1, 6, 7, 8, 9, 10, 16, 22] [.o (.f 0), .o (.p (.int .i64 n)), .o (.f 1), .o (.f 2), .o (.p (.int .i64 j)), .o (.p (.int .u64 g)), .o (.p (.int .u64 b)), .o (.p (.int .u64 (((val ((us.drop j.toNat).take nb) + val bs) / 18446744073709551616 ^ nb : Nat) : Int)))])
        [(o, .w .u64 nb bs), (.mine, .w .u64 nu (us.take j.toNat ++ wordsN nb (val ((us.drop j.toNat).take nb) + val bs) ++ us.drop (j.toNat + nb))), (.mine, .w .u64 nq qs)] := by
  subst h0
  intro k
  induction k with
  | zero =>
    intro i A c hi hA hR hc1 hv
    obtain rfl : i = nb := by omega
    rw [List.take_of_length_le (l := bs) (by omega), List.take_of_length_le (l := (us.drop J).take i) (by rw [List.length_take]; omega)] at hv
    obtain ⟨e1, e2⟩ := add_end hR hA hv
    rw [long_round8, decide_eq_false (by omega), cond_false, Int.toNat_natCast, ← e1, ← e2]
  | succ k ih =>
    intro i A c hi hA hR hc1 hv
    have hT : (us.take J ++ A).length = J + i := by rw [List.length_append, List.length_take]; omega
    have hL := inR_take (inR_drop hu J) nb
    have ab := inR_at hb i
    have au := inR_at hL i
    rw [long_round8, Int.toNat_natCast, i64_wrap (x := (J : Int) + (i : Int)) (by omega) (by omega), show (J : Int) + (i : Int) = ((J + i : Nat) : Int) by omega, Int.toNat_natCast, lo_get hT, lo_set hT (by omega), at_win (show i < nb by omega), i64_wrap (x := (i : Int) + 1) (by omega) (by omega)]
    have hVs : val (bs.take (i + 1)) = val (bs.take i) + 18446744073709551616 ^ i * (bs.getD i 0).toNat := val_take_succ (by omega)
    generalize hx : ((us.drop J).take nb).getD i 0 = x at *
    generalize hy : bs.getD i 0 = y at *
    have ec : (x + y + (c : Int)) / 18446744073709551616 = (((x.toNat + y.toNat + c) / 18446744073709551616 : Nat) : Int) := by omega
    have es : ((x + y + (c : Int)) % 18446744073709551616).toNat = (x.toNat + y.toNat + c) % 18446744073709551616 := by omega
    have next := ih (i + 1) (A ++ [(x + y + (c : Int)) % 18446744073709551616]) ((x.toNat + y.toNat + c) / 18446744073709551616) (by omega) (by simp; omega) (inR_append hR (by
      intro z hz
      rcases List.mem_cons.1 hz with rfl | hz
      · exact u64_iff.2 ⟨by omega, by omega⟩
      · cases hz)) (by omega) (by
      have hLl : i < ((us.drop J).take nb).length := by rw [List.length_take, List.length_drop]; omega
      rw [val_append, hA, val_take_succ hLl, hx, hVs]
      simp only [val, Nat.mul_zero, Nat.add_zero]
      rw [Nat.pow_succ, es]
      exact carry_step hv (by omega))
    rw [ec, decide_eq_true (show (i : Int) < (nb : Int) by omega), cond_true, decide_eq_true (show (0 : Int) ≤ (i : Int) ∧ (i : Int) < (nb : Int) by omega), cond_true, decide_eq_true (show i < nb by omega), cond_true, decide_eq_true (show (0 : Int) ≤ ((J + i : Nat) : Int) ∧ ((J + i : Nat) : Int) < (nu : Int) by omega), cond_true, cond_true, decide_eq_true (show J + i < nu by omega), cond_true,
      decide_eq_true (show (c : Int) ≤ 1 by omega), cond_true, decide_eq_true (show J + i < nu ∧ IntKind.u64 = IntKind.u64 ∧ 1 = 1 from ⟨by omega, rfl, rfl⟩), cond_true]
    rw [show (i : Int) + 1 = ((i + 1 : Nat) : Int) by omega, List.append_assoc (us.take J) A]
    exact next
theorem longL8_ok : LoopOK longE 8 (lbody Try.f90 8) longL8 := loopOK_lx fun vs m κ r hv hm h => by
  split at h
  case h_2 => cases h
  rename_i n j g b c l i o nb bs nu us nq qs
  replace h := cond_none h
  obtain ⟨hc, h⟩ := h
  obtain ⟨rfl, rfl, rfl, h5, h6⟩ := of_decide_eq_true hc
  have hb := hm 0 _ _ rfl
  have hu := hm 1 _ _ rfl
  have h47 : lim = 140737488355328 := by decide
  obtain ⟨J, rfl⟩ := Int.eq_ofNat_of_zero_le h5
  have key := long_loop8 n J g b o nb nu nq J bs us qs hb.2.2 hu.2.2 hb.1 hu.1 rfl (by omega) (by have := hu.2.1; omega) κ nb 0 [] 0 (by omega) rfl (fun _ h => by cases h) (by omega) (by simp [val])
  rw [List.append_nil, show J + 0 = J from rfl, List.take_append_drop] at key
  exact ⟨_, key.trans h⟩
/-! ### Lists around a window -/
section
variable {T A D Z : List Int} {J nb : Nat}
theorem win_take (hT : T.length = J) : (T ++ A ++ D).take J = T := by
  rw [List.append_assoc, List.take_append_of_le_length (by omega), List.take_of_length_le (by omega)]
theorem win_drop (hT : T.length = J) : (T ++ A ++ D).drop J = A ++ D := by
  rw [List.append_assoc, List.drop_append_of_le_length (by omega), List.drop_eq_nil_of_le (by omega), List.nil_append]
theorem win_low (hT : T.length = J) (hA : A.length = nb + 1) : ((T ++ A ++ D).drop J).take nb = A.take nb := by
  rw [win_drop hT, List.take_append_of_le_length (by omega)]
theorem win_all (hT : T.length = J) (hA : A.length = nb + 1) : ((T ++ A ++ D).drop J).take (nb + 1) = A := by
  rw [win_drop hT, List.take_append_of_le_length (by omega), List.take_of_length_le (by omega)]
theorem last_eq (hA : A.length = nb + 1) : A = A.take nb ++ [A.getD nb 0] := by
  have h := (List.take_append_drop nb A).symm
  have e : A.drop nb = [A.getD nb 0] := by
    rw [List.drop_eq_getElem_cons (by omega), List.drop_eq_nil_of_le (by omega), List.getD_eq_getElem?_getD, List.getElem?_eq_getElem (by omega)]
    rfl
  rwa [e] at h
theorem win_high (hT : T.length = J) (hA : A.length = nb + 1) : (T ++ A ++ D).drop (J + nb) = A.getD nb 0 :: D := by
  rw [← List.drop_drop, win_drop hT, List.drop_append_of_le_length (by omega)]
  have e : A.drop nb = [A.getD nb 0] := by
    rw [List.drop_eq_getElem_cons (by omega), List.drop_eq_nil_of_le (by omega), List.getD_eq_getElem?_getD, List.getElem?_eq_getElem (by omega)]
    rfl
  rw [e]
  rfl
theorem win_get {x : Int} (hT : T.length = J) (hZ : Z.length = nb) : (T ++ Z ++ (x :: D)).getD (J + nb) 0 = x := by
  rw [List.getD_eq_getElem?_getD, List.getElem?_append_right (by rw [List.length_append]; omega), List.length_append, hT, hZ, Nat.sub_self]
  rfl
theorem win_set {x v : Int} (hT : T.length = J) (hZ : Z.length = nb) : (T ++ Z ++ (x :: D)).set (J + nb) v = T ++ (Z ++ [v]) ++ D := by
  rw [List.set_append_right _ _ (by rw [List.length_append]; omega), List.length_append, hT, hZ, Nat.sub_self, List.set_cons_zero, List.append_assoc, List.append_assoc, List.append_assoc]
  rfl
end
theorem val_last {A : List Int} {nb : Nat} (hA : A.length = nb + 1) : val A = val (A.take nb) + 18446744073709551616 ^ nb * (A.getD nb 0).toNat := by
  have h := congrArg val (last_eq hA)
  rw [val_append, List.length_take, Nat.min_eq_left (by omega)] at h
  simpa [val] using h
theorem div_down {x y V : Nat} : x / V = y → V * y ≤ x := fun h => by subst h; exact Nat.mul_div_le _ _

/-! ### Too many -/
theorem long_loop6 (o : Own) (nb nu nq J U : Nat) (bs qs T D : List Int) (hb : inR .u64 bs) (hbl : bs.length = nb) (hV : 0 < val bs) (hT : T.length = J) (hTR : inR .u64 T) (hDR : inR .u64 D) (hD : J + nb + 1 + D.length = nu) (hU : nu ≤ 140737488355328) (κ : X → List V → Mem → R) :
    ∀ (k g b : Nat) (A : List Int), A.length = nb + 1 → inR .u64 A → b ≤ 1 → g < 18446744073709551616 → U + b * 18446744073709551616 ^ (nb + 1) = val A + g * val bs → U / val bs + k = g →
    lx longE Try.f90 6 (k + 1) (longSt6 (nb : Int) (J : Int) g b) [(o, .w .u64 nb bs), (.mine, .w .u64 nu (T ++ A ++ D)), (.mine, .w .u64 nq qs)] κ =
      κ (.exit 6) (lay 243 [1, 6, 7, 8, 9, 10] [.o (.f 0), .o (.p (.int .i64 (nb : Int))), .o (.f 1), .o (.f 2), .o (.p (.int .i64 (J : Int))), .o (.p (.int .u64 ((U / val bs : Nat) : Int)))])
        [(o, .w .u64 nb bs), (.mine, .w .u64 nu (T ++ wordsN (nb + 1) (U % val bs) ++ D)), (.mine, .w .u64 nq qs)] := by
  intro k
  induction k with
  | zero =>
    intro g b A hA hR hb1 hg he hk
    have hAlt := val_lt hR
    rw [hA] at hAlt
    have hdm := Nat.div_add_mod U (val bs)
    have hml := Nat.mod_lt U hV
    rw [Nat.add_zero] at hk
    subst hk
    rw [Nat.mul_comm] at hdm
    have hb0 : b = 0 := by
      rcases (by omega : b = 0 ∨ b = 1) with h | h
      · exact h
      · subst h; rw [Nat.one_mul] at he; omega
    subst hb0
    have hAe : A = wordsN (nb + 1) (U % val bs) := wordsN_eq hR hA (by omega)
    rw [long_round6, decide_eq_false (by omega), cond_false, hAe]
  | succ k ih =>
    intro g b A hA hR hb1 hg he hk
    have hAlt := val_lt hR
    rw [hA] at hAlt
    have hdm := Nat.div_add_mod U (val bs)
    have hml := Nat.mod_lt U hV
    rw [Nat.mul_comm] at hdm
    generalize U / val bs = Q at *
    have hgV : (Q + (k + 1)) * val bs = Q * val bs + k * val bs + val bs := by rw [Nat.add_mul, Nat.add_mul, Nat.one_mul]; omega
    rw [hk] at hgV
    have hb0 : b = 1 := by
      rcases (by omega : b = 0 ∨ b = 1) with h | h
      · subst h; rw [Nat.zero_mul] at he; omega
      · exact h
    subst hb0
    rw [Nat.one_mul] at he
    have hLR := inR_take hR nb
    have hlow := val_lt hLR
    rw [List.length_take, Nat.min_eq_left (by omega)] at hlow
    have hVlt := val_lt hb
    rw [hbl] at hVlt
    have hvA := val_last hA
    have htop := inR_at hR nb
    obtain ⟨top, ht⟩ := Int.eq_ofNat_of_zero_le htop.1
    rw [ht, Int.toNat_natCast] at hvA
    rw [ht] at htop
    have hc : (val (A.take nb) + val bs) / 18446744073709551616 ^ nb ≤ 1 := by
      have : (val (A.take nb) + val bs) / 18446744073709551616 ^ nb < 2 := by rw [Nat.div_lt_iff_lt_mul (pow_pos64 nb)]; omega
      omega
    have hsplit := Nat.mod_add_div (val (A.take nb) + val bs) (18446744073709551616 ^ nb)
    rw [long_round6, Int.toNat_natCast, win_take hT, win_low hT hA, win_high hT hA, i64_wrap (x := (J : Int) + (nb : Int)) (by omega) (by omega), show (J : Int) + (nb : Int) = ((J + nb : Nat) : Int) by omega, Int.toNat_natCast, win_get hT (length_wordsN _ _), win_set hT (length_wordsN _ _), ht]
    generalize hcc : (val (A.take nb) + val bs) / 18446744073709551616 ^ nb = c at *
    have e1 : IntKind.u64.wrap ((g : Int) - 1) = ((g - 1 : Nat) : Int) := by rw [u64_wrap (by omega) (by omega)]; omega
    have e2 : ((top : Int) + 0 + (c : Int)) / 18446744073709551616 = (((top + c) / 18446744073709551616 : Nat) : Int) := by omega
    have e3 : ((top : Int) + 0 + (c : Int)) % 18446744073709551616 = (((top + c) % 18446744073709551616 : Nat) : Int) := by omega
    have e4 : IntKind.u64.wrap (((1 : Nat) : Int) - (((top + c) / 18446744073709551616 : Nat) : Int)) = ((1 - (top + c) / 18446744073709551616 : Nat) : Int) := by rw [u64_wrap (by omega) (by omega)]; omega
    rw [e1, e2, e3, e4]
    rw [decide_eq_true (show ((1 : Nat) : Int) > 0 by omega), cond_true, decide_eq_true ⟨rfl, rfl, rfl, by omega, by omega⟩, cond_true, decide_eq_true (show (0 : Int) ≤ ((J + nb : Nat) : Int) ∧ ((J + nb : Nat) : Int) < (nu : Int) by omega), cond_true, cond_true, decide_eq_true (show J + nb < nu by omega), cond_true, decide_eq_true (show (c : Int) ≤ 1 by omega), cond_true,
      decide_eq_true (show J + nb < nu ∧ IntKind.u64 = IntKind.u64 ∧ 1 = 1 from ⟨by omega, rfl, rfl⟩), cond_true]
    refine ih (g - 1) (1 - (top + c) / 18446744073709551616) (wordsN nb (val (A.take nb) + val bs) ++ [(((top + c) % 18446744073709551616 : Nat) : Int)]) (by rw [List.length_append, length_wordsN]; rfl) (inR_append (inR_wordsN _ _) (fun z hz => by
      rcases List.mem_cons.1 hz with rfl | hz
      · exact u64_iff.2 ⟨by omega, by omega⟩
      · cases hz)) (by omega) (by omega) ?_ (by omega)
    have hv1 : val (wordsN nb (val (A.take nb) + val bs) ++ [(((top + c) % 18446744073709551616 : Nat) : Int)]) = (val (A.take nb) + val bs) % 18446744073709551616 ^ nb + 18446744073709551616 ^ nb * ((top + c) % 18446744073709551616) := by
      rw [val_append, length_wordsN, val_wordsN]
      have h1 : val [(((top + c) % 18446744073709551616 : Nat) : Int)] = (top + c) % 18446744073709551616 := by
        show (((top + c) % 18446744073709551616 : Nat) : Int).toNat + 18446744073709551616 * 0 = _
        rw [Int.toNat_natCast, Nat.mul_zero, Nat.add_zero]
      rw [h1]
    rw [hv1]
    have hg1 : g * val bs = (g - 1) * val bs + val bs := by
      obtain ⟨g', rfl⟩ : ∃ g', g = g' + 1 := ⟨g - 1, by omega⟩
      rw [Nat.add_mul, Nat.one_mul, Nat.add_sub_cancel]
    have htc := Nat.mod_add_div (top + c) 18446744073709551616
    have h01 : (top + c) / 18446744073709551616 = 0 ∨ (top + c) / 18446744073709551616 = 1 := by omega
    have hmul : 18446744073709551616 ^ nb * (top + c) = 18446744073709551616 ^ nb * ((top + c) % 18446744073709551616) + 18446744073709551616 ^ (nb + 1) * ((top + c) / 18446744073709551616) := by
      rw [Nat.pow_succ, Nat.mul_assoc, ← Nat.mul_add, htc]
    rw [Nat.mul_add] at hmul
    rcases h01 with h | h
    · rw [h, Nat.mul_zero] at hmul
      rw [h, Nat.sub_zero, Nat.one_mul]
      omega
    · rw [h, Nat.mul_one] at hmul
      rw [h, Nat.sub_self, Nat.zero_mul]
      omega
theorem win_split {us : List Int} {J nb : Nat} (h : J + nb + 1 ≤ us.length) : us = us.take J ++ (us.drop J).take (nb + 1) ++ us.drop (J + nb + 1) := by
  have h1 := (List.take_append_drop J us).symm
  have h2 := (List.take_append_drop (nb + 1) (us.drop J)).symm
  rw [List.drop_drop] at h2
  rw [List.append_assoc, show J + nb + 1 = J + (nb + 1) from rfl, ← h2]
  exact h1
theorem longL6_ok : LoopOK longE 6 (lbody Try.f90 6) longL6 := loopOK_lx fun vs m κ r hv hm h => by
  split at h
  case h_2 => cases h
  rename_i n j g b o nb bs nu us nq qs
  replace h := cond_none h
  obtain ⟨hc, h⟩ := h
  obtain ⟨rfl, h2, h3, h4, h5, h6, h7⟩ := of_decide_eq_true hc
  have hb := hm 0 _ _ rfl
  have hu := hm 1 _ _ rfl
  have hg := u64_iff.1 (hv (.o (.p (.int .u64 g))) (by simp))
  have hb2 := u64_iff.1 (hv (.o (.p (.int .u64 b))) (by simp))
  have h47 : lim = 140737488355328 := by decide
  obtain ⟨G, rfl⟩ := Int.eq_ofNat_of_zero_le hg.1
  obtain ⟨J, rfl⟩ := Int.eq_ofNat_of_zero_le h2
  obtain ⟨B, rfl⟩ := Int.eq_ofNat_of_zero_le hb2.1
  rw [hb.1, Int.toNat_natCast, Int.toNat_natCast, Int.toNat_natCast] at h6
  rw [Int.toNat_natCast, Int.toNat_natCast] at h7
  have hUe : winU bs us J G B + B * 18446744073709551616 ^ (nb + 1) = val ((us.drop J).take (nb + 1)) + G * val bs := by
    unfold winU
    rw [hb.1, Int.toNat_natCast, Int.toNat_natCast]
    exact Nat.sub_add_cancel h6
  have hlen := hu.1
  have key := long_loop6 o nb nu nq J (winU bs us J G B) bs qs (us.take J) (us.drop (J + nb + 1)) hb.2.2 hb.1 h5 (by rw [List.length_take]; omega) (inR_take hu.2.2 _) (inR_drop hu.2.2 _) (by rw [List.length_drop]; omega) (by have := hu.2.1; omega) κ (G - winU bs us J G B / val bs) G B ((us.drop J).take (nb + 1)) (by rw [List.length_take, List.length_drop]; omega) (inR_take (inR_drop hu.2.2 _) _) (by omega) (by omega) hUe (by omega)
  rw [← win_split (by omega)] at key
  exact ⟨_, key.trans h⟩
/-- One digit. -/
theorem long_digit {bs us qs : List Int} {nb nu nq J G : Nat} (hb : inR .u64 bs) (hu : inR .u64 us) (hbl : bs.length = nb) (hul : us.length = nu) (hV : 0 < val bs) (hj : J + nb < nu) (hU : nu ≤ 140737488355328) (hq : J < nq) (hG : G < 18446744073709551616)
    (hge : val ((us.drop J).take (nb + 1)) / val bs ≤ G) (k : List Int → List Int → R) :
    longK c4 p4 b4 a4 c6 g6 a6 (nb : Int) (J : Int) (G : Int) nb nu nq bs us qs k = k (us.take J ++ wordsN (nb + 1) (val ((us.drop J).take (nb + 1)) % val bs) ++ us.drop (J + nb + 1)) (qs.set J ((val ((us.drop J).take (nb + 1)) / val bs : Nat) : Int)) := by
  have hs := win_split (us := us) (J := J) (nb := nb) (by omega)
  have hT : (us.take J).length = J := by rw [List.length_take]; omega
  have hA : ((us.drop J).take (nb + 1)).length = nb + 1 := by rw [List.length_take, List.length_drop]; omega
  have hAR := inR_take (inR_drop hu J) (nb + 1)
  have hVlt := val_lt hb
  rw [hbl] at hVlt
  generalize hTT : us.take J = T at *
  generalize hAA : (us.drop J).take (nb + 1) = A at *
  generalize hDD : us.drop (J + nb + 1) = D at *
  have hLR := inR_take hAR nb
  have hlow := val_lt hLR
  rw [List.length_take, Nat.min_eq_left (by omega)] at hlow
  have hvA := val_last hA
  have htop := inR_at hAR nb
  obtain ⟨top, ht⟩ := Int.eq_ofNat_of_zero_le htop.1
  rw [ht, Int.toNat_natCast] at hvA
  rw [ht] at htop
  have e1 : IntKind.i64.wrap ((J : Int) + (nb : Int)) = ((J + nb : Nat) : Int) := by rw [i64_wrap (by omega) (by omega)]; omega
  have ea : a4 bs us (J : Int) (G : Int) nb = T ++ wordsN nb (val (A.take nb) + (18446744073709551616 ^ nb - G * val bs % 18446744073709551616 ^ nb)) ++ ((top : Int) :: D) := by
    unfold a4
    rw [Int.toNat_natCast, Int.toNat_natCast]
    conv => lhs; rw [hs]
    rw [win_take hT, win_low hT hA, win_high hT hA, ht]
  have eb : b4 bs us (J : Int) (G : Int) nb = if val (A.take nb) < G * val bs % 18446744073709551616 ^ nb then 1 else 0 := by
    unfold b4
    rw [Int.toNat_natCast, Int.toNat_natCast]
    have : List.take nb (List.drop J us) = A.take nb := by rw [hs, win_low hT hA]
    rw [this]
  have ep : p4 bs (G : Int) nb = ((G * val bs / 18446744073709551616 ^ nb : Nat) : Int) := by unfold p4; rw [Int.toNat_natCast]
  obtain ⟨b, hbb⟩ : ∃ b : Nat, b = if val (A.take nb) < G * val bs % 18446744073709551616 ^ nb then 1 else 0 := ⟨_, rfl⟩
  have eb2 : b4 bs us (J : Int) (G : Int) nb = (b : Int) := by
    rw [eb, hbb]
    split <;> rfl
  have hb01 : b ≤ 1 := by rw [hbb]; split <;> omega
  have hPl : G * val bs % 18446744073709551616 ^ nb < 18446744073709551616 ^ nb := Nat.mod_lt _ (pow_pos64 _)
  have hPs := Nat.mod_add_div (G * val bs) (18446744073709551616 ^ nb)
  have hc : G * val bs / 18446744073709551616 ^ nb < 18446744073709551616 := by
    rw [Nat.div_lt_iff_lt_mul (pow_pos64 nb)]
    rcases Nat.eq_zero_or_pos G with h2 | h2
    · rw [h2, Nat.zero_mul]; exact Nat.mul_pos (by decide) (pow_pos64 _)
    · exact Nat.lt_of_lt_of_le (Nat.mul_lt_mul_of_pos_left hVlt h2) (Nat.mul_le_mul_right _ (by omega))
  have hz : val (wordsN nb (val (A.take nb) + (18446744073709551616 ^ nb - G * val bs % 18446744073709551616 ^ nb))) + G * val bs % 18446744073709551616 ^ nb = val (A.take nb) + 18446744073709551616 ^ nb * b := by
    rw [val_wordsN, hbb]
    split
    · rw [Nat.mod_eq_of_lt (by omega), Nat.mul_one]; omega
    · rw [show val (A.take nb) + (18446744073709551616 ^ nb - G * val bs % 18446744073709551616 ^ nb) = (val (A.take nb) - G * val bs % 18446744073709551616 ^ nb) + 18446744073709551616 ^ nb by omega, Nat.add_mod_right, Nat.mod_eq_of_lt (by omega), Nat.mul_zero]; omega
  unfold longK
  dsimp only
  rw [e1, Int.toNat_natCast, ea, eb2, ep, win_get hT (length_wordsN _ _), win_set hT (length_wordsN _ _)]
  generalize hC : G * val bs / 18446744073709551616 ^ nb = C at *
  obtain ⟨b', hb'⟩ : ∃ b' : Nat, -(((top : Int) - (C : Int) - (b : Int)) / 18446744073709551616) = (b' : Int) := ⟨(-(((top : Int) - (C : Int) - (b : Int)) / 18446744073709551616)).toNat, by omega⟩
  obtain ⟨w, hw⟩ : ∃ w : Nat, ((top : Int) - (C : Int) - (b : Int)) % 18446744073709551616 = (w : Int) := ⟨(((top : Int) - (C : Int) - (b : Int)) % 18446744073709551616).toNat, by omega⟩
  have hwb : w + C + b = top + 18446744073709551616 * b' := by omega
  have hb'1 : b' ≤ 1 := by omega
  have hw1 : w < 18446744073709551616 := by omega
  rw [hb', hw]
  have hA5R : inR .u64 (wordsN nb (val (A.take nb) + (18446744073709551616 ^ nb - G * val bs % 18446744073709551616 ^ nb)) ++ [(w : Int)]) := inR_append (inR_wordsN _ _) (fun z hz => by
      rcases List.mem_cons.1 hz with rfl | hz
      · exact u64_iff.2 ⟨by omega, by omega⟩
      · cases hz)
  have hA5l : (wordsN nb (val (A.take nb) + (18446744073709551616 ^ nb - G * val bs % 18446744073709551616 ^ nb)) ++ [(w : Int)]).length = nb + 1 := by rw [List.length_append, length_wordsN]; rfl
  have hA5v : val (wordsN nb (val (A.take nb) + (18446744073709551616 ^ nb - G * val bs % 18446744073709551616 ^ nb)) ++ [(w : Int)]) + G * val bs = val A + b' * 18446744073709551616 ^ (nb + 1) := by
    rw [val_append, length_wordsN, hvA]
    have h1 : val [(w : Int)] = w := by simp [val]
    have h2 : 18446744073709551616 ^ nb * (w + C + b) = 18446744073709551616 ^ nb * (top + 18446744073709551616 * b') := by rw [hwb]
    rw [Nat.mul_add, Nat.mul_add, Nat.mul_add, ← Nat.mul_assoc, ← Nat.pow_succ, show nb.succ = nb + 1 from rfl] at h2
    rw [h1, Nat.mul_comm b']
    generalize val (wordsN nb (val (A.take nb) + (18446744073709551616 ^ nb - G * val bs % 18446744073709551616 ^ nb))) = z at *
    omega
  generalize wordsN nb (val (A.take nb) + (18446744073709551616 ^ nb - G * val bs % 18446744073709551616 ^ nb)) ++ [(w : Int)] = A5 at *
  have hwin : winU bs (T ++ A5 ++ D) J (G : Int) (b' : Int) = val A := by
    unfold winU
    rw [hbl, win_all hT hA5l, Int.toNat_natCast, Int.toNat_natCast]
    omega
  have eg : g6 bs (T ++ A5 ++ D) (J : Int) (G : Int) (b' : Int) = ((val A / val bs : Nat) : Int) := by unfold g6; rw [Int.toNat_natCast, hwin]
  have ea6 : a6 bs (T ++ A5 ++ D) (J : Int) (G : Int) (b' : Int) nb = T ++ wordsN (nb + 1) (val A % val bs) ++ D := by
    unfold a6
    rw [Int.toNat_natCast, hwin, win_take hT]
    congr 1
    rw [show J + nb + 1 = J + (nb + 1) from rfl, ← List.drop_drop, win_drop hT, List.drop_append_of_le_length (by omega), List.drop_eq_nil_of_le (by omega), List.nil_append]
  have ec4 : c4 0 0 (nb : Int) 0 (J : Int) nb nu = true := decide_eq_true ⟨rfl, rfl, rfl, rfl, by omega, by omega⟩
  have ec6 : c6 (nb : Int) (J : Int) (b' : Int) nb nu bs (T ++ A5 ++ D) (G : Int) = true := by
    unfold c6
    refine decide_eq_true ⟨rfl, by omega, by omega, by omega, hV, ?_, ?_⟩
    · show b' * 18446744073709551616 ^ (bs.length + 1) ≤ val (((T ++ A5 ++ D).drop J).take (bs.length + 1)) + G * val bs
      rw [hbl, win_all hT hA5l]
      omega
    · show winU bs (T ++ A5 ++ D) J (G : Int) (b' : Int) / val bs ≤ G
      rw [hwin]
      exact hge
  rw [ec4, cond_true, decide_eq_true (show (0 : Int) ≤ ((J + nb : Nat) : Int) ∧ ((J + nb : Nat) : Int) < (nu : Int) by omega), cond_true, cond_true, decide_eq_true (show J + nb < nu by omega), cond_true, decide_eq_true (show (b : Int) ≤ 1 by omega), cond_true, decide_eq_true (show J + nb < nu ∧ IntKind.u64 = IntKind.u64 ∧ (Ty.i .u64).size = 1 from ⟨by omega, rfl, rfl⟩), cond_true, ec6, cond_true,
    decide_eq_true (show (0 : Int) ≤ (J : Int) ∧ (J : Int) < (nq : Int) by omega), cond_true, Int.toNat_natCast, decide_eq_true (show J < nq ∧ IntKind.u64 = IntKind.u64 ∧ (Ty.i .u64).size = 1 from ⟨by omega, rfl, rfl⟩), cond_true, eg, ea6]
theorem top_two {xs : List Int} (h : inR .u64 xs) {n : Nat} (hl : xs.length = n + 2) : val xs / 18446744073709551616 ^ n = (xs.getD n 0).toNat + 18446744073709551616 * (xs.getD (n + 1) 0).toNat := by
  rw [← val_drop h, val_drop_cons, val_drop_cons xs (n + 1), List.drop_eq_nil_of_le (by omega)]
  simp [val]
theorem top_three {xs : List Int} (h : inR .u64 xs) {n : Nat} (hl : xs.length = n + 3) : val xs / 18446744073709551616 ^ n = (xs.getD n 0).toNat + 18446744073709551616 * ((xs.getD (n + 1) 0).toNat + 18446744073709551616 * (xs.getD (n + 2) 0).toNat) := by
  rw [← val_drop h, val_drop_cons, val_drop_cons xs (n + 1), val_drop_cons xs (n + 2), List.drop_eq_nil_of_le (by omega)]
  simp [val]
theorem longT_eq {K : Int → R} {bs us : List Int} {nb nu k : Nat} (hb : inR .u64 bs) (hu : inR .u64 us) (h2 : 2 ≤ nb) (hk : k + nb < nu) (hU : nu ≤ 140737488355328) {ex : R} :
    longT c2 a2 K (nb : Int) (k : Int) nb nu bs us ex = cond (decide (us.getD (k + nb) 0 < bs.getD (nb - 1) 0))
      (K (a2 bs us (k : Int) nb ((((us.getD (k + nb) 0).toNat * 18446744073709551616 + (us.getD (k + nb - 1) 0).toNat) / (bs.getD (nb - 1) 0).toNat : Nat) : Int) ((((us.getD (k + nb) 0).toNat * 18446744073709551616 + (us.getD (k + nb - 1) 0).toNat) % (bs.getD (nb - 1) 0).toNat : Nat) : Int))) (K 18446744073709551615) := by
  have e1 : IntKind.i64.wrap ((k : Int) + (nb : Int)) = ((k + nb : Nat) : Int) := by rw [i64_wrap (by omega) (by omega)]; omega
  have e2 : IntKind.i64.wrap ((nb : Int) - 1) = ((nb - 1 : Nat) : Int) := by rw [i64_wrap (by omega) (by omega)]; omega
  have e3 : IntKind.i64.wrap (((k + nb : Nat) : Int) - 1) = ((k + nb - 1 : Nat) : Int) := by rw [i64_wrap (by omega) (by omega)]; omega
  have d1 : decide ((k : Int) ≥ 0) = true := decide_eq_true (by omega)
  have d2 : decide ((0 : Int) ≤ ((k + nb : Nat) : Int) ∧ ((k + nb : Nat) : Int) < (nu : Int)) = true := decide_eq_true (by omega)
  have d3 : decide (k + nb < nu) = true := decide_eq_true (by omega)
  have d4 : decide ((0 : Int) ≤ ((nb - 1 : Nat) : Int) ∧ ((nb - 1 : Nat) : Int) < (nb : Int)) = true := decide_eq_true (by omega)
  have d5 : decide (nb - 1 < nb) = true := decide_eq_true (by omega)
  have d6 : decide ((0 : Int) ≤ ((k + nb - 1 : Nat) : Int) ∧ ((k + nb - 1 : Nat) : Int) < (nu : Int)) = true := decide_eq_true (by omega)
  have d7 : decide (k + nb - 1 < nu) = true := decide_eq_true (by omega)
  have d8 : c2 (nb : Int) (k : Int) nb nu = true := decide_eq_true ⟨rfl, by omega, by omega, by omega⟩
  unfold longT
  dsimp only
  rw [e1, e2, e3, Int.toNat_natCast, Int.toNat_natCast, Int.toNat_natCast, d1, cond_true, d2, cond_true, d3, cond_true, d4, cond_true, d5, cond_true]
  cases decide (us.getD (k + nb) 0 < bs.getD (nb - 1) 0)
  · rfl
  · rw [cond_true, cond_true, cond_true, cond_true, d6, cond_true, d7, cond_true, cond_true, cond_true, cond_true, d8, cond_true]
theorem guess_num {q Y1 Y2 HI LO U2 : Nat} (hq : q * (Y1 * 18446744073709551616 + Y2) ≤ (HI * 18446744073709551616 + LO) * 18446744073709551616 + U2) (h1 : HI < Y1) (hLO : LO < 18446744073709551616) (hU2 : U2 < 18446744073709551616) (hY : Y1 < 18446744073709551616) :
    q ≤ adj Y1 Y2 U2 ((HI * 18446744073709551616 + LO) / Y1) ((HI * 18446744073709551616 + LO) % Y1) ∧ adj Y1 Y2 U2 ((HI * 18446744073709551616 + LO) / Y1) ((HI * 18446744073709551616 + LO) % Y1) < 18446744073709551616 := by
  have hq1 : q ≤ (HI * 18446744073709551616 + LO) / Y1 := by
    rw [Nat.le_div_iff_mul_le (by omega)]
    rw [Nat.mul_add, ← Nat.mul_assoc] at hq
    generalize q * Y1 = a at *
    omega
  have hdm := Nat.div_add_mod (HI * 18446744073709551616 + LO) Y1
  rw [Nat.mul_comm Y1] at hdm
  obtain ⟨a1, a2⟩ := adj_ge hq hU2 _ _ hdm hq1
  have hg : (HI * 18446744073709551616 + LO) / Y1 < 18446744073709551616 := by
    rw [Nat.div_lt_iff_lt_mul (by omega), Nat.mul_comm 18446744073709551616]
    have : (HI + 1) * 18446744073709551616 ≤ Y1 * 18446744073709551616 := Nat.mul_le_mul_right _ h1
    omega
  exact ⟨a1, Nat.lt_of_le_of_lt a2 hg⟩
theorem guess {bs us : List Int} {nb k U : Nat} (hb : inR .u64 bs) (hbl : bs.length = nb) (h2 : 2 ≤ nb) (hwR : inR .u64 ((us.drop k).take (nb + 1))) (hwl : ((us.drop k).take (nb + 1)).length = nb + 1) (hwinv : val ((us.drop k).take (nb + 1)) = U) (hUlt : U < val bs * 18446744073709551616) :
    (us.getD (k + nb) 0 < bs.getD (nb - 1) 0 → ∃ G : Nat, a2 bs us (k : Int) nb ((((us.getD (k + nb) 0).toNat * 18446744073709551616 + (us.getD (k + nb - 1) 0).toNat) / (bs.getD (nb - 1) 0).toNat : Nat) : Int) ((((us.getD (k + nb) 0).toNat * 18446744073709551616 + (us.getD (k + nb - 1) 0).toNat) % (bs.getD (nb - 1) 0).toNat : Nat) : Int) = (G : Int) ∧ G < 18446744073709551616 ∧ U / val bs ≤ G) ∧ U / val bs ≤ 18446744073709551615 := by
  constructor
  · intro hlt
    obtain ⟨m, rfl⟩ : ∃ m, nb = m + 2 := ⟨nb - 2, by omega⟩
    have t1 := top_two hb hbl
    have t2 := top_three hwR (n := m) hwl
    rw [hwinv] at t2
    have g0 : us.getD (k + (m + 2)) 0 = ((us.drop k).take (m + 2 + 1)).getD (m + 2) 0 := at_win (by omega)
    have g1 : us.getD (k + (m + 2) - 1) 0 = ((us.drop k).take (m + 2 + 1)).getD (m + 1) 0 := by rw [show k + (m + 2) - 1 = k + (m + 1) by omega]; exact at_win (by omega)
    have g2 : us.getD (k + (m + 2) - 2) 0 = ((us.drop k).take (m + 2 + 1)).getD m 0 := by rw [show k + (m + 2) - 2 = k + m by omega]; exact at_win (by omega)
    have alo := inR_at hwR (m + 1)
    have au2 := inR_at hwR m
    have ahi := inR_at hwR (m + 2)
    have ay2 := inR_at hb m
    have ay := inR_at hb (m + 1)
    unfold a2
    rw [show m + 2 - 1 = m + 1 from rfl, show m + 2 - 2 = m from rfl] at *
    rw [Int.toNat_natCast, Int.toNat_natCast, Int.toNat_natCast, g0, g1, g2]
    rw [g0] at hlt
    generalize ((us.drop k).take (m + 2 + 1)).getD (m + 2) 0 = hi at *
    generalize ((us.drop k).take (m + 2 + 1)).getD (m + 1) 0 = lo at *
    generalize ((us.drop k).take (m + 2 + 1)).getD m 0 = u2 at *
    generalize bs.getD (m + 1) 0 = y1 at *
    generalize bs.getD m 0 = y2 at *
    refine ⟨_, rfl, ?_⟩
    have hqV : U / val bs * val bs ≤ U := Nat.div_mul_le_self _ _
    have hq : U / val bs * (y1.toNat * 18446744073709551616 + y2.toNat) ≤ (hi.toNat * 18446744073709551616 + lo.toNat) * 18446744073709551616 + u2.toNat := by
      have e1 : val bs / 18446744073709551616 ^ m = y1.toNat * 18446744073709551616 + y2.toNat := by rw [t1, Nat.mul_comm, Nat.add_comm]
      have e2 : U / 18446744073709551616 ^ m = (hi.toNat * 18446744073709551616 + lo.toNat) * 18446744073709551616 + u2.toNat := by rw [t2, Nat.mul_comm, Nat.add_comm, Nat.mul_comm 18446744073709551616 hi.toNat, Nat.add_comm (lo.toNat)]
      rw [← e1, ← e2, Nat.le_div_iff_mul_le (pow_pos64 m), Nat.mul_assoc]
      exact Nat.le_trans (Nat.mul_le_mul_left _ (Nat.div_mul_le_self _ _)) hqV
    clear t1 t2 hwinv hUlt hqV
    have r := guess_num hq (by omega) (by omega) (by omega) (by omega)
    exact ⟨r.2, r.1⟩
  · have hV : 0 < val bs := by
      rcases Nat.eq_zero_or_pos (val bs) with h | h
      · rw [h, Nat.zero_mul] at hUlt; omega
      · exact h
    have : U / val bs < 18446744073709551616 := by rw [Nat.div_lt_iff_lt_mul hV, Nat.mul_comm]; exact hUlt
    omega
theorem long_loop (o : Own) (nb nu nq A : Nat) (bs : List Int) (hb : inR .u64 bs) (hbl : bs.length = nb) (h2 : 2 ≤ nb) (hw : wlen (val bs) = nb) (hnu : nq = 0 ∨ nq + nb = nu) (hU : nu ≤ 140737488355328) (hB : nb ≤ 140737488355328) (κ : Vm.X → List V → Mem → R) :
    ∀ (k : Nat), k ≤ nq →
    lx longE Try.f90 0 (k + 1) (longSt (nb : Int) ((k : Int) - 1)) [(o, .w .u64 nb bs), (.mine, .w .u64 nu (wordsN nu (A % (val bs * 18446744073709551616 ^ k)))), (.mine, .w .u64 nq (List.replicate (min k nq) 0 ++ (wordsN nq (A / val bs)).drop k))] κ =
      κ (.exit 0) (lay 243 [6, 7, 8] [.o (.p (.int .i64 (nb : Int))), .o (.f 0), .o (.f 1)]) [(.mine, .w .u64 nu (wordsN nu (A % val bs))), (.mine, .w .u64 nq (wordsN nq (A / val bs)))] := by
  have hVlt := val_lt hb
  rw [hbl] at hVlt
  have hV1 : 18446744073709551616 ^ (nb - 1) ≤ val bs := by
    rcases Nat.lt_or_ge (val bs) (18446744073709551616 ^ (nb - 1)) with h | h
    · have := (wlen_le _ _).2 h; omega
    · exact h
  have hV : 0 < val bs := Nat.lt_of_lt_of_le (pow_pos64 _) hV1
  intro k
  induction k with
  | zero =>
    intro _
    rw [long_round]
    unfold longT
    dsimp only
    rw [decide_eq_false (by omega), cond_false, Nat.pow_zero, Nat.mul_one, Nat.zero_min]
    rfl
  | succ k ih =>
    intro hk
    have hnq : nq + nb = nu := by omega
    have next := ih (by omega)
    obtain ⟨R, hR⟩ : ∃ R, R = A % (val bs * 18446744073709551616 ^ (k + 1)) := ⟨_, rfl⟩
    have hP : 0 < val bs * 18446744073709551616 ^ (k + 1) := Nat.mul_pos hV (pow_pos64 _)
    have hRlt : R < val bs * 18446744073709551616 ^ (k + 1) := by rw [hR]; exact Nat.mod_lt _ hP
    rw [← hR]
    have hRW : R < 18446744073709551616 ^ (k + (nb + 1)) := by
      refine Nat.lt_of_lt_of_le hRlt ?_
      rw [show k + (nb + 1) = nb + (k + 1) by omega, Nat.pow_add 18446744073709551616 nb (k + 1)]
      exact Nat.mul_le_mul_right _ (Nat.le_of_lt hVlt)
    have hRnu : R < 18446744073709551616 ^ nu := Nat.lt_of_lt_of_le hRW (Nat.pow_le_pow_right (by decide) (by omega))
    have huR := inR_wordsN nu R
    have hul := length_wordsN nu R
    have huv : val (wordsN nu R) = R := by rw [val_wordsN, Nat.mod_eq_of_lt hRnu]
    have hwinv : val (((wordsN nu R).drop k).take (nb + 1)) = R / 18446744073709551616 ^ k := by
      rw [val_take (inR_drop huR k), val_drop huR, huv, Nat.mod_eq_of_lt]
      rw [Nat.div_lt_iff_lt_mul (pow_pos64 k), ← Nat.pow_add, Nat.add_comm (nb + 1) k]
      exact hRW
    have hwl : (((wordsN nu R).drop k).take (nb + 1)).length = nb + 1 := by rw [List.length_take, List.length_drop, hul]; omega
    have hwR := inR_take (inR_drop huR k) (nb + 1)
    have hUlt : R / 18446744073709551616 ^ k < val bs * 18446744073709551616 := by
      rw [Nat.div_lt_iff_lt_mul (pow_pos64 k), Nat.mul_assoc, ← Nat.pow_succ']
      exact hRlt
    have hdig : R / 18446744073709551616 ^ k / val bs = A / val bs / 18446744073709551616 ^ k % 18446744073709551616 := by
      rw [hR, Nat.div_div_eq_div_mul, Nat.div_div_eq_div_mul, Nat.pow_succ, ← Nat.mul_assoc, Nat.mul_comm (18446744073709551616 ^ k) (val bs), Nat.mod_mul_right_div_self]
    have hrest : (wordsN nu R).take k ++ wordsN (nb + 1) (R / 18446744073709551616 ^ k % val bs) ++ (wordsN nu R).drop (k + nb + 1) = wordsN nu (A % (val bs * 18446744073709551616 ^ k)) := by
      refine wordsN_eq (inR_append (inR_append (inR_take huR _) (inR_wordsN _ _)) (inR_drop huR _)) (by simp only [List.length_append, List.length_take, List.length_drop, length_wordsN]; omega) ?_
      rw [val_append, val_append, List.length_append, List.length_take, hul, Nat.min_eq_left (by omega), length_wordsN, val_take huR, val_drop huR, huv, val_wordsN, Nat.div_eq_of_lt (a := R) (b := 18446744073709551616 ^ (k + nb + 1)) hRW, Nat.mul_zero, Nat.add_zero,
        Nat.mod_eq_of_lt (a := R / 18446744073709551616 ^ k % val bs) (Nat.lt_trans (Nat.mod_lt _ hV) (Nat.lt_of_lt_of_le hVlt (Nat.pow_le_pow_right (by decide) (by omega)))), ← Nat.mod_mul, hR, Nat.mul_comm (18446744073709551616 ^ k)]
      exact Nat.mod_mod_of_dvd _ (Nat.mul_dvd_mul_left _ (Nat.pow_dvd_pow _ (by omega)))
    have hset : (List.replicate (min (k + 1) nq) 0 ++ (wordsN nq (A / val bs)).drop (k + 1)).set k ((R / 18446744073709551616 ^ k / val bs : Nat) : Int) = List.replicate (min k nq) 0 ++ (wordsN nq (A / val bs)).drop k := by
      rw [hdig]
      exact set_high (by omega)
    have ek : ((k + 1 : Nat) : Int) - 1 = (k : Int) := by omega
    have e1 : IntKind.i64.wrap ((k : Int) + (nb : Int)) = ((k + nb : Nat) : Int) := by rw [i64_wrap (by omega) (by omega)]; omega
    have e2 : IntKind.i64.wrap ((nb : Int) - 1) = ((nb - 1 : Nat) : Int) := by rw [i64_wrap (by omega) (by omega)]; omega
    have e3 : IntKind.i64.wrap (((k + nb : Nat) : Int) - 1) = ((k + nb - 1 : Nat) : Int) := by rw [i64_wrap (by omega) (by omega)]; omega
    have e4 : IntKind.i64.wrap ((k : Int) - 1) = (k : Int) - 1 := i64_wrap (by omega) (by omega)
    -- the digit, of any guess that is not too small
    have dig : ∀ G : Nat, G < 18446744073709551616 → R / 18446744073709551616 ^ k / val bs ≤ G → longK c4 p4 b4 a4 c6 g6 a6 (nb : Int) (k : Int) (G : Int) nb nu nq bs (wordsN nu R) (List.replicate (min (k + 1) nq) 0 ++ (wordsN nq (A / val bs)).drop (k + 1))
        (fun us qs => lx longE Try.f90 0 (k + 1) (longSt (nb : Int) (IntKind.i64.wrap ((k : Int) - 1))) [(o, .w .u64 nb bs), (.mine, .w .u64 nu us), (.mine, .w .u64 nq qs)] κ) =
        κ (.exit 0) (lay 243 [6, 7, 8] [.o (.p (.int .i64 (nb : Int))), .o (.f 0), .o (.f 1)]) [(.mine, .w .u64 nu (wordsN nu (A % val bs))), (.mine, .w .u64 nq (wordsN nq (A / val bs)))] := by
      intro G hG hge
      rw [long_digit hb huR hbl hul hV (by omega) hU (by omega) hG (by rw [hwinv]; exact hge), hwinv, hrest, hset, e4]
      exact next
    obtain ⟨q1, q2⟩ := guess hb hbl h2 (us := wordsN nu R) hwR hwl hwinv hUlt
    rw [long_round, ek, longT_eq hb huR h2 (by omega) hU]
    cases hd : decide ((wordsN nu R).getD (k + nb) 0 < bs.getD (nb - 1) 0)
    · exact dig 18446744073709551615 (by decide) q2
    · obtain ⟨G, g1, g2, g3⟩ := q1 (of_decide_eq_true hd)
      rw [cond_true, g1]
      exact dig G g2 g3
theorem longL_ok : LoopOK longE 0 (lbody Try.f90 0) longL := loopOK_lx fun vs m κ r hv hm h => by
  split at h
  case h_2 => cases h
  rename_i n j o nb bs nu us nq qs
  replace h := cond_none h
  obtain ⟨hc, h⟩ := h
  obtain ⟨rfl, h2, h3, h4, h5, h6, h7⟩ := of_decide_eq_true hc
  have hb := hm 0 _ _ rfl
  have hu := hm 1 _ _ rfl
  have hz := hm 2 _ _ rfl
  have h47 : lim = 140737488355328 := by decide
  have key := long_loop o nb nu nq (val us) bs hb.2.2 hb.1 h2 h5 h4 (by have := hu.2.1; omega) (by have := hb.2.1; omega) κ nq (Nat.le_refl _)
  have e1 : wordsN nu (val us) = us := (wordsN_eq hu.2.2 hu.1 rfl).symm
  have e2 : List.replicate nq 0 = qs := val_inj (inR_rep nq) hz.2.2 (by rw [hz.1, List.length_replicate]) (by rw [h6, val_zeros])
  rw [Nat.mod_eq_of_lt h7, e1, Nat.min_self, List.drop_eq_nil_of_le (by rw [length_wordsN]; exact Nat.le_refl _), List.append_nil, e2, show (nq : Int) - 1 = j by omega] at key
  exact ⟨_, key.trans h⟩
theorem long_ev (xs ys : List Int) : evFn longE Try.f90 [.w .u64 xs, .w .u64 ys] =
    let n : Int := (ys.length : Int)
    let us := xs ++ [0]
    let N := xs.length + [(0 : Int)].length
    let d := IntKind.i64.wrap ((N : Int) - n)
    let K : Int := if 0 > d then 0 else d
    let qs := wordsN K.toNat (val us / val ys)
    let rs := wordsN N (val us % val ys)
    let h : Int := if (N : Int) < n then (N : Int) else n
    let R := List.take (h.toNat - 0) (List.drop 0 rs)
    cond (decide (xs.length ≤ 1099511627776)) (cond (decide (IntKind.u64 = IntKind.u64 ∧ IntKind.u64 = IntKind.u64 ∧ some 3 ≠ some 2 ∧ N ≤ 17592186044416)) (cond (decide (0 ≤ K ∧ K ≤ K ∧ K ≤ 17592186044416))
      (cond (decide (n = (ys.length : Int) ∧ 2 ≤ ys.length ∧ IntKind.i64.wrap ((K.toNat : Int) - 1) + 1 = (K.toNat : Int) ∧ (K.toNat = 0 ∨ K.toNat + ys.length = N) ∧ wlen (val ys) = ys.length ∧ val (List.replicate K.toNat 0) = 0 ∧ val us < val ys * 18446744073709551616 ^ K.toNat))
        (cond (decide (0 ≤ ((wlen (val qs) : Nat) : Int) ∧ ((wlen (val qs) : Nat) : Int) ≤ (K.toNat : Int))) (cond (decide (0 ≤ h ∧ h ≤ (N : Int))) (cond (decide (0 + (h.toNat - 0) ≤ N)) (cond (decide (0 ≤ ((wlen (val R) : Nat) : Int) ∧ ((wlen (val R) : Nat) : Int) ≤ (N : Int)))
          (cond (decide (0 + (((wlen (val qs) : Nat) : Int).toNat - 0) ≤ K.toNat)) (cond (decide (0 + (((wlen (val R) : Nat) : Int).toNat - 0) ≤ N))
            (some [(.new, .w .u64 (cut qs)), (.new, .w .u64 (List.take (((wlen (val R) : Nat) : Int).toNat - 0) (List.drop 0 rs)))]) none) none) none) none) none) none) none) none) none) none := by kernel_rfl
def longC : FnC := fun ds κ => match ds with
  | [.w .u64 xs, .w .u64 ys] => cond (decide (xs.length ≤ 1000000 ∧ ys.length ≤ 1000000 ∧ 2 ≤ ys.length ∧ wlen (val ys) = ys.length)) (κ [(.new, .w .u64 (words (val xs / val ys))), (.new, .w .u64 (words (val xs % val ys)))]) none
  | _ => none
theorem long_he : ∀ ds κ r, (∀ d ∈ ds, d.wf) → longC ds κ = some r → ∃ res, κ res = some r ∧ evFn longE Try.f90 ds = some res := fun ds κ r hw h => by
  unfold longC at h
  split at h
  case h_2 => cases h
  rename_i xs ys
  replace h := cond_none h
  obtain ⟨hc, h⟩ := h
  obtain ⟨h1, h2, h3, h4⟩ := of_decide_eq_true hc
  obtain ⟨_, hx⟩ := wfW hw (xs := xs) (by simp)
  obtain ⟨_, hy⟩ := wfW hw (xs := ys) (by simp)
  refine ⟨_, h, (long_ev xs ys).trans ?_⟩
  have hV1 : 18446744073709551616 ^ (ys.length - 1) ≤ val ys := by
    rcases Nat.lt_or_ge (val ys) (18446744073709551616 ^ (ys.length - 1)) with h | h
    · have := (wlen_le _ _).2 h; omega
    · exact h
  have hV : 0 < val ys := Nat.lt_of_lt_of_le (pow_pos64 _) hV1
  have hVlt := val_lt hy
  have hxlt := val_lt hx
  have hus : val (xs ++ [0]) = val xs := by rw [val_append]; simp [val]
  dsimp only
  rw [hus]
  obtain ⟨K, hK⟩ : ∃ K : Nat, K = xs.length + 1 - ys.length := ⟨_, rfl⟩
  have eK : (if 0 > IntKind.i64.wrap (((xs.length + [(0 : Int)].length : Nat) : Int) - (ys.length : Int)) then (0 : Int) else IntKind.i64.wrap (((xs.length + [(0 : Int)].length : Nat) : Int) - (ys.length : Int))) = (K : Int) := by
    have : [(0 : Int)].length = 1 := rfl
    rw [this, i64_wrap (by omega) (by omega)]
    split <;> omega
  have eN : xs.length + [(0 : Int)].length = xs.length + 1 := rfl
  rw [eK, eN, Int.toNat_natCast]
  obtain ⟨H, hH⟩ : ∃ H : Nat, H = min (xs.length + 1) ys.length := ⟨_, rfl⟩
  have eH : (if ((xs.length + 1 : Nat) : Int) < (ys.length : Int) then ((xs.length + 1 : Nat) : Int) else (ys.length : Int)) = (H : Int) := by split <;> omega
  rw [eH, Int.toNat_natCast, Nat.sub_zero, List.drop_zero]
  have hQ : val xs / val ys < 18446744073709551616 ^ K := by
    by_cases hc : ys.length ≤ xs.length + 1
    · rw [Nat.div_lt_iff_lt_mul hV]
      refine Nat.lt_of_lt_of_le hxlt (Nat.le_trans ?_ (Nat.mul_le_mul_left _ hV1))
      rw [← Nat.pow_add]
      exact Nat.pow_le_pow_right (by decide) (by omega)
    · rw [Nat.div_eq_of_lt (Nat.lt_of_lt_of_le hxlt (Nat.le_trans (Nat.pow_le_pow_right (by decide) (by omega)) hV1))]
      exact pow_pos64 _
  have hlt : val xs < val ys * 18446744073709551616 ^ K := by
    rw [Nat.div_lt_iff_lt_mul hV, Nat.mul_comm] at hQ
    exact hQ
  have hR : val xs % val ys < 18446744073709551616 ^ H := by
    by_cases hc : ys.length ≤ xs.length + 1
    · rw [hH, Nat.min_eq_right hc]
      exact Nat.lt_trans (Nat.mod_lt _ hV) hVlt
    · rw [hH, Nat.min_eq_left (by omega)]
      exact Nat.lt_of_le_of_lt (Nat.mod_le _ _) (Nat.lt_of_lt_of_le hxlt (Nat.pow_le_pow_right (by decide) (by omega)))
  have hRN : val xs % val ys < 18446744073709551616 ^ (xs.length + 1) := Nat.lt_of_lt_of_le hR (Nat.pow_le_pow_right (by decide) (by omega))
  have hqR := inR_wordsN K (val xs / val ys)
  have hqv : val (wordsN K (val xs / val ys)) = val xs / val ys := by rw [val_wordsN, Nat.mod_eq_of_lt hQ]
  have hrR := inR_wordsN (xs.length + 1) (val xs % val ys)
  have hrv : val (wordsN (xs.length + 1) (val xs % val ys)) = val xs % val ys := by rw [val_wordsN, Nat.mod_eq_of_lt hRN]
  have hRv : val (List.take H (wordsN (xs.length + 1) (val xs % val ys))) = val xs % val ys := by rw [val_take hrR, hrv, Nat.mod_eq_of_lt hR]
  have hwq := wlen_val hqR
  have hwr := wlen_val hrR
  rw [length_wordsN] at hwq hwr
  rw [hqv] at hwq
  rw [hrv] at hwr
  have htr := take_words hrR
  rw [hrv] at htr
  rw [hRv, cut_eq hqR, hqv, Int.toNat_natCast, Nat.sub_zero, Int.toNat_natCast, Nat.sub_zero, htr, val_zeros]
  rw [decide_eq_true (show xs.length ≤ 1099511627776 by omega), cond_true, decide_eq_true ⟨rfl, rfl, by decide, by omega⟩, cond_true, decide_eq_true (by omega), cond_true, i64_wrap (by omega) (by omega), decide_eq_true ⟨rfl, h3, by omega, by omega, h4, rfl, hlt⟩, cond_true, decide_eq_true (by omega), cond_true, decide_eq_true (by omega), cond_true, decide_eq_true (by omega), cond_true,
    decide_eq_true (by omega), cond_true, decide_eq_true (by omega), cond_true, decide_eq_true (by omega), cond_true]
theorem long_fn : FnOK Try.prog 90 longC := fnOK_mk T mixed Try.func90 (by kernel_rfl) (fns := [(58, cloneC), (82, div64C), (47, mul64C), (48, add64C), (67, sub64C), (59, nSizeC)]) (lps := [(0, longL), (2, longL2), (4, longL4), (6, longL6), (8, longL8)]) (live := [(0, [1, 6, 7, 8, 9]), (2, [1, 6, 7, 8, 9, 10, 11]), (4, [1, 6, 7, 8, 9, 10, 15, 16, 121, 122, 123]), (6, [1, 6, 7, 8, 9, 10, 16]), (8, [1, 6, 7, 8, 9, 10, 16, 22, 182, 183, 184])]) (out := [(0, [6, 7, 8]), (2, [1, 6, 7, 8, 9, 10]), (4, [1, 6, 7, 8, 9, 10, 15, 16]), (6, [1, 6, 7, 8, 9, 10]), (8, [1, 6, 7, 8, 9, 10, 16, 22])]) (fuel := 0) (give := (fun _ => false)) ⟨clone_fn, div64_fn, mul64_fn, add64_fn, sub64_fn, nSize_fn, trivial⟩ ⟨longL_ok, longL2_ok, longL4_ok, longL6_ok, longL8_ok, trivial⟩ long_he
end
end Go.Proofs.Ytcglfmldodhakaa.Vm
