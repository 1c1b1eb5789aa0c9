/-
  Contracts out of lists: an environment for one function, and what its proof owes. No statement is proved here.
-/
import Derived.Test.YtmjbikbakkbajaaVmX
import Derived.Test.YtmjbikbakkbajaaVmN
import Derived.Test.YtmjbikbakkbajaaCalA
import Derived.Laws.Externs
import Derived.KernelRfl
namespace Go.Vm
variable {P : Program}

abbrev FnC := List D → (List (Own × D) → R) → R
abbrev LpC := List V → Mem → (X → List V → Mem → R) → R
def look {α : Type} : List (Nat × α) → Nat → Option α
  | [], _ => none
  | (j, F) :: l, k => bif j == k then some F else look l k
structure Tys (P : Program) where
  ty : TypeId → Option Ty
  td : ∀ t td, ty t = some td → TdOK P t td
  eq : ∀ t td, ty t = some td → EqOK P t td
/-- An environment: contracts of functions, of loops; what is live at a loop's head, and behind it. -/
def mkE (ty : TypeId → Option Ty) (fns : List (FuncId × FnC)) (lps : List (Nat × LpC)) (live out : List (Nat × List Nat)) (fuel : Nat := 0) (give : FuncId → Bool := fun _ => false) : Env :=
  { ty := ty, fn := look fns, live := fun b => (look live b).getD [], fuel := fuel, lp := look lps, out := fun b => (look out b).getD [], give := give }
def FnsOK (P : Program) : List (FuncId × FnC) → Prop
  | [] => True
  | p :: l => FnOK P p.1 p.2 ∧ FnsOK P l
theorem FnsOK.look {k : Nat} {F : FnC} : ∀ {l : List (FuncId × FnC)}, FnsOK P l → Vm.look l k = some F → FnOK P k F
  | [], _, h => by cases h
  | (j, G) :: l, h, e => by
    simp only [Vm.look] at e
    cases hj : (j == k) <;> rw [hj] at e
    · exact FnsOK.look h.2 e
    · cases e
      have : j = k := by simpa using hj
      subst this
      exact h.1
theorem envOK_mk (T : Tys P) {fns : List (FuncId × FnC)} {lps : List (Nat × LpC)} {live out : List (Nat × List Nat)} {fuel : Nat} {give : FuncId → Bool} (h : FnsOK P fns) : EnvOK P (mkE T.ty fns lps live out fuel give) :=
  ⟨T.td, T.eq, fun _ _ hF => h.look hF⟩

/-- The loop in block b of a function. -/
def lbody (f : Func) (b : Nat) : Code := (((loopsOf 0 (f.body.getD .skip)).find? (·.1 == b)).map (·.2)).getD .skip
def distinct : List Nat → Bool
  | [] => true
  | a :: l => !l.contains a && distinct l
def sideB (f : Func) : Bool := !(f.name == "runtime.NumGoroutine") && f.results.size == f.resultTypes.size && distinct ((loopsOf 0 (f.body.getD .skip)).map (·.1))
theorem find_distinct : ∀ (l : List (Nat × Code)) (q : Nat × Code), distinct (l.map (·.1)) = true → q ∈ l → l.find? (·.1 == q.1) = some q
  | [], _, _, h => by cases h
  | p :: l, q, hd, h => by
    simp only [List.map_cons, distinct, Bool.and_eq_true, Bool.not_eq_true'] at hd
    rcases List.mem_cons.1 h with rfl | h
    · simp
    · have hne : (p.1 == q.1) = false := by
        cases hc : (p.1 == q.1)
        · rfl
        · exfalso
          have e : p.1 = q.1 := by simpa using hc
          have : (l.map (·.1)).contains p.1 = true := by simp; exact ⟨q.2, by rw [e]; exact h⟩
          rw [this] at hd
          cases hd.1
      rw [List.find?_cons_of_neg (by simpa using hne)]
      exact find_distinct l q hd.2 h
def LpsOK (E : Env) (f : Func) : List (Nat × LpC) → Prop
  | [] => True
  | p :: l => LoopOK E p.1 (lbody f p.1) p.2 ∧ LpsOK E f l
theorem LpsOK.look {E : Env} {f : Func} {b : Nat} {F : LpC} : ∀ {l : List (Nat × LpC)}, LpsOK E f l → Vm.look l b = some F → LoopOK E b (lbody f b) F
  | [], _, h => by cases h
  | (j, G) :: l, h, e => by
    simp only [Vm.look] at e
    cases hj : (j == b) <;> rw [hj] at e
    · exact LpsOK.look h.2 e
    · cases e
      have : j = b := by simpa using hj
      subst this
      exact h.1

/-- A contract by evaluation. -/
theorem fnOK_mk (T : Tys P) (hm : P.follows .mixedOrders = true) {k : FuncId} {f : Func} (hf : P.funcs[k]? = some f) (hs : sideB f = true) {fns : List (FuncId × FnC)} {lps : List (Nat × LpC)} {live out : List (Nat × List Nat)} {fuel : Nat} {give : FuncId → Bool}
    (h : FnsOK P fns) (hl : LpsOK (mkE T.ty fns lps live out fuel give) f lps) {F : FnC}
    (he : ∀ ds κ r, (∀ d ∈ ds, d.wf) → F ds κ = some r → ∃ res, κ res = some r ∧ evFn (mkE T.ty fns lps live out fuel give) f ds = some res) : FnOK P k F := by
  unfold sideB at hs
  simp only [Bool.and_eq_true, Bool.not_eq_true', beq_iff_eq] at hs
  refine fnOK_ev (envOK_mk T h) hm hf hs.1.1 hs.1.2 (fun c hc q hq G hG => ?_) he
  have hd := hs.2
  rw [hc] at hd
  have h1 := find_distinct (loopsOf 0 c) q hd hq
  have h2 : lbody f q.1 = q.2 := by unfold lbody; rw [hc]; simp [h1]
  rw [← h2]
  exact hl.look hG

abbrev CallTo (P : Program) (k : FuncId) (w : World) (vs : List Value) (res : List (Own × D)) : Prop :=
  (callFunc k vs.toArray).run P w = .ok (.enter k vs.toArray) w ∧ Calls P k vs.toArray w fun e w' => ∃ rv, e = .returned rv ∧ Go.RowKit.Below w.heap.size w w' ∧ ∃ rs, rv = tupleOf rs ∧ all2 (ResOK w w' vs (res.length = 1)) res rs
/-- A call, evaluated. -/
theorem call_mk (T : Tys P) (hm : P.follows .mixedOrders = true) {k : FuncId} {f : Func} (hf : P.funcs[k]? = some f) (hs : sideB f = true) {fns : List (FuncId × FnC)} {lps : List (Nat × LpC)} {live out : List (Nat × List Nat)} {fuel : Nat} {give : FuncId → Bool}
    (h : FnsOK P fns) (hl : LpsOK (mkE T.ty fns lps live out fuel give) f lps) {w : World} {ds : List D} {vs : List Value} {res : List (Own × D)} (hds : all2 (DR w) ds vs) (he : evFn (mkE T.ty fns lps live out fuel give) f ds = some res) :
    CallTo P k w vs res := by
  unfold sideB at hs
  simp only [Bool.and_eq_true, Bool.not_eq_true', beq_iff_eq] at hs
  refine fn_calls (envOK_mk T h) hm hf hs.1.1 hs.1.2 (fun c hc q hq G hG => ?_) he w vs hds
  have hd := hs.2
  rw [hc] at hd
  have h1 := find_distinct (loopsOf 0 c) q hd hq
  have h2 : lbody f q.1 = q.2 := by unfold lbody; rw [hc]; simp [h1]
  rw [← h2]
  exact hl.look hG
/-- A contract that is the evaluation itself. -/
def evC (E : Env) (f : Func) : FnC := fun ds κ => match evFn E f ds with
  | some res => κ res
  | none => none
theorem evC_he {E : Env} {f : Func} : ∀ ds κ r, (∀ d ∈ ds, D.wf d) → evC E f ds κ = some r → ∃ res, κ res = some r ∧ evFn E f ds = some res := fun ds κ r _ h => by
  unfold evC at h
  split at h
  · exact ⟨_, h, by assumption⟩
  · cases h

/-- A call that runs here and now. -/
theorem fnOK_run {k : FuncId} {F : FnC} (h : ∀ ds κ r, (∀ d ∈ ds, d.wf) → F ds κ = some r → ∃ res, κ res = some r ∧ ∀ (w : World) (vs : List Value), all2 (DR w) ds vs → ∃ rv, (callFunc k vs.toArray).run P w = .ok (.value rv) w ∧ ∃ rs, rv = tupleOf rs ∧ all2 (ResOK w w vs (res.length = 1)) res rs) : FnOK P k F := by
  intro ds κ r hw hF
  obtain ⟨res, h1, h2⟩ := h ds κ r hw hF
  refine ⟨res, h1, fun w vs hv => .inl ?_⟩
  obtain ⟨rv, h3, h4⟩ := h2 w vs hv
  exact ⟨rv, w, h3, Go.RowKit.Below.refl _ _, h4⟩

/-- math/bits.Add64, Sub64: the carry is 0 or 1. -/
def add64C : FnC := fun ds κ => match ds with
  | [.p (.int .u64 x), .p (.int .u64 y), .p (.int .u64 c)] => cond (decide (c ≤ 1)) (κ [(.mine, .p (.int .u64 ((x + y + c) % 18446744073709551616))), (.mine, .p (.int .u64 ((x + y + c) / 18446744073709551616)))]) none
  | _ => none
def sub64C : FnC := fun ds κ => match ds with
  | [.p (.int .u64 x), .p (.int .u64 y), .p (.int .u64 c)] => cond (decide (c ≤ 1)) (κ [(.mine, .p (.int .u64 ((x - y - c) % 18446744073709551616))), (.mine, .p (.int .u64 (-((x - y - c) / 18446744073709551616))))]) none
  | _ => none
def sub64E : Array Value → Sem Value := fun args => do
  let (x, y, b) ← Extern.MathBitsCarry.three "Sub64" args
  pure (Extern.MathBitsCarry.pair ((x + Extern.MathBitsCarry.m64 - y - b) % Extern.MathBitsCarry.m64) (if x < y + b then 1 else 0))
theorem run_sub64E (x y b : Nat) (hb : b ≤ 1) (w : World) :
    (sub64E #[.int .u64 x, .int .u64 y, .int .u64 b]).run P w =
      .ok (.tuple #[.int .u64 (((x + 18446744073709551616 - y - b) % 18446744073709551616 : Nat) : Int), .int .u64 ((if x < y + b then 1 else 0 : Nat) : Int)]) w := by
  have : b = 0 ∨ b = 1 := by omega
  rcases this with rfl | rfl <;> rfl
theorem add64_ok {k : FuncId} {f : Func} (hf : P.funcs[k]? = some f) (hname : (f.name == "runtime.NumGoroutine") = false) (hb : f.body.isNone = true) (hn : Extern.findNext f = none) (he : Extern.find f = some add64Entry) : FnOK P k add64C := by
  refine fnOK_run fun ds κ r hw hF => ?_
  unfold add64C at hF
  split at hF
  case h_2 => cases hF
  rename_i x y c
  obtain ⟨hc, hF⟩ := cond_none hF
  have hc := of_decide_eq_true hc
  have hx := u64_iff.1 (hw (.p (.int .u64 x)) (by simp))
  have hy := u64_iff.1 (hw (.p (.int .u64 y)) (by simp))
  have hz := u64_iff.1 (hw (.p (.int .u64 c)) (by simp))
  refine ⟨_, hF, fun w vs hv => ?_⟩
  match vs, hv with
  | [a, b, d], ⟨⟨e1, _⟩, ⟨e2, _⟩, ⟨e3, _⟩, _⟩ =>
    subst e1 e2 e3
    refine ⟨_, ?_, [_, _], rfl, ⟨⟨rfl, u64_iff.2 ?_⟩, fun h => by cases h⟩, ⟨⟨rfl, u64_iff.2 ?_⟩, fun h => by cases h⟩, trivial⟩
    · rw [run_callFunc_extern hf hname hb hn he, run_add64 x y c hx.1 hy.1 hz.1 hc]
      rfl
    · omega
    · omega
theorem sub64_ok {k : FuncId} {f : Func} (hf : P.funcs[k]? = some f) (hname : (f.name == "runtime.NumGoroutine") = false) (hb : f.body.isNone = true) (hn : Extern.findNext f = none) (he : Extern.find f = some sub64E) : FnOK P k sub64C := by
  refine fnOK_run fun ds κ r hw hF => ?_
  unfold sub64C at hF
  split at hF
  case h_2 => cases hF
  rename_i x y c
  obtain ⟨hc, hF⟩ := cond_none hF
  have hc := of_decide_eq_true hc
  have hx := u64_iff.1 (hw (.p (.int .u64 x)) (by simp))
  have hy := u64_iff.1 (hw (.p (.int .u64 y)) (by simp))
  have hz := u64_iff.1 (hw (.p (.int .u64 c)) (by simp))
  refine ⟨_, hF, fun w vs hv => ?_⟩
  match vs, hv with
  | [a, b, d], ⟨⟨e1, _⟩, ⟨e2, _⟩, ⟨e3, _⟩, _⟩ =>
    subst e1 e2 e3
    refine ⟨_, ?_, [_, _], rfl, ⟨⟨rfl, u64_iff.2 ?_⟩, fun h => by cases h⟩, ⟨⟨rfl, u64_iff.2 ?_⟩, fun h => by cases h⟩, trivial⟩
    · obtain ⟨X, rfl⟩ := Int.eq_ofNat_of_zero_le hx.1
      obtain ⟨Y, rfl⟩ := Int.eq_ofNat_of_zero_le hy.1
      obtain ⟨C, rfl⟩ := Int.eq_ofNat_of_zero_le hz.1
      rw [run_callFunc_extern hf hname hb hn he]
      show ((sub64E #[.int .u64 X, .int .u64 Y, .int .u64 C]).run P w).andThen _ = _
      rw [run_sub64E X Y C (by omega)]
      simp only [Result.andThen_ok]
      have e1 : (((X + 18446744073709551616 - Y - C) % 18446744073709551616 : Nat) : Int) = ((X : Int) - Y - C) % 18446744073709551616 := by omega
      have e2 : ((if X < Y + C then 1 else 0 : Nat) : Int) = -(((X : Int) - Y - C) / 18446744073709551616) := by split <;> omega
      rw [e1, e2]
      rfl
    · omega
    · omega
/-- A function's loop, round by round. -/
def lx (E : Env) (f : Func) (b : Nat) : Nat → List V → Mem → (X → List V → Mem → R) → R := loopX (E.live b) (E.out b) (fun tm m κ => ev E b (lbody f b) tm m κ)
theorem loopOK_lx {E : Env} {b : Nat} {f : Func} {N : Nat} {use : List Nat} {G : List V → Mem → (X → List V → Mem → R) → R}
    (h : ∀ vs m κ r, (∀ v ∈ vs, v.wf) → memWF m → G vs m κ = some r → ∃ fuel, lx E f b fuel (lay N use vs) m κ = some r) : LoopOK E b (lbody f b) (lpC N use G) := loopOK_lpC h
theorem wfW {ds : List D} (h : ∀ d ∈ ds, d.wf) {xs : List Int} (hm : D.w .u64 xs ∈ ds) : xs.length ≤ 140737488355328 ∧ inR .u64 xs := by
  have := h _ hm
  have h47 : lim = 140737488355328 := by decide
  exact ⟨by rw [← h47]; exact this.1, this.2⟩
theorem wfR {ds : List D} (h : ∀ d ∈ ds, d.wf) {n : Nat} {xs : List Int} (hm : D.r .u64 n xs ∈ ds) : xs.length = n ∧ inR .u64 xs := ⟨(h _ hm).1, (h _ hm).2.2⟩
theorem wfI {ds : List D} (h : ∀ d ∈ ds, d.wf) {x : Int} (hm : D.p (.int .i64 x) ∈ ds) : -9223372036854775808 ≤ x ∧ x < 9223372036854775808 := i64_iff.1 (h _ hm)
theorem wfU {ds : List D} (h : ∀ d ∈ ds, d.wf) {x : Int} (hm : D.p (.int .u64 x) ∈ ds) : 0 ≤ x ∧ x < 18446744073709551616 := u64_iff.1 (h _ hm)
end Go.Vm
