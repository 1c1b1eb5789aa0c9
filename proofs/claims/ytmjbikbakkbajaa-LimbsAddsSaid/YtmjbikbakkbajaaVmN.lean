/-
  The evaluator's answer for a function is what a call comes to: its end. No statement is proved here.
-/
import Derived.Test.YtmjbikbakkbajaaVmM
namespace Go.Vm
open Go.RowKit (Below)
variable {P : Program}

section
variable {E : Env} {B : Nat} {w0 : World} {vs : List Value} {ρ : Nm} {tm : List V} {m : Mem} {a : Act} {w : World} {r : List (Own × D)}

abbrev leads (vs : List Value) (c : Nat) : Prop := ∃ v, v ∈ vs ∧ ∃ ad n cap, v = .slice (some ad) n cap ∧ n ≠ 0 ∧ ad.block = c
def outRun (a : Act) (rv : ResultVar) : Sem Value := match rv with
  | .tmp t => pure (a.tmps.getD t undef)
  | .cell c t => do loadVar t (← asAddr (a.tmps.getD c undef))

/-- Whose a slice is that goes out. -/
theorem owner_ok (hS : St w0.heap.size w0 (leads vs) ρ tm m a w) (one : Bool) {q : Prop} (hq : q → one = true) {v : V} {rv : Value} {d : D} {κ : D → R} (hv : VR ρ m w v rv) (hd : DR w d rv) (h : contentK m v κ = some r) :
    ResOK w0 w vs q (ownerOf one m v, d) rv := by
  have slr : ∀ {i k n : Nat} {s : Own} {b : Blk}, m[i]? = some (s, b) → SlR ρ m w i k n rv → ∀ (ow : Own), (ow = .mine → s = .mine ∧ k = 0 ∧ one = true) → (ow = .new → s = .mine ∨ s = .new) → (ow = .old → s = .old) → ResOK w0 w vs q (ow, d) rv := by
    intro i k n s b hm hs ow h1 h2 h3
    obtain ⟨hlt, ad, cap, rfl, g1, g2, g3, g4⟩ := hs
    refine ⟨hd, fun _ => ?_⟩
    have blk : ∀ b' ad' n' cap', Value.slice ad n cap = .slice (some ad') n' cap' → n' ≠ 0 → ad'.block = b' → ∃ o, ρ i = some (b', o) := by
      intro b' ad' n' cap' e hn hb
      cases e
      rcases g3 with g3 | ⟨b2, o, g3, e⟩
      · exact absurd g3 hn
      · cases e; cases hb; exact ⟨o, g3⟩
    cases ow with
    | mine =>
      obtain ⟨rfl, rfl, ho⟩ := h1 rfl
      refine ⟨ad, n, cap, rfl, ?_⟩
      rcases g4 ⟨b, hm⟩ with g4 | ⟨b', k1, k2, k3⟩
      · exact .inl g4
      · obtain ⟨k4, k5⟩ := hS.inv.mine i b hm
        refine .inr ⟨b', k2, k5 b' 0 k1, fun _ => ⟨(k4 b' 0 k1).2, by omega⟩⟩
    | new =>
      intro b' ad' n' cap' e hn hb
      obtain ⟨o, ho⟩ := blk b' ad' n' cap' e hn hb
      rcases h2 rfl with rfl | rfl
      · exact (hS.inv.mine i b hm).2 b' o ho
      · exact hS.inv.new i b hm b' o ho
    | old =>
      intro b' ad' n' cap' e hn hb
      obtain ⟨o, ho⟩ := blk b' ad' n' cap' e hn hb
      have := h3 rfl
      subst this
      exact hS.inv.old i b hm b' o ho
  unfold contentK at h
  split at h
  · refine ⟨hd, fun hs => ?_⟩
    cases d with
    | w k xs => obtain ⟨rfl, hw⟩ := hv; obtain ⟨ad, cap, e, _⟩ := hd; subst e; cases hw
    | c n cs => obtain ⟨rfl, hw⟩ := hv; obtain ⟨ad, cap, e, _⟩ := hd; subst e; cases hw
    | _ => cases hs
  · refine ⟨hd, fun hs => ?_⟩
    cases d with
    | w k xs => obtain ⟨rfl, _⟩ := hv; obtain ⟨ad, cap, e, _⟩ := hd; cases e
    | c n cs => obtain ⟨rfl, _⟩ := hv; obtain ⟨ad, cap, e, _⟩ := hd; cases e
    | _ => cases hs
  · refine ⟨hd, fun hs => ?_⟩
    cases d with
    | w k xs => obtain ⟨rfl, _⟩ := hv; obtain ⟨ad, cap, e, _⟩ := hd; cases e
    | c n cs => obtain ⟨rfl, _⟩ := hv; obtain ⟨ad, cap, e, _⟩ := hd; cases e
    | _ => cases hs
  · obtain ⟨ad, hr⟩ := hv
    exact ⟨hd, fun _ => ⟨ad, 0, 0, hr, .inl rfl⟩⟩
  · rename_i i
    split at h
    case h_2 => cases h
    rename_i s kd n xs hm
    refine slr hm (hv.2 n (by unfold blkN; rw [hm])) _ ?_ ?_ ?_ <;> simp only [ownerOf, hm] <;> cases s <;> cases one <;> simp
  · rename_i i k n
    have hsl : SlR ρ m w i k n rv := hv
    have : ∃ s b, m[i]? = some (s, b) := by
      cases hm : m[i]? with
      | none => rw [hm] at h; cases h
      | some p => exact ⟨p.1, p.2, rfl⟩
    obtain ⟨s, b, hm⟩ := this
    refine slr hm hsl _ ?_ ?_ ?_ <;> simp only [ownerOf, hm] <;> cases s <;> cases one <;> simp <;> (cases hk : (k == 0) <;> simp_all)
  · cases h

theorem out_ok (hE : EnvOK P E) (hS : St w0.heap.size w0 (leads vs) ρ tm m a w) (one : Bool) {q : Prop} (hq : q → one = true) (rv : ResultVar) (ty : TypeId) (κ : Own × D → R) (h : outK E one tm m rv ty κ = some r) :
    ∃ d x, κ d = some r ∧ (outRun a rv).run P w = .ok x w ∧ ResOK w0 w vs q d x := by
  unfold outK at h
  split at h
  · rename_i t
    have hv := hS.tms t
    split at h
    · rename_i hz
      split at h
      case h_2 => cases h
      rename_i k hk
      rw [hz] at hv
      obtain ⟨ad, he⟩ := hv
      refine ⟨_, a.tmps.getD t undef, h, rfl, ⟨ad, 0, by simpa using he, Nat.le_refl _, Nat.zero_le _, fun x hx => by simp at hx, .inl rfl⟩, fun _ => ⟨ad, 0, 0, he, .inl rfl⟩⟩
    · obtain ⟨d, h1, h2, _⟩ := content_dr hv (hS.touch _) h
      exact ⟨_, _, h1, rfl, owner_ok hS one hq hv h2 h⟩
  · rename_i t ty'
    have hv := hS.tms t
    split at h
    case h_2 => cases h
    rename_i i td hz ht
    rw [hz] at hv
    obtain ⟨hi, b, o, h1, h2⟩ := hv
    have run : ∀ x, (Instr.loadAt ty' (.pointer (some ⟨b, o, none⟩))).run P w = .ok x w → (outRun a (.cell t ty')).run P w = .ok x w := by
      intro x hx
      simp only [Instr.loadAt, Instr.sureAddr, Sem.run_bind, Sem.run_pure, Result.andThen_ok] at hx
      simp only [outRun, h2, asAddr, Sem.run_bind, Sem.run_pure, Result.andThen_ok, Nat.add_zero, hx]
    split at h
    · rename_i s kd n xs hm
      split at h
      case h_2 => cases h
      rename_i n' k'
      replace h := cond_none h
      obtain ⟨hc, h⟩ := h
      have hc := of_decide_eq_true hc
      subst hc
      obtain ⟨hl, hlim, hR, hB⟩ := hS.inv.blk i s _ hm
      obtain ⟨_, e, hu, _⟩ := (hE.ty _ _ ht).2.2
      have hr : w.rangeAt b o (xs.map (Value.int kd)) := by
        rcases hB with hB | ⟨b', o', h3, h4⟩
        · have : xs = [] := List.eq_nil_of_length_eq_zero (by omega)
          subst this
          intro j v hj
          simp at hj
        · rw [h1] at h3; cases h3; exact h4
      exact ⟨_, _, h, run _ (run_loadAt_mid w b o ty' _ _ hr hu rfl (by rw [(hE.ty _ _ ht).1]; simp [Ty.size, hl])), ⟨rfl, hl, hlim, hR⟩, fun h => by cases h⟩
    · rename_i s cs hm
      replace h := cond_none h
      obtain ⟨hc, h⟩ := h
      have hc := of_decide_eq_true hc
      obtain ⟨hw, hB⟩ := hS.inv.blk i s _ hm
      have hr : w.rangeAt b o cs := by
        rcases hB with rfl | ⟨b', o', h3, h4⟩
        · intro j v hj
          simp at hj
        · rw [h1] at h3; cases h3; exact h4
      split at h
      · rename_i v hcs
        obtain ⟨x, h5, h6⟩ := load_cells (ρ := ρ) (m := m) hE ht hcs hc.symm hw hr
        exact ⟨_, x, h, run _ h5, h6, fun h => by cases h⟩
      · rename_i gs hcs
        obtain ⟨x, h5, h6⟩ := load_cells (ρ := ρ) (m := m) hE ht hcs hc.symm hw hr
        exact ⟨_, x, h, run _ h5, h6, fun h => by cases h⟩
      · cases h
    · cases h

theorem outs_ok (hE : EnvOK P E) (hS : St w0.heap.size w0 (leads vs) ρ tm m a w) (one : Bool) {q : Prop} (hq : q → one = true) : ∀ (rts : List (ResultVar × TypeId)) (κ : List (Own × D) → R), outsK E one tm m rts κ = some r →
    ∃ ds xs, κ ds = some r ∧ ((rts.map (·.1)).mapM (outRun a)).run P w = .ok xs w ∧ all2 (ResOK w0 w vs q) ds xs
  | [], κ, h => ⟨[], [], h, rfl, trivial⟩
  | (rv, ty) :: l, κ, h => by
    simp only [outsK] at h
    obtain ⟨d, x, h1, h2, h3⟩ := out_ok hE hS one hq rv ty _ h
    obtain ⟨ds, xs, g1, g2, g3⟩ := outs_ok hE hS one hq l _ h1
    refine ⟨d :: ds, x :: xs, g1, ?_, h3, g3⟩
    simp only [List.map_cons, List.mapM_cons, Sem.run_bind, h2, Result.andThen_ok, g2, Sem.run_pure]
end

theorem results_run (fn : Func) (a : Act) (w : World) (xs : List Value) (h : (fn.results.toList.mapM (outRun a)).run P w = .ok xs w) : (results fn a.tmps).run P w = .ok (tupleOf xs) w := by
  have e0 : results fn a.tmps = (do let vs ← fn.results.mapM (outRun a); pure (if h : vs.size = 1 then vs[0] else .tuple vs)) := by
    unfold results
    congr 2
  have e : fn.results.mapM (outRun a) = (List.toArray <$> fn.results.toList.mapM (outRun a)) := Array.mapM_eq_mapM_toList
  rw [e0, Sem.run_bind, e]
  have h2 : (List.toArray <$> fn.results.toList.mapM (outRun a)).run P w = .ok xs.toArray w := by
    rw [map_eq_pure_bind, Sem.run_bind, h]
    rfl
  rw [h2]
  match xs with
  | [] => rfl
  | [x] => rfl
  | x :: y :: l => simp [tupleOf]

theorem all2_length {w : World} : ∀ (ds : List D) (vs : List Value), all2 (DR w) ds vs → ds.length = vs.length := fun _ _ h => h.length

/-- THE EVALUATOR IS RIGHT. -/
theorem fn_calls {E : Env} (hE : EnvOK P E) (hm : P.follows .mixedOrders = true) {k : FuncId} {f : Func} (hf : P.funcs[k]? = some f) (hname : (f.name == "runtime.NumGoroutine") = false) (hrl : f.results.size = f.resultTypes.size) (hL : ∀ c, f.body = some c → LoopsOK E (loopsOf 0 c)) {ds : List D} {res : List (Own × D)}
    (h : evFn E f ds = some res) (w : World) (vs : List Value) (hds : all2 (DR w) ds vs) :
    (callFunc k vs.toArray).run P w = .ok (.enter k vs.toArray) w ∧ Calls P k vs.toArray w fun e w' => ∃ rv, e = .returned rv ∧ Below w.heap.size w w' ∧ ∃ rs, rv = tupleOf rs ∧ all2 (ResOK w w' vs (res.length = 1)) res rs := by
  unfold evFn at h
  split at h
  case h_1 => cases h
  rename_i c hc
  obtain ⟨hn, h⟩ := cond_none h
  have hnlen : ds.length = f.params.size := by
    have := (Bool.and_eq_true_iff.1 hn).1
    simpa using this
  have hvl : ds.length = vs.length := hds.length
  refine ⟨?_, ?_⟩
  · have h1 : f.name ≠ "runtime.NumGoroutine" := by simpa using hname
    simp [callFunc, Sem.run_bind, run_program, hf, h1, hc]
  · refine calls_of_wp hf hc ?_
    obtain ⟨ρ, hS⟩ := start w ds vs (f.ntmps - ds.length) hds
    have e : (vs.toArray ++ Array.replicate (f.ntmps - vs.toArray.size) undef : Array Value) = vs.toArray ++ Array.replicate (f.ntmps - ds.length) undef := by
      rw [hvl]
      rfl
    rw [e]
    refine ev_sound hE hm c 0 (hL c hc) _ _ ?_ ρ _ _ _ _ hS h
    intro x ρ tm m a w' hS h
    have fin : outsK E (f.results.size == 1) tm m (f.results.toList.zip f.resultTypes.toList) some = some res → a.defers = [] ∧ ∃ v, (results f a.tmps).run P w' = .ok v w' ∧
        ∃ rv, Ending.returned v = .returned rv ∧ Below w.heap.size w w' ∧ ∃ rs, rv = tupleOf rs ∧ all2 (ResOK w w' vs (res.length = 1)) res rs := by
      intro h
      have hz : (f.results.toList.zip f.resultTypes.toList).map (·.1) = f.results.toList := List.map_fst_zip (by simp; omega)
      have hq : ∀ ds xs, all2 (ResOK w w' vs ((f.results.size == 1) = true)) ds xs → (f.results.toList.mapM (outRun a)).run P w' = .ok xs w' → (ds.length = 1 → (f.results.size == 1) = true) := by
        intro ds xs h1 h2 h3
        have h4 : xs.length = f.results.size := by
          have key : ∀ (l : List ResultVar) (xs : List Value) (w1 w2 : World), (l.mapM (outRun a)).run P w1 = .ok xs w2 → xs.length = l.length := by
            intro l
            induction l with
            | nil => intro xs w1 w2 h; simp at h; simp [h.1.symm]
            | cons rv l ih =>
              intro xs w1 w2 h
              simp only [List.mapM_cons, Sem.run_bind] at h
              cases h5 : (outRun a rv).run P w1 with
              | halt x w3 => rw [h5] at h; cases h
              | ok x w3 =>
                rw [h5] at h
                simp only [Result.andThen_ok] at h
                cases h6 : (l.mapM (outRun a)).run P w3 with
                | halt x w4 => rw [h6] at h; cases h
                | ok ys w4 =>
                  rw [h6] at h
                  simp at h
                  rw [← h.1]
                  simp [ih ys w3 w4 h6]
          simpa using key _ _ _ _ h2
        have := h1.length
        simp
        omega
      obtain ⟨ds', xs, h1, h2, h3⟩ := outs_ok hE hS (f.results.size == 1) (q := (f.results.size == 1) = true) id _ some h
      rw [hz] at h2
      cases h1
      have himp := hq _ xs h3 h2
      obtain ⟨ds2, xs2, g1, g2, g3⟩ := outs_ok hE hS (f.results.size == 1) (q := res.length = 1) himp _ some h
      rw [hz] at g2
      cases g1
      exact ⟨hS.defers, _, results_run f a w' xs2 g2, _, rfl, hS.inv.below, xs2, rfl, g3⟩
    cases x with
    | normal => exact fin h
    | exit id => cases h
    | ret => exact fin h
theorem fn_sound {E : Env} (hE : EnvOK P E) (hm : P.follows .mixedOrders = true) {k : FuncId} {f : Func} (hf : P.funcs[k]? = some f) (hname : (f.name == "runtime.NumGoroutine") = false) (hrl : f.results.size = f.resultTypes.size) (hL : ∀ c, f.body = some c → LoopsOK E (loopsOf 0 c)) {ds : List D} {res : List (Own × D)}
    (h : evFn E f ds = some res) : CallOK P k ds res := fun w vs hds => .inr (fn_calls hE hm hf hname hrl hL h w vs hds)
/-- A contract by the evaluator itself. -/
theorem fnOK_ev {E : Env} (hE : EnvOK P E) (hm : P.follows .mixedOrders = true) {k : FuncId} {f : Func} (hf : P.funcs[k]? = some f) (hname : (f.name == "runtime.NumGoroutine") = false) (hrl : f.results.size = f.resultTypes.size) (hL : ∀ c, f.body = some c → LoopsOK E (loopsOf 0 c)) {F : List D → (List (Own × D) → R) → R}
    (h : ∀ ds κ r, (∀ d ∈ ds, d.wf) → F ds κ = some r → ∃ res, κ res = some r ∧ evFn E f ds = some res) : FnOK P k F := fun ds κ r hw hF => by
  obtain ⟨res, h1, h2⟩ := h ds κ r hw hF
  exact ⟨res, h1, fn_sound hE hm hf hname hrl hL h2⟩
end Go.Vm
