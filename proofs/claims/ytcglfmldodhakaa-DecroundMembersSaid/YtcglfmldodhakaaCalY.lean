/-
  A slice of numbers handed to a law. No statement is proved here.
-/
import Derived.Test.YtcglfmldodhakaaCal1
import Derived.ChangeSlices
import Derived.SizedLaws
import Derived.OpenShut
namespace Go.Proofs.Ytcglfmldodhakaa.Vm
open Go Go.Vm Go.ChangeShapes Go.WideShapes Go.RowKit
variable {P : Program} {w : World} {r : Reach} {b0 : Nat} {H : Type} {enc : TypeId × Value → H}
theorem lit_ok {n : Int} (h : (Lit.int .u64 n).wf = true) : wfB (.int .u64 n) = true := by
  rw [u64_iff]
  simp [Lit.wf, IntKind.min, IntKind.max, IntKind.signed, IntKind.bits] at h
  omega
theorem arg_ints {t e : TypeId} {v : Value} {ts : List TypeId} {ds : List (DataW H)} {d : DataW H} {ps : List MemPlace} (ht : P.underlying t = some (.slice e)) (he : P.underlying e = some (.int .u64)) (hc : P.cellsOf e = 1) (hb : P.bytesOf e = 8)
    (hsz : (DataW.weightsEach P ts ds).all (· ≤ reachBytes) = true) (j : Nat) (hts : ts[j]? = some t) (hds : ds[j]? = some d) (hd : DataW.Trod enc P w 0 (fun _ => true) true t v d ps) (hval : Value.okWide P w r b0 t v) : ∃ xs, DR w (.w .u64 xs) v := by
  obtain ⟨a, len, cap, rfl⟩ := okWide_slice ht hval
  obtain ⟨m, hm⟩ := hd
  rcases open_ints ht he hc hm with ⟨h1, _⟩ | ⟨a', len', cap', zs, h1, _, h3, h4, h5, h6, h7, h8⟩
  · have h1 : (Value.slice a len cap) = .slice none 0 0 := by simpa [Value.cells] using h1
    cases h1
    exact ⟨[], none, 0, rfl, Nat.le_refl _, Nat.zero_le _, (fun x hx => by simp at hx), .inl rfl⟩
  · have h1 : (Value.slice a len cap) = .slice (some a') len' cap' := by simpa [Value.cells] using h1
    cases h1
    have h6 : d = .slice (lits .u64 (zs.take len)) (lits .u64 (zs.drop len)) := (Prod.mk.inj h6).1
    have hzl : zs.length = cap := by simpa using h5
    have hs := sized_slice hsz hts (hds.trans (congrArg some h6)) ht
    have hlen : (zs.take len).length = len := by rw [List.length_take]; omega
    refine ⟨zs.take len, some a', cap, by rw [hlen], by rw [hlen]; exact h3, ?_, fun x hx => lit_ok (h8 x (List.mem_of_mem_take hx)), ?_⟩
    · rw [hb] at hs
      have h47 : lim = 140737488355328 := by decide
      have hr := reachBytes_lt
      have e1 : (lits (H := H) .u64 (zs.take len)).length = len := by simp [lits]; omega
      rw [e1] at hs
      rw [hlen]
      have : (2 : Nat) ^ 47 = 140737488355328 := by decide
      omega
    · rcases Nat.eq_zero_or_pos len with h0 | h0
      · exact .inl (by rw [hlen]; exact h0)
      · refine .inr ?_
        obtain ⟨b, o, rfl, h9⟩ := ints_at h7 (by omega)
        refine ⟨b, o, rfl, fun i y hy => ?_⟩
        have hi : i < len := by
          have := (List.getElem?_eq_some_iff.1 hy).1
          simp at this
          omega
        rw [h9 i (by omega)]
        rw [List.getElem?_map, List.getElem?_take, if_pos hi, List.getElem?_eq_getElem (by omega)] at hy
        cases hy
        rw [List.getD_eq_getElem?_getD, List.getElem?_eq_getElem (by omega)]
        rfl
end Go.Proofs.Ytcglfmldodhakaa.Vm
