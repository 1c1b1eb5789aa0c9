/-
  No cell of these rows narrows 'for every input' (looked for: loops, veiled, ifaces, maps, wideKeys, modest, calm, conditions, laid).
  DERIVED. THE GIVEN ROWS OF THIS SEAT. 6 by the template 'for every input the law returns true; each argument reads behind the call as it read before'; 0 by the template 'total and deterministic' (their statements: YtcglfmldodhakaaTotals.lean).
  GIVEN WITH THE SEED: the statements are not yours to turn. If you find one false, say at which input.
  Laid BY PROGRAM, IN A SANDBOX (cutbox-rows.mjs): the forced cells as the released guide's own fill.sh prints them over the translation 00c3d17927ee04f2… (all of the seat's roots in one cut). By AI agents, Wed Nov 11 2026. No macro, syntax, notation, axiom, sorry.
-/
import Derived.Test.YtcglfmldodhakaaChecked
import GoSem.Claim
import GoSem.ClaimJoined
import GoSem.ClaimMapViews
import Derived.JoinedTies
import Derived.KernelRfl
namespace Go.Proofs.Ytcglfmldodhakaa
/- THE CELL 'sum', in the pinned program and in every row, IS THE sha256 OF THE DUMP (.gsa) THAT YtcglfmldodhakaaProg.lean LOADS. Nothing in Lean hashes anything: it is a label: what it is worth is what the hold of that sum in a sandbox is worth. -/
noncomputable def Try.pinned : Pinned := { name := "ytcglfmldodhakaa", sum := "00c3d17927ee04f21b2a78071992f0e9e0f9843185ff1a49878c354186b846c6", checked := Try.checked }
namespace Rows
def none {H : Type} : Left H := { results := [], args := [] }

/-- 'caliperlaw15.DecroundDecimal': WHATEVER THE INPUT: true; the input reads as it did. -/
def decroundDecimalSpec : ChangeSpec := { name := "decroundDecimal", fn := fun _ => fun
  | [d1, d2, d3, d4, d5, d6] => { results := [.lit (.bool true)], args := [d1, d2, d3, d4, d5, d6] }
  | _ => none }
def decroundDecimalRow : OpenClaim := { program := "ytcglfmldodhakaa", sum := "00c3d17927ee04f21b2a78071992f0e9e0f9843185ff1a49878c354186b846c6", func := "caliper/caliperlaw15.DecroundDecimal", spec := "decroundDecimal", inPlace := ["math/bits.Add64", "math/bits.Sub64"], recurses := true, named := ["math/bits.divideError", "math/bits.overflowError"], apart := false }
def DecroundDecimalSaid : Prop := decroundDecimalRow.holds Try.pinned (OpenSpec.ofChange decroundDecimalSpec)

/-- ITS FALSE NEIGHBOUR: 'it returns false'. Refute it at one input. -/
def decroundDecimalWrong : ChangeSpec := { name := "decroundDecimal", fn := fun _ => fun
  | [d1, d2, d3, d4, d5, d6] => { results := [.lit (.bool false)], args := [d1, d2, d3, d4, d5, d6] }
  | _ => none }
def DecroundDecimalWrongFalsely : Prop := decroundDecimalRow.holds Try.pinned (OpenSpec.ofChange decroundDecimalWrong)

/-- 'caliperlaw15.DecroundMembers': WHATEVER THE INPUT: true; the input reads as it did. -/
def decroundMembersSpec : ChangeSpec := { name := "decroundMembers", fn := fun _ => fun
  | [d1, d2, d3, d4] => { results := [.lit (.bool true)], args := [d1, d2, d3, d4] }
  | _ => none }
def decroundMembersRow : OpenClaim := { program := "ytcglfmldodhakaa", sum := "00c3d17927ee04f21b2a78071992f0e9e0f9843185ff1a49878c354186b846c6", func := "caliper/caliperlaw15.DecroundMembers", spec := "decroundMembers", inPlace := ["math/bits.Add64", "math/bits.Sub64"], recurses := true, named := ["math/bits.divideError", "math/bits.overflowError"], apart := false }
def DecroundMembersSaid : Prop := decroundMembersRow.holds Try.pinned (OpenSpec.ofChange decroundMembersSpec)

/-- ITS FALSE NEIGHBOUR: 'it returns false'. Refute it at one input. -/
def decroundMembersWrong : ChangeSpec := { name := "decroundMembers", fn := fun _ => fun
  | [d1, d2, d3, d4] => { results := [.lit (.bool false)], args := [d1, d2, d3, d4] }
  | _ => none }
def DecroundMembersWrongFalsely : Prop := decroundMembersRow.holds Try.pinned (OpenSpec.ofChange decroundMembersWrong)

/-- 'caliperlaw15.DecroundSides': WHATEVER THE INPUT: true; the input reads as it did. -/
def decroundSidesSpec : ChangeSpec := { name := "decroundSides", fn := fun _ => fun
  | [d1, d2, d3, d4, d5] => { results := [.lit (.bool true)], args := [d1, d2, d3, d4, d5] }
  | _ => none }
def decroundSidesRow : OpenClaim := { program := "ytcglfmldodhakaa", sum := "00c3d17927ee04f21b2a78071992f0e9e0f9843185ff1a49878c354186b846c6", func := "caliper/caliperlaw15.DecroundSides", spec := "decroundSides", inPlace := ["math/bits.Add64", "math/bits.Sub64"], recurses := true, named := ["math/bits.divideError", "math/bits.overflowError"], apart := false }
def DecroundSidesSaid : Prop := decroundSidesRow.holds Try.pinned (OpenSpec.ofChange decroundSidesSpec)

/-- ITS FALSE NEIGHBOUR: 'it returns false'. Refute it at one input. -/
def decroundSidesWrong : ChangeSpec := { name := "decroundSides", fn := fun _ => fun
  | [d1, d2, d3, d4, d5] => { results := [.lit (.bool false)], args := [d1, d2, d3, d4, d5] }
  | _ => none }
def DecroundSidesWrongFalsely : Prop := decroundSidesRow.holds Try.pinned (OpenSpec.ofChange decroundSidesWrong)

/-- 'caliperlaw15.DecroundTurns': WHATEVER THE INPUT: true; the input reads as it did. -/
def decroundTurnsSpec : ChangeSpec := { name := "decroundTurns", fn := fun _ => fun
  | [d1, d2, d3, d4, d5, d6] => { results := [.lit (.bool true)], args := [d1, d2, d3, d4, d5, d6] }
  | _ => none }
def decroundTurnsRow : OpenClaim := { program := "ytcglfmldodhakaa", sum := "00c3d17927ee04f21b2a78071992f0e9e0f9843185ff1a49878c354186b846c6", func := "caliper/caliperlaw15.DecroundTurns", spec := "decroundTurns", inPlace := ["math/bits.Add64", "math/bits.Sub64"], recurses := true, named := ["math/bits.divideError", "math/bits.overflowError"], apart := false }
def DecroundTurnsSaid : Prop := decroundTurnsRow.holds Try.pinned (OpenSpec.ofChange decroundTurnsSpec)

/-- ITS FALSE NEIGHBOUR: 'it returns false'. Refute it at one input. -/
def decroundTurnsWrong : ChangeSpec := { name := "decroundTurns", fn := fun _ => fun
  | [d1, d2, d3, d4, d5, d6] => { results := [.lit (.bool false)], args := [d1, d2, d3, d4, d5, d6] }
  | _ => none }
def DecroundTurnsWrongFalsely : Prop := decroundTurnsRow.holds Try.pinned (OpenSpec.ofChange decroundTurnsWrong)

/-- 'caliperlaw15.DecroundRises': WHATEVER THE INPUT: true; the input reads as it did. -/
def decroundRisesSpec : ChangeSpec := { name := "decroundRises", fn := fun _ => fun
  | [d1, d2, d3, d4, d5, d6] => { results := [.lit (.bool true)], args := [d1, d2, d3, d4, d5, d6] }
  | _ => none }
def decroundRisesRow : OpenClaim := { program := "ytcglfmldodhakaa", sum := "00c3d17927ee04f21b2a78071992f0e9e0f9843185ff1a49878c354186b846c6", func := "caliper/caliperlaw15.DecroundRises", spec := "decroundRises", inPlace := ["math/bits.Add64", "math/bits.Sub64"], recurses := true, named := ["math/bits.divideError", "math/bits.overflowError"], apart := false }
def DecroundRisesSaid : Prop := decroundRisesRow.holds Try.pinned (OpenSpec.ofChange decroundRisesSpec)

/-- ITS FALSE NEIGHBOUR: 'it returns false'. Refute it at one input. -/
def decroundRisesWrong : ChangeSpec := { name := "decroundRises", fn := fun _ => fun
  | [d1, d2, d3, d4, d5, d6] => { results := [.lit (.bool false)], args := [d1, d2, d3, d4, d5, d6] }
  | _ => none }
def DecroundRisesWrongFalsely : Prop := decroundRisesRow.holds Try.pinned (OpenSpec.ofChange decroundRisesWrong)

/-- 'caliperlaw15.DecroundKeeps': WHATEVER THE INPUT: true; the input reads as it did. -/
def decroundKeepsSpec : ChangeSpec := { name := "decroundKeeps", fn := fun _ => fun
  | [d1, d2, d3, d4, d5] => { results := [.lit (.bool true)], args := [d1, d2, d3, d4, d5] }
  | _ => none }
def decroundKeepsRow : OpenClaim := { program := "ytcglfmldodhakaa", sum := "00c3d17927ee04f21b2a78071992f0e9e0f9843185ff1a49878c354186b846c6", func := "caliper/caliperlaw15.DecroundKeeps", spec := "decroundKeeps", inPlace := ["math/bits.Add64", "math/bits.Sub64"], recurses := true, named := ["math/bits.divideError", "math/bits.overflowError"], apart := false }
def DecroundKeepsSaid : Prop := decroundKeepsRow.holds Try.pinned (OpenSpec.ofChange decroundKeepsSpec)

/-- ITS FALSE NEIGHBOUR: 'it returns false'. Refute it at one input. -/
def decroundKeepsWrong : ChangeSpec := { name := "decroundKeeps", fn := fun _ => fun
  | [d1, d2, d3, d4, d5] => { results := [.lit (.bool false)], args := [d1, d2, d3, d4, d5] }
  | _ => none }
def DecroundKeepsWrongFalsely : Prop := decroundKeepsRow.holds Try.pinned (OpenSpec.ofChange decroundKeepsWrong)

/- THE SECOND FORM. 'bulk': how many values and letters a reading holds, each counted each time it is reached (what is shared counts as often as it is met; a slice's spare places count too). A statement '..UptoSaid' is the law's where the arguments, and the package variables that the reading takes, are together of bulk at most 1048576: NARROWER than '..Said'. Prove '..Said' where nothing that the law and all that it calls make is longer than what came in: it says more and counts as full. Else prove '..UptoSaid'. A law counts once. -/
mutual
def uptoBulk {H : Type} : DataW H → Nat
  | .lit (.string bytes) => bytes.length + 1
  | .lit _ => 1
  | .nil => 1
  | .ptr d => uptoBulk d + 1
  | .slice elems spare => uptoBulkAll elems + uptoBulkAll spare + 1
  | .agg parts => uptoBulkAll parts + 1
  | .iface _ d => uptoBulk d + 1
  | .map entries => uptoBulkEntries entries + 1
  | .held _ => 1
def uptoBulkAll {H : Type} : List (DataW H) → Nat
  | [] => 0
  | d :: r => uptoBulk d + uptoBulkAll r
def uptoBulkEntries {H : Type} : List (Lit × DataW H) → Nat
  | [] => 0
  | x :: r => uptoBulkEntry x + uptoBulkEntries r
def uptoBulkEntry {H : Type} : Lit × DataW H → Nat
  | (.string bytes, d) => bytes.length + uptoBulk d + 1
  | (_, d) => uptoBulk d + 1
 end
def uptoSmall : (H : Type) → List (DataW H) → Bool := fun _ ds => decide (uptoBulkAll ds ≤ 1048576)
def OpenSpec.upto (s : _root_.Go.ChangeSpec) : _root_.Go.OpenSpec := { _root_.Go.OpenSpec.ofChange s with cond := some uptoSmall }

/-- 'caliperlaw15.DecroundDecimal', WHERE WHAT IT READS IS OF BULK AT MOST 1048576: true; the input reads as it did. -/
def decroundDecimalUptoRow : OpenClaim := { program := "ytcglfmldodhakaa", sum := "00c3d17927ee04f21b2a78071992f0e9e0f9843185ff1a49878c354186b846c6", func := "caliper/caliperlaw15.DecroundDecimal", spec := "decroundDecimal", inPlace := ["math/bits.Add64", "math/bits.Sub64"], recurses := true, named := ["math/bits.divideError", "math/bits.overflowError"], apart := false, narrowed := true }
def DecroundDecimalUptoSaid : Prop := decroundDecimalUptoRow.holds Try.pinned (OpenSpec.upto decroundDecimalSpec)

/-- 'caliperlaw15.DecroundMembers', WHERE WHAT IT READS IS OF BULK AT MOST 1048576: true; the input reads as it did. -/
def decroundMembersUptoRow : OpenClaim := { program := "ytcglfmldodhakaa", sum := "00c3d17927ee04f21b2a78071992f0e9e0f9843185ff1a49878c354186b846c6", func := "caliper/caliperlaw15.DecroundMembers", spec := "decroundMembers", inPlace := ["math/bits.Add64", "math/bits.Sub64"], recurses := true, named := ["math/bits.divideError", "math/bits.overflowError"], apart := false, narrowed := true }
def DecroundMembersUptoSaid : Prop := decroundMembersUptoRow.holds Try.pinned (OpenSpec.upto decroundMembersSpec)

/-- 'caliperlaw15.DecroundSides', WHERE WHAT IT READS IS OF BULK AT MOST 1048576: true; the input reads as it did. -/
def decroundSidesUptoRow : OpenClaim := { program := "ytcglfmldodhakaa", sum := "00c3d17927ee04f21b2a78071992f0e9e0f9843185ff1a49878c354186b846c6", func := "caliper/caliperlaw15.DecroundSides", spec := "decroundSides", inPlace := ["math/bits.Add64", "math/bits.Sub64"], recurses := true, named := ["math/bits.divideError", "math/bits.overflowError"], apart := false, narrowed := true }
def DecroundSidesUptoSaid : Prop := decroundSidesUptoRow.holds Try.pinned (OpenSpec.upto decroundSidesSpec)

/-- 'caliperlaw15.DecroundTurns', WHERE WHAT IT READS IS OF BULK AT MOST 1048576: true; the input reads as it did. -/
def decroundTurnsUptoRow : OpenClaim := { program := "ytcglfmldodhakaa", sum := "00c3d17927ee04f21b2a78071992f0e9e0f9843185ff1a49878c354186b846c6", func := "caliper/caliperlaw15.DecroundTurns", spec := "decroundTurns", inPlace := ["math/bits.Add64", "math/bits.Sub64"], recurses := true, named := ["math/bits.divideError", "math/bits.overflowError"], apart := false, narrowed := true }
def DecroundTurnsUptoSaid : Prop := decroundTurnsUptoRow.holds Try.pinned (OpenSpec.upto decroundTurnsSpec)

/-- 'caliperlaw15.DecroundRises', WHERE WHAT IT READS IS OF BULK AT MOST 1048576: true; the input reads as it did. -/
def decroundRisesUptoRow : OpenClaim := { program := "ytcglfmldodhakaa", sum := "00c3d17927ee04f21b2a78071992f0e9e0f9843185ff1a49878c354186b846c6", func := "caliper/caliperlaw15.DecroundRises", spec := "decroundRises", inPlace := ["math/bits.Add64", "math/bits.Sub64"], recurses := true, named := ["math/bits.divideError", "math/bits.overflowError"], apart := false, narrowed := true }
def DecroundRisesUptoSaid : Prop := decroundRisesUptoRow.holds Try.pinned (OpenSpec.upto decroundRisesSpec)

/-- 'caliperlaw15.DecroundKeeps', WHERE WHAT IT READS IS OF BULK AT MOST 1048576: true; the input reads as it did. -/
def decroundKeepsUptoRow : OpenClaim := { program := "ytcglfmldodhakaa", sum := "00c3d17927ee04f21b2a78071992f0e9e0f9843185ff1a49878c354186b846c6", func := "caliper/caliperlaw15.DecroundKeeps", spec := "decroundKeeps", inPlace := ["math/bits.Add64", "math/bits.Sub64"], recurses := true, named := ["math/bits.divideError", "math/bits.overflowError"], apart := false, narrowed := true }
def DecroundKeepsUptoSaid : Prop := decroundKeepsUptoRow.holds Try.pinned (OpenSpec.upto decroundKeepsSpec)

end Rows
end Go.Proofs.Ytcglfmldodhakaa
