/-
  No cell of these rows narrows 'for every input' (looked for: loops, veiled, ifaces, maps, wideKeys, modest, calm, conditions, laid).
  DERIVED. THE GIVEN ROWS OF THIS SEAT. 12 by the template 'for every input the law returns true; each argument reads behind the call as it read before'; 0 by the template 'total and deterministic' (their statements: YtdpcokahhleopaaTotals.lean).
  GIVEN WITH THE SEED: the statements are not yours to turn. If you find one false, say at which input.
  Laid BY PROGRAM, IN A SANDBOX (cutbox-rows.mjs): the forced cells as the released guide's own fill.sh prints them over the translation 7e5cdfbcc046fff7… (all of the seat's roots in one cut). By AI agents, Wed Nov 11 2026. No macro, syntax, notation, axiom, sorry.
-/
import Derived.Test.YtdpcokahhleopaaChecked
import GoSem.Claim
import GoSem.ClaimJoined
import GoSem.ClaimMapViews
import Derived.JoinedTies
import Derived.KernelRfl
namespace Go.Proofs.Ytdpcokahhleopaa
/- THE CELL 'sum', in the pinned program and in every row, IS THE sha256 OF THE DUMP (.gsa) THAT YtdpcokahhleopaaProg.lean LOADS. Nothing in Lean hashes anything: it is a label: what it is worth is what the hold of that sum in a sandbox is worth. -/
noncomputable def Try.pinned : Pinned := { name := "ytdpcokahhleopaa", sum := "7e5cdfbcc046fff779a0fd656d0a9dd5181c17e1f1583456bb05fa4bb6075f77", checked := Try.checked }
namespace Rows
def none {H : Type} : Left H := { results := [], args := [] }

/-- 'caliperlaw06.RoundBinary': WHATEVER THE INPUT: true; the input reads as it did. -/
def roundBinarySpec : ChangeSpec := { name := "roundBinary", fn := fun _ => fun
  | [d1, d2, d3, d4, d5, d6] => { results := [.lit (.bool true)], args := [d1, d2, d3, d4, d5, d6] }
  | _ => none }
def roundBinaryRow : OpenClaim := { program := "ytdpcokahhleopaa", sum := "7e5cdfbcc046fff779a0fd656d0a9dd5181c17e1f1583456bb05fa4bb6075f77", func := "caliper/caliperlaw06.RoundBinary", spec := "roundBinary", inPlace := ["math/bits.Sub64", "math/bits.Add64"], named := ["math/bits.divideError", "math/bits.overflowError"], apart := false }
def RoundBinarySaid : Prop := roundBinaryRow.holds Try.pinned (OpenSpec.ofChange roundBinarySpec)

/-- ITS FALSE NEIGHBOUR: 'it returns false'. Refute it at one input. -/
def roundBinaryWrong : ChangeSpec := { name := "roundBinary", fn := fun _ => fun
  | [d1, d2, d3, d4, d5, d6] => { results := [.lit (.bool false)], args := [d1, d2, d3, d4, d5, d6] }
  | _ => none }
def RoundBinaryWrongFalsely : Prop := roundBinaryRow.holds Try.pinned (OpenSpec.ofChange roundBinaryWrong)

/-- 'caliperlaw06.RoundSides': WHATEVER THE INPUT: true; the input reads as it did. -/
def roundSidesSpec : ChangeSpec := { name := "roundSides", fn := fun _ => fun
  | [d1, d2, d3, d4, d5] => { results := [.lit (.bool true)], args := [d1, d2, d3, d4, d5] }
  | _ => none }
def roundSidesRow : OpenClaim := { program := "ytdpcokahhleopaa", sum := "7e5cdfbcc046fff779a0fd656d0a9dd5181c17e1f1583456bb05fa4bb6075f77", func := "caliper/caliperlaw06.RoundSides", spec := "roundSides", inPlace := ["math/bits.Sub64", "math/bits.Add64"], named := ["math/bits.divideError", "math/bits.overflowError"], apart := false }
def RoundSidesSaid : Prop := roundSidesRow.holds Try.pinned (OpenSpec.ofChange roundSidesSpec)

/-- ITS FALSE NEIGHBOUR: 'it returns false'. Refute it at one input. -/
def roundSidesWrong : ChangeSpec := { name := "roundSides", fn := fun _ => fun
  | [d1, d2, d3, d4, d5] => { results := [.lit (.bool false)], args := [d1, d2, d3, d4, d5] }
  | _ => none }
def RoundSidesWrongFalsely : Prop := roundSidesRow.holds Try.pinned (OpenSpec.ofChange roundSidesWrong)

/-- 'caliperlaw06.RoundTurns': WHATEVER THE INPUT: true; the input reads as it did. -/
def roundTurnsSpec : ChangeSpec := { name := "roundTurns", fn := fun _ => fun
  | [d1, d2, d3, d4, d5] => { results := [.lit (.bool true)], args := [d1, d2, d3, d4, d5] }
  | _ => none }
def roundTurnsRow : OpenClaim := { program := "ytdpcokahhleopaa", sum := "7e5cdfbcc046fff779a0fd656d0a9dd5181c17e1f1583456bb05fa4bb6075f77", func := "caliper/caliperlaw06.RoundTurns", spec := "roundTurns", inPlace := ["math/bits.Sub64", "math/bits.Add64"], named := ["math/bits.divideError", "math/bits.overflowError"], apart := false }
def RoundTurnsSaid : Prop := roundTurnsRow.holds Try.pinned (OpenSpec.ofChange roundTurnsSpec)

/-- ITS FALSE NEIGHBOUR: 'it returns false'. Refute it at one input. -/
def roundTurnsWrong : ChangeSpec := { name := "roundTurns", fn := fun _ => fun
  | [d1, d2, d3, d4, d5] => { results := [.lit (.bool false)], args := [d1, d2, d3, d4, d5] }
  | _ => none }
def RoundTurnsWrongFalsely : Prop := roundTurnsRow.holds Try.pinned (OpenSpec.ofChange roundTurnsWrong)

/-- 'caliperlaw06.RoundRises': WHATEVER THE INPUT: true; the input reads as it did. -/
def roundRisesSpec : ChangeSpec := { name := "roundRises", fn := fun _ => fun
  | [d1, d2, d3, d4, d5, d6] => { results := [.lit (.bool true)], args := [d1, d2, d3, d4, d5, d6] }
  | _ => none }
def roundRisesRow : OpenClaim := { program := "ytdpcokahhleopaa", sum := "7e5cdfbcc046fff779a0fd656d0a9dd5181c17e1f1583456bb05fa4bb6075f77", func := "caliper/caliperlaw06.RoundRises", spec := "roundRises", inPlace := ["math/bits.Sub64", "math/bits.Add64"], named := ["math/bits.divideError", "math/bits.overflowError"], apart := false }
def RoundRisesSaid : Prop := roundRisesRow.holds Try.pinned (OpenSpec.ofChange roundRisesSpec)

/-- ITS FALSE NEIGHBOUR: 'it returns false'. Refute it at one input. -/
def roundRisesWrong : ChangeSpec := { name := "roundRises", fn := fun _ => fun
  | [d1, d2, d3, d4, d5, d6] => { results := [.lit (.bool false)], args := [d1, d2, d3, d4, d5, d6] }
  | _ => none }
def RoundRisesWrongFalsely : Prop := roundRisesRow.holds Try.pinned (OpenSpec.ofChange roundRisesWrong)

/-- 'caliperlaw06.RoundScaled': WHATEVER THE INPUT: true; the input reads as it did. -/
def roundScaledSpec : ChangeSpec := { name := "roundScaled", fn := fun _ => fun
  | [d1, d2, d3, d4, d5] => { results := [.lit (.bool true)], args := [d1, d2, d3, d4, d5] }
  | _ => none }
def roundScaledRow : OpenClaim := { program := "ytdpcokahhleopaa", sum := "7e5cdfbcc046fff779a0fd656d0a9dd5181c17e1f1583456bb05fa4bb6075f77", func := "caliper/caliperlaw06.RoundScaled", spec := "roundScaled", inPlace := ["math/bits.Sub64", "math/bits.Add64"], named := ["math/bits.divideError", "math/bits.overflowError"], apart := false }
def RoundScaledSaid : Prop := roundScaledRow.holds Try.pinned (OpenSpec.ofChange roundScaledSpec)

/-- ITS FALSE NEIGHBOUR: 'it returns false'. Refute it at one input. -/
def roundScaledWrong : ChangeSpec := { name := "roundScaled", fn := fun _ => fun
  | [d1, d2, d3, d4, d5] => { results := [.lit (.bool false)], args := [d1, d2, d3, d4, d5] }
  | _ => none }
def RoundScaledWrongFalsely : Prop := roundScaledRow.holds Try.pinned (OpenSpec.ofChange roundScaledWrong)

/-- 'caliperlaw06.RoundKeeps': WHATEVER THE INPUT: true; the input reads as it did. -/
def roundKeepsSpec : ChangeSpec := { name := "roundKeeps", fn := fun _ => fun
  | [d1, d2, d3, d4] => { results := [.lit (.bool true)], args := [d1, d2, d3, d4] }
  | _ => none }
def roundKeepsRow : OpenClaim := { program := "ytdpcokahhleopaa", sum := "7e5cdfbcc046fff779a0fd656d0a9dd5181c17e1f1583456bb05fa4bb6075f77", func := "caliper/caliperlaw06.RoundKeeps", spec := "roundKeeps", inPlace := ["math/bits.Sub64", "math/bits.Add64"], named := ["math/bits.divideError", "math/bits.overflowError"], apart := false }
def RoundKeepsSaid : Prop := roundKeepsRow.holds Try.pinned (OpenSpec.ofChange roundKeepsSpec)

/-- ITS FALSE NEIGHBOUR: 'it returns false'. Refute it at one input. -/
def roundKeepsWrong : ChangeSpec := { name := "roundKeeps", fn := fun _ => fun
  | [d1, d2, d3, d4] => { results := [.lit (.bool false)], args := [d1, d2, d3, d4] }
  | _ => none }
def RoundKeepsWrongFalsely : Prop := roundKeepsRow.holds Try.pinned (OpenSpec.ofChange roundKeepsWrong)

/-- 'caliperlaw12.BinconvConverts': WHATEVER THE INPUT: true; the input reads as it did. -/
def binconvConvertsSpec : ChangeSpec := { name := "binconvConverts", fn := fun _ => fun
  | [d1, d2, d3, d4] => { results := [.lit (.bool true)], args := [d1, d2, d3, d4] }
  | _ => none }
def binconvConvertsRow : OpenClaim := { program := "ytdpcokahhleopaa", sum := "7e5cdfbcc046fff779a0fd656d0a9dd5181c17e1f1583456bb05fa4bb6075f77", func := "caliper/caliperlaw12.BinconvConverts", spec := "binconvConverts", inPlace := ["math/bits.Sub64", "math/bits.Add64"], recurses := true, named := ["math/bits.divideError", "math/bits.overflowError"], apart := false }
def BinconvConvertsSaid : Prop := binconvConvertsRow.holds Try.pinned (OpenSpec.ofChange binconvConvertsSpec)

/-- ITS FALSE NEIGHBOUR: 'it returns false'. Refute it at one input. -/
def binconvConvertsWrong : ChangeSpec := { name := "binconvConverts", fn := fun _ => fun
  | [d1, d2, d3, d4] => { results := [.lit (.bool false)], args := [d1, d2, d3, d4] }
  | _ => none }
def BinconvConvertsWrongFalsely : Prop := binconvConvertsRow.holds Try.pinned (OpenSpec.ofChange binconvConvertsWrong)

/-- 'caliperlaw12.BinconvBetween': WHATEVER THE INPUT: true; the input reads as it did. -/
def binconvBetweenSpec : ChangeSpec := { name := "binconvBetween", fn := fun _ => fun
  | [d1, d2, d3, d4, d5] => { results := [.lit (.bool true)], args := [d1, d2, d3, d4, d5] }
  | _ => none }
def binconvBetweenRow : OpenClaim := { program := "ytdpcokahhleopaa", sum := "7e5cdfbcc046fff779a0fd656d0a9dd5181c17e1f1583456bb05fa4bb6075f77", func := "caliper/caliperlaw12.BinconvBetween", spec := "binconvBetween", inPlace := ["math/bits.Sub64", "math/bits.Add64"], recurses := true, named := ["math/bits.divideError", "math/bits.overflowError"], apart := false }
def BinconvBetweenSaid : Prop := binconvBetweenRow.holds Try.pinned (OpenSpec.ofChange binconvBetweenSpec)

/-- ITS FALSE NEIGHBOUR: 'it returns false'. Refute it at one input. -/
def binconvBetweenWrong : ChangeSpec := { name := "binconvBetween", fn := fun _ => fun
  | [d1, d2, d3, d4, d5] => { results := [.lit (.bool false)], args := [d1, d2, d3, d4, d5] }
  | _ => none }
def BinconvBetweenWrongFalsely : Prop := binconvBetweenRow.holds Try.pinned (OpenSpec.ofChange binconvBetweenWrong)

/-- 'caliperlaw12.BinconvRises': WHATEVER THE INPUT: true; the input reads as it did. -/
def binconvRisesSpec : ChangeSpec := { name := "binconvRises", fn := fun _ => fun
  | [d1, d2, d3, d4, d5] => { results := [.lit (.bool true)], args := [d1, d2, d3, d4, d5] }
  | _ => none }
def binconvRisesRow : OpenClaim := { program := "ytdpcokahhleopaa", sum := "7e5cdfbcc046fff779a0fd656d0a9dd5181c17e1f1583456bb05fa4bb6075f77", func := "caliper/caliperlaw12.BinconvRises", spec := "binconvRises", inPlace := ["math/bits.Sub64", "math/bits.Add64"], recurses := true, named := ["math/bits.divideError", "math/bits.overflowError"], apart := false }
def BinconvRisesSaid : Prop := binconvRisesRow.holds Try.pinned (OpenSpec.ofChange binconvRisesSpec)

/-- ITS FALSE NEIGHBOUR: 'it returns false'. Refute it at one input. -/
def binconvRisesWrong : ChangeSpec := { name := "binconvRises", fn := fun _ => fun
  | [d1, d2, d3, d4, d5] => { results := [.lit (.bool false)], args := [d1, d2, d3, d4, d5] }
  | _ => none }
def BinconvRisesWrongFalsely : Prop := binconvRisesRow.holds Try.pinned (OpenSpec.ofChange binconvRisesWrong)

/-- 'caliperlaw12.BinconvTurns': WHATEVER THE INPUT: true; the input reads as it did. -/
def binconvTurnsSpec : ChangeSpec := { name := "binconvTurns", fn := fun _ => fun
  | [d1, d2, d3, d4] => { results := [.lit (.bool true)], args := [d1, d2, d3, d4] }
  | _ => none }
def binconvTurnsRow : OpenClaim := { program := "ytdpcokahhleopaa", sum := "7e5cdfbcc046fff779a0fd656d0a9dd5181c17e1f1583456bb05fa4bb6075f77", func := "caliper/caliperlaw12.BinconvTurns", spec := "binconvTurns", inPlace := ["math/bits.Sub64", "math/bits.Add64"], recurses := true, named := ["math/bits.divideError", "math/bits.overflowError"], apart := false }
def BinconvTurnsSaid : Prop := binconvTurnsRow.holds Try.pinned (OpenSpec.ofChange binconvTurnsSpec)

/-- ITS FALSE NEIGHBOUR: 'it returns false'. Refute it at one input. -/
def binconvTurnsWrong : ChangeSpec := { name := "binconvTurns", fn := fun _ => fun
  | [d1, d2, d3, d4] => { results := [.lit (.bool false)], args := [d1, d2, d3, d4] }
  | _ => none }
def BinconvTurnsWrongFalsely : Prop := binconvTurnsRow.holds Try.pinned (OpenSpec.ofChange binconvTurnsWrong)

/-- 'caliperlaw12.BinconvWidens': WHATEVER THE INPUT: true; the input reads as it did. -/
def binconvWidensSpec : ChangeSpec := { name := "binconvWidens", fn := fun _ => fun
  | [d1, d2, d3, d4, d5] => { results := [.lit (.bool true)], args := [d1, d2, d3, d4, d5] }
  | _ => none }
def binconvWidensRow : OpenClaim := { program := "ytdpcokahhleopaa", sum := "7e5cdfbcc046fff779a0fd656d0a9dd5181c17e1f1583456bb05fa4bb6075f77", func := "caliper/caliperlaw12.BinconvWidens", spec := "binconvWidens", inPlace := ["math/bits.Sub64", "math/bits.Add64"], recurses := true, named := ["math/bits.divideError", "math/bits.overflowError"], apart := false }
def BinconvWidensSaid : Prop := binconvWidensRow.holds Try.pinned (OpenSpec.ofChange binconvWidensSpec)

/-- ITS FALSE NEIGHBOUR: 'it returns false'. Refute it at one input. -/
def binconvWidensWrong : ChangeSpec := { name := "binconvWidens", fn := fun _ => fun
  | [d1, d2, d3, d4, d5] => { results := [.lit (.bool false)], args := [d1, d2, d3, d4, d5] }
  | _ => none }
def BinconvWidensWrongFalsely : Prop := binconvWidensRow.holds Try.pinned (OpenSpec.ofChange binconvWidensWrong)

/-- 'caliperlaw12.BinconvSelf': WHATEVER THE INPUT: true; the input reads as it did. -/
def binconvSelfSpec : ChangeSpec := { name := "binconvSelf", fn := fun _ => fun
  | [d1, d2, d3] => { results := [.lit (.bool true)], args := [d1, d2, d3] }
  | _ => none }
def binconvSelfRow : OpenClaim := { program := "ytdpcokahhleopaa", sum := "7e5cdfbcc046fff779a0fd656d0a9dd5181c17e1f1583456bb05fa4bb6075f77", func := "caliper/caliperlaw12.BinconvSelf", spec := "binconvSelf", inPlace := ["math/bits.Sub64", "math/bits.Add64"], recurses := true, named := ["math/bits.divideError", "math/bits.overflowError"], apart := false }
def BinconvSelfSaid : Prop := binconvSelfRow.holds Try.pinned (OpenSpec.ofChange binconvSelfSpec)

/-- ITS FALSE NEIGHBOUR: 'it returns false'. Refute it at one input. -/
def binconvSelfWrong : ChangeSpec := { name := "binconvSelf", fn := fun _ => fun
  | [d1, d2, d3] => { results := [.lit (.bool false)], args := [d1, d2, d3] }
  | _ => none }
def BinconvSelfWrongFalsely : Prop := binconvSelfRow.holds Try.pinned (OpenSpec.ofChange binconvSelfWrong)

/- THE SECOND FORM. 'bulk': how many values and letters a reading holds, each counted each time it is reached (what is shared counts as often as it is met; a slice's spare places count too). A statement '..UptoSaid' is the law's where the arguments, and the package variables that the reading takes, are together of bulk at most 1048576: NARROWER than '..Said'. Prove '..Said' where nothing that the law and all that it calls make is longer than what came in: it says more and counts as full. Else prove '..UptoSaid'. A law counts once. -/
mutual
def uptoBulk {H : Type} : DataW H → Nat
  | .lit (.string bytes) => bytes.length + 1
  | .lit _ => 1
  | .nil => 1
  | .ptr d => uptoBulk d + 1
  | .slice elems spare => uptoBulkAll elems + uptoBulkAll spare + 1
  | .agg parts => uptoBulkAll parts + 1
  | .iface _ d => uptoBulk d + 1
  | .map entries => uptoBulkEntries entries + 1
  | .held _ => 1
def uptoBulkAll {H : Type} : List (DataW H) → Nat
  | [] => 0
  | d :: r => uptoBulk d + uptoBulkAll r
def uptoBulkEntries {H : Type} : List (Lit × DataW H) → Nat
  | [] => 0
  | x :: r => uptoBulkEntry x + uptoBulkEntries r
def uptoBulkEntry {H : Type} : Lit × DataW H → Nat
  | (.string bytes, d) => bytes.length + uptoBulk d + 1
  | (_, d) => uptoBulk d + 1
 end
def uptoSmall : (H : Type) → List (DataW H) → Bool := fun _ ds => decide (uptoBulkAll ds ≤ 1048576)
def OpenSpec.upto (s : _root_.Go.ChangeSpec) : _root_.Go.OpenSpec := { _root_.Go.OpenSpec.ofChange s with cond := some uptoSmall }

/-- 'caliperlaw06.RoundBinary', WHERE WHAT IT READS IS OF BULK AT MOST 1048576: true; the input reads as it did. -/
def roundBinaryUptoRow : OpenClaim := { program := "ytdpcokahhleopaa", sum := "7e5cdfbcc046fff779a0fd656d0a9dd5181c17e1f1583456bb05fa4bb6075f77", func := "caliper/caliperlaw06.RoundBinary", spec := "roundBinary", inPlace := ["math/bits.Sub64", "math/bits.Add64"], named := ["math/bits.divideError", "math/bits.overflowError"], apart := false, narrowed := true }
def RoundBinaryUptoSaid : Prop := roundBinaryUptoRow.holds Try.pinned (OpenSpec.upto roundBinarySpec)

/-- 'caliperlaw06.RoundSides', WHERE WHAT IT READS IS OF BULK AT MOST 1048576: true; the input reads as it did. -/
def roundSidesUptoRow : OpenClaim := { program := "ytdpcokahhleopaa", sum := "7e5cdfbcc046fff779a0fd656d0a9dd5181c17e1f1583456bb05fa4bb6075f77", func := "caliper/caliperlaw06.RoundSides", spec := "roundSides", inPlace := ["math/bits.Sub64", "math/bits.Add64"], named := ["math/bits.divideError", "math/bits.overflowError"], apart := false, narrowed := true }
def RoundSidesUptoSaid : Prop := roundSidesUptoRow.holds Try.pinned (OpenSpec.upto roundSidesSpec)

/-- 'caliperlaw06.RoundTurns', WHERE WHAT IT READS IS OF BULK AT MOST 1048576: true; the input reads as it did. -/
def roundTurnsUptoRow : OpenClaim := { program := "ytdpcokahhleopaa", sum := "7e5cdfbcc046fff779a0fd656d0a9dd5181c17e1f1583456bb05fa4bb6075f77", func := "caliper/caliperlaw06.RoundTurns", spec := "roundTurns", inPlace := ["math/bits.Sub64", "math/bits.Add64"], named := ["math/bits.divideError", "math/bits.overflowError"], apart := false, narrowed := true }
def RoundTurnsUptoSaid : Prop := roundTurnsUptoRow.holds Try.pinned (OpenSpec.upto roundTurnsSpec)

/-- 'caliperlaw06.RoundRises', WHERE WHAT IT READS IS OF BULK AT MOST 1048576: true; the input reads as it did. -/
def roundRisesUptoRow : OpenClaim := { program := "ytdpcokahhleopaa", sum := "7e5cdfbcc046fff779a0fd656d0a9dd5181c17e1f1583456bb05fa4bb6075f77", func := "caliper/caliperlaw06.RoundRises", spec := "roundRises", inPlace := ["math/bits.Sub64", "math/bits.Add64"], named := ["math/bits.divideError", "math/bits.overflowError"], apart := false, narrowed := true }
def RoundRisesUptoSaid : Prop := roundRisesUptoRow.holds Try.pinned (OpenSpec.upto roundRisesSpec)

/-- 'caliperlaw06.RoundScaled', WHERE WHAT IT READS IS OF BULK AT MOST 1048576: true; the input reads as it did. -/
def roundScaledUptoRow : OpenClaim := { program := "ytdpcokahhleopaa", sum := "7e5cdfbcc046fff779a0fd656d0a9dd5181c17e1f1583456bb05fa4bb6075f77", func := "caliper/caliperlaw06.RoundScaled", spec := "roundScaled", inPlace := ["math/bits.Sub64", "math/bits.Add64"], named := ["math/bits.divideError", "math/bits.overflowError"], apart := false, narrowed := true }
def RoundScaledUptoSaid : Prop := roundScaledUptoRow.holds Try.pinned (OpenSpec.upto roundScaledSpec)

/-- 'caliperlaw06.RoundKeeps', WHERE WHAT IT READS IS OF BULK AT MOST 1048576: true; the input reads as it did. -/
def roundKeepsUptoRow : OpenClaim := { program := "ytdpcokahhleopaa", sum := "7e5cdfbcc046fff779a0fd656d0a9dd5181c17e1f1583456bb05fa4bb6075f77", func := "caliper/caliperlaw06.RoundKeeps", spec := "roundKeeps", inPlace := ["math/bits.Sub64", "math/bits.Add64"], named := ["math/bits.divideError", "math/bits.overflowError"], apart := false, narrowed := true }
def RoundKeepsUptoSaid : Prop := roundKeepsUptoRow.holds Try.pinned (OpenSpec.upto roundKeepsSpec)

/-- 'caliperlaw12.BinconvConverts', WHERE WHAT IT READS IS OF BULK AT MOST 1048576: true; the input reads as it did. -/
def binconvConvertsUptoRow : OpenClaim := { program := "ytdpcokahhleopaa", sum := "7e5cdfbcc046fff779a0fd656d0a9dd5181c17e1f1583456bb05fa4bb6075f77", func := "caliper/caliperlaw12.BinconvConverts", spec := "binconvConverts", inPlace := ["math/bits.Sub64", "math/bits.Add64"], recurses := true, named := ["math/bits.divideError", "math/bits.overflowError"], apart := false, narrowed := true }
def BinconvConvertsUptoSaid : Prop := binconvConvertsUptoRow.holds Try.pinned (OpenSpec.upto binconvConvertsSpec)

/-- 'caliperlaw12.BinconvBetween', WHERE WHAT IT READS IS OF BULK AT MOST 1048576: true; the input reads as it did. -/
def binconvBetweenUptoRow : OpenClaim := { program := "ytdpcokahhleopaa", sum := "7e5cdfbcc046fff779a0fd656d0a9dd5181c17e1f1583456bb05fa4bb6075f77", func := "caliper/caliperlaw12.BinconvBetween", spec := "binconvBetween", inPlace := ["math/bits.Sub64", "math/bits.Add64"], recurses := true, named := ["math/bits.divideError", "math/bits.overflowError"], apart := false, narrowed := true }
def BinconvBetweenUptoSaid : Prop := binconvBetweenUptoRow.holds Try.pinned (OpenSpec.upto binconvBetweenSpec)

/-- 'caliperlaw12.BinconvRises', WHERE WHAT IT READS IS OF BULK AT MOST 1048576: true; the input reads as it did. -/
def binconvRisesUptoRow : OpenClaim := { program := "ytdpcokahhleopaa", sum := "7e5cdfbcc046fff779a0fd656d0a9dd5181c17e1f1583456bb05fa4bb6075f77", func := "caliper/caliperlaw12.BinconvRises", spec := "binconvRises", inPlace := ["math/bits.Sub64", "math/bits.Add64"], recurses := true, named := ["math/bits.divideError", "math/bits.overflowError"], apart := false, narrowed := true }
def BinconvRisesUptoSaid : Prop := binconvRisesUptoRow.holds Try.pinned (OpenSpec.upto binconvRisesSpec)

/-- 'caliperlaw12.BinconvTurns', WHERE WHAT IT READS IS OF BULK AT MOST 1048576: true; the input reads as it did. -/
def binconvTurnsUptoRow : OpenClaim := { program := "ytdpcokahhleopaa", sum := "7e5cdfbcc046fff779a0fd656d0a9dd5181c17e1f1583456bb05fa4bb6075f77", func := "caliper/caliperlaw12.BinconvTurns", spec := "binconvTurns", inPlace := ["math/bits.Sub64", "math/bits.Add64"], recurses := true, named := ["math/bits.divideError", "math/bits.overflowError"], apart := false, narrowed := true }
def BinconvTurnsUptoSaid : Prop := binconvTurnsUptoRow.holds Try.pinned (OpenSpec.upto binconvTurnsSpec)

/-- 'caliperlaw12.BinconvWidens', WHERE WHAT IT READS IS OF BULK AT MOST 1048576: true; the input reads as it did. -/
def binconvWidensUptoRow : OpenClaim := { program := "ytdpcokahhleopaa", sum := "7e5cdfbcc046fff779a0fd656d0a9dd5181c17e1f1583456bb05fa4bb6075f77", func := "caliper/caliperlaw12.BinconvWidens", spec := "binconvWidens", inPlace := ["math/bits.Sub64", "math/bits.Add64"], recurses := true, named := ["math/bits.divideError", "math/bits.overflowError"], apart := false, narrowed := true }
def BinconvWidensUptoSaid : Prop := binconvWidensUptoRow.holds Try.pinned (OpenSpec.upto binconvWidensSpec)

/-- 'caliperlaw12.BinconvSelf', WHERE WHAT IT READS IS OF BULK AT MOST 1048576: true; the input reads as it did. -/
def binconvSelfUptoRow : OpenClaim := { program := "ytdpcokahhleopaa", sum := "7e5cdfbcc046fff779a0fd656d0a9dd5181c17e1f1583456bb05fa4bb6075f77", func := "caliper/caliperlaw12.BinconvSelf", spec := "binconvSelf", inPlace := ["math/bits.Sub64", "math/bits.Add64"], recurses := true, named := ["math/bits.divideError", "math/bits.overflowError"], apart := false, narrowed := true }
def BinconvSelfUptoSaid : Prop := binconvSelfUptoRow.holds Try.pinned (OpenSpec.upto binconvSelfSpec)

end Rows
end Go.Proofs.Ytdpcokahhleopaa
