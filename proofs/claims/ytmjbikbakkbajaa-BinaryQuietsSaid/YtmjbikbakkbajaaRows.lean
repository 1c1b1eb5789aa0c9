/-
  No cell of these rows narrows 'for every input' (looked for: loops, veiled, ifaces, maps, wideKeys, modest, calm, conditions, laid).
  DERIVED. THE GIVEN ROWS OF THIS SEAT. 12 by the template 'for every input the law returns true; each argument reads behind the call as it read before'; 0 by the template 'total and deterministic' (their statements: YtmjbikbakkbajaaTotals.lean).
  GIVEN WITH THE SEED: the statements are not yours to turn. If you find one false, say at which input.
  Laid BY PROGRAM, IN A SANDBOX (cutbox-rows.mjs): the forced cells as the released guide's own fill.sh prints them over the translation 1b4453da21fc28e9… (all of the seat's roots in one cut). By AI agents, Wed Nov 11 2026. No macro, syntax, notation, axiom, sorry.
-/
import Derived.Test.YtmjbikbakkbajaaChecked
import GoSem.Claim
import GoSem.ClaimJoined
import GoSem.ClaimMapViews
import Derived.JoinedTies
import Derived.KernelRfl
namespace Go.Proofs.Ytmjbikbakkbajaa
/- THE CELL 'sum', in the pinned program and in every row, IS THE sha256 OF THE DUMP (.gsa) THAT YtmjbikbakkbajaaProg.lean LOADS. Nothing in Lean hashes anything: it is a label: what it is worth is what the hold of that sum in a sandbox is worth. -/
noncomputable def Try.pinned : Pinned := { name := "ytmjbikbakkbajaa", sum := "1b4453da21fc28e9d3b284a4334fec890e60781729cc71e2ac947f40ad16f154", checked := Try.checked }
namespace Rows
def none {H : Type} : Left H := { results := [], args := [] }

/-- 'caliperlaw13.DecletSmall': WHATEVER THE INPUT: true; the input reads as it did. -/
def decletSmallSpec : ChangeSpec := { name := "decletSmall", fn := fun _ => fun
  | [d1, d2, d3] => { results := [.lit (.bool true)], args := [d1, d2, d3] }
  | _ => none }
def decletSmallRow : OpenClaim := { program := "ytmjbikbakkbajaa", sum := "1b4453da21fc28e9d3b284a4334fec890e60781729cc71e2ac947f40ad16f154", func := "caliper/caliperlaw13.DecletSmall", spec := "decletSmall", apart := false }
def DecletSmallSaid : Prop := decletSmallRow.holds Try.pinned (OpenSpec.ofChange decletSmallSpec)

/-- ITS FALSE NEIGHBOUR: 'it returns false'. Refute it at one input. -/
def decletSmallWrong : ChangeSpec := { name := "decletSmall", fn := fun _ => fun
  | [d1, d2, d3] => { results := [.lit (.bool false)], args := [d1, d2, d3] }
  | _ => none }
def DecletSmallWrongFalsely : Prop := decletSmallRow.holds Try.pinned (OpenSpec.ofChange decletSmallWrong)

/-- 'caliperlaw13.DecletCodes': WHATEVER THE INPUT: true; the input reads as it did. -/
def decletCodesSpec : ChangeSpec := { name := "decletCodes", fn := fun _ => fun
  | [d1, d2] => { results := [.lit (.bool true)], args := [d1, d2] }
  | _ => none }
def decletCodesRow : OpenClaim := { program := "ytmjbikbakkbajaa", sum := "1b4453da21fc28e9d3b284a4334fec890e60781729cc71e2ac947f40ad16f154", func := "caliper/caliperlaw13.DecletCodes", spec := "decletCodes", apart := false }
def DecletCodesSaid : Prop := decletCodesRow.holds Try.pinned (OpenSpec.ofChange decletCodesSpec)

/-- ITS FALSE NEIGHBOUR: 'it returns false'. Refute it at one input. -/
def decletCodesWrong : ChangeSpec := { name := "decletCodes", fn := fun _ => fun
  | [d1, d2] => { results := [.lit (.bool false)], args := [d1, d2] }
  | _ => none }
def DecletCodesWrongFalsely : Prop := decletCodesRow.holds Try.pinned (OpenSpec.ofChange decletCodesWrong)

/-- 'caliperlaw13.DecletBack': WHATEVER THE INPUT: true; the input reads as it did. -/
def decletBackSpec : ChangeSpec := { name := "decletBack", fn := fun _ => fun
  | [d] => { results := [.lit (.bool true)], args := [d] }
  | _ => none }
def decletBackRow : OpenClaim := { program := "ytmjbikbakkbajaa", sum := "1b4453da21fc28e9d3b284a4334fec890e60781729cc71e2ac947f40ad16f154", func := "caliper/caliperlaw13.DecletBack", spec := "decletBack", apart := false }
def DecletBackSaid : Prop := decletBackRow.holds Try.pinned (OpenSpec.ofChange decletBackSpec)

/-- ITS FALSE NEIGHBOUR: 'it returns false'. Refute it at one input. -/
def decletBackWrong : ChangeSpec := { name := "decletBack", fn := fun _ => fun
  | [d] => { results := [.lit (.bool false)], args := [d] }
  | _ => none }
def DecletBackWrongFalsely : Prop := decletBackRow.holds Try.pinned (OpenSpec.ofChange decletBackWrong)

/-- 'caliperlaw01.LimbsAdds': WHATEVER THE INPUT: true; the input reads as it did. -/
def limbsAddsSpec : ChangeSpec := { name := "limbsAdds", fn := fun _ => fun
  | [d1, d2] => { results := [.lit (.bool true)], args := [d1, d2] }
  | _ => none }
def limbsAddsRow : OpenClaim := { program := "ytmjbikbakkbajaa", sum := "1b4453da21fc28e9d3b284a4334fec890e60781729cc71e2ac947f40ad16f154", func := "caliper/caliperlaw01.LimbsAdds", spec := "limbsAdds", inPlace := ["math/bits.Add64", "math/bits.Sub64"], named := ["math/bits.divideError", "math/bits.overflowError"], apart := false }
def LimbsAddsSaid : Prop := limbsAddsRow.holds Try.pinned (OpenSpec.ofChange limbsAddsSpec)

/-- ITS FALSE NEIGHBOUR: 'it returns false'. Refute it at one input. -/
def limbsAddsWrong : ChangeSpec := { name := "limbsAdds", fn := fun _ => fun
  | [d1, d2] => { results := [.lit (.bool false)], args := [d1, d2] }
  | _ => none }
def LimbsAddsWrongFalsely : Prop := limbsAddsRow.holds Try.pinned (OpenSpec.ofChange limbsAddsWrong)

/-- 'caliperlaw01.LimbsBits': WHATEVER THE INPUT: true; the input reads as it did. -/
def limbsBitsSpec : ChangeSpec := { name := "limbsBits", fn := fun _ => fun
  | [d1, d2] => { results := [.lit (.bool true)], args := [d1, d2] }
  | _ => none }
def limbsBitsRow : OpenClaim := { program := "ytmjbikbakkbajaa", sum := "1b4453da21fc28e9d3b284a4334fec890e60781729cc71e2ac947f40ad16f154", func := "caliper/caliperlaw01.LimbsBits", spec := "limbsBits", inPlace := ["math/bits.Add64"], named := ["math/bits.divideError", "math/bits.overflowError"], apart := false }
def LimbsBitsSaid : Prop := limbsBitsRow.holds Try.pinned (OpenSpec.ofChange limbsBitsSpec)

/-- ITS FALSE NEIGHBOUR: 'it returns false'. Refute it at one input. -/
def limbsBitsWrong : ChangeSpec := { name := "limbsBits", fn := fun _ => fun
  | [d1, d2] => { results := [.lit (.bool false)], args := [d1, d2] }
  | _ => none }
def LimbsBitsWrongFalsely : Prop := limbsBitsRow.holds Try.pinned (OpenSpec.ofChange limbsBitsWrong)

/-- 'caliperlaw01.LimbsSubs': WHATEVER THE INPUT: true; the input reads as it did. -/
def limbsSubsSpec : ChangeSpec := { name := "limbsSubs", fn := fun _ => fun
  | [d1, d2] => { results := [.lit (.bool true)], args := [d1, d2] }
  | _ => none }
def limbsSubsRow : OpenClaim := { program := "ytmjbikbakkbajaa", sum := "1b4453da21fc28e9d3b284a4334fec890e60781729cc71e2ac947f40ad16f154", func := "caliper/caliperlaw01.LimbsSubs", spec := "limbsSubs", inPlace := ["math/bits.Add64", "math/bits.Sub64"], named := ["math/bits.divideError", "math/bits.overflowError"], apart := false }
def LimbsSubsSaid : Prop := limbsSubsRow.holds Try.pinned (OpenSpec.ofChange limbsSubsSpec)

/-- ITS FALSE NEIGHBOUR: 'it returns false'. Refute it at one input. -/
def limbsSubsWrong : ChangeSpec := { name := "limbsSubs", fn := fun _ => fun
  | [d1, d2] => { results := [.lit (.bool false)], args := [d1, d2] }
  | _ => none }
def LimbsSubsWrongFalsely : Prop := limbsSubsRow.holds Try.pinned (OpenSpec.ofChange limbsSubsWrong)

/-- 'caliperlaw01.LimbsDivs': WHATEVER THE INPUT: true; the input reads as it did. -/
def limbsDivsSpec : ChangeSpec := { name := "limbsDivs", fn := fun _ => fun
  | [d1, d2] => { results := [.lit (.bool true)], args := [d1, d2] }
  | _ => none }
def limbsDivsRow : OpenClaim := { program := "ytmjbikbakkbajaa", sum := "1b4453da21fc28e9d3b284a4334fec890e60781729cc71e2ac947f40ad16f154", func := "caliper/caliperlaw01.LimbsDivs", spec := "limbsDivs", inPlace := ["math/bits.Add64"], named := ["math/bits.divideError", "math/bits.overflowError"], apart := false }
def LimbsDivsSaid : Prop := limbsDivsRow.holds Try.pinned (OpenSpec.ofChange limbsDivsSpec)

/-- ITS FALSE NEIGHBOUR: 'it returns false'. Refute it at one input. -/
def limbsDivsWrong : ChangeSpec := { name := "limbsDivs", fn := fun _ => fun
  | [d1, d2] => { results := [.lit (.bool false)], args := [d1, d2] }
  | _ => none }
def LimbsDivsWrongFalsely : Prop := limbsDivsRow.holds Try.pinned (OpenSpec.ofChange limbsDivsWrong)

/-- 'caliperlaw01.LimbsMuls': WHATEVER THE INPUT: true; the input reads as it did. -/
def limbsMulsSpec : ChangeSpec := { name := "limbsMuls", fn := fun _ => fun
  | [d1, d2] => { results := [.lit (.bool true)], args := [d1, d2] }
  | _ => none }
def limbsMulsRow : OpenClaim := { program := "ytmjbikbakkbajaa", sum := "1b4453da21fc28e9d3b284a4334fec890e60781729cc71e2ac947f40ad16f154", func := "caliper/caliperlaw01.LimbsMuls", spec := "limbsMuls", inPlace := ["math/bits.Add64", "math/bits.Sub64"], named := ["math/bits.divideError", "math/bits.overflowError"], apart := false }
def LimbsMulsSaid : Prop := limbsMulsRow.holds Try.pinned (OpenSpec.ofChange limbsMulsSpec)

/-- ITS FALSE NEIGHBOUR: 'it returns false'. Refute it at one input. -/
def limbsMulsWrong : ChangeSpec := { name := "limbsMuls", fn := fun _ => fun
  | [d1, d2] => { results := [.lit (.bool false)], args := [d1, d2] }
  | _ => none }
def LimbsMulsWrongFalsely : Prop := limbsMulsRow.holds Try.pinned (OpenSpec.ofChange limbsMulsWrong)

/-- 'caliperlaw01.LimbsShifts': WHATEVER THE INPUT: true; the input reads as it did. -/
def limbsShiftsSpec : ChangeSpec := { name := "limbsShifts", fn := fun _ => fun
  | [d1, d2] => { results := [.lit (.bool true)], args := [d1, d2] }
  | _ => none }
def limbsShiftsRow : OpenClaim := { program := "ytmjbikbakkbajaa", sum := "1b4453da21fc28e9d3b284a4334fec890e60781729cc71e2ac947f40ad16f154", func := "caliper/caliperlaw01.LimbsShifts", spec := "limbsShifts", inPlace := ["math/bits.Add64", "math/bits.Sub64"], named := ["math/bits.divideError", "math/bits.overflowError"], apart := false }
def LimbsShiftsSaid : Prop := limbsShiftsRow.holds Try.pinned (OpenSpec.ofChange limbsShiftsSpec)

/-- ITS FALSE NEIGHBOUR: 'it returns false'. Refute it at one input. -/
def limbsShiftsWrong : ChangeSpec := { name := "limbsShifts", fn := fun _ => fun
  | [d1, d2] => { results := [.lit (.bool false)], args := [d1, d2] }
  | _ => none }
def LimbsShiftsWrongFalsely : Prop := limbsShiftsRow.holds Try.pinned (OpenSpec.ofChange limbsShiftsWrong)

/-- 'caliperlaw05.BinaryRises': WHATEVER THE INPUT: true; the input reads as it did. -/
def binaryRisesSpec : ChangeSpec := { name := "binaryRises", fn := fun _ => fun
  | [d1, d2, d3] => { results := [.lit (.bool true)], args := [d1, d2, d3] }
  | _ => none }
def binaryRisesRow : OpenClaim := { program := "ytmjbikbakkbajaa", sum := "1b4453da21fc28e9d3b284a4334fec890e60781729cc71e2ac947f40ad16f154", func := "caliper/caliperlaw05.BinaryRises", spec := "binaryRises", inPlace := ["math/bits.Sub64"], apart := false }
def BinaryRisesSaid : Prop := binaryRisesRow.holds Try.pinned (OpenSpec.ofChange binaryRisesSpec)

/-- ITS FALSE NEIGHBOUR: 'it returns false'. Refute it at one input. -/
def binaryRisesWrong : ChangeSpec := { name := "binaryRises", fn := fun _ => fun
  | [d1, d2, d3] => { results := [.lit (.bool false)], args := [d1, d2, d3] }
  | _ => none }
def BinaryRisesWrongFalsely : Prop := binaryRisesRow.holds Try.pinned (OpenSpec.ofChange binaryRisesWrong)

/-- 'caliperlaw05.BinaryUnpacks': WHATEVER THE INPUT: true; the input reads as it did. -/
def binaryUnpacksSpec : ChangeSpec := { name := "binaryUnpacks", fn := fun _ => fun
  | [d1, d2] => { results := [.lit (.bool true)], args := [d1, d2] }
  | _ => none }
def binaryUnpacksRow : OpenClaim := { program := "ytmjbikbakkbajaa", sum := "1b4453da21fc28e9d3b284a4334fec890e60781729cc71e2ac947f40ad16f154", func := "caliper/caliperlaw05.BinaryUnpacks", spec := "binaryUnpacks", inPlace := ["math/bits.Sub64", "math/bits.Add64"], apart := false }
def BinaryUnpacksSaid : Prop := binaryUnpacksRow.holds Try.pinned (OpenSpec.ofChange binaryUnpacksSpec)

/-- ITS FALSE NEIGHBOUR: 'it returns false'. Refute it at one input. -/
def binaryUnpacksWrong : ChangeSpec := { name := "binaryUnpacks", fn := fun _ => fun
  | [d1, d2] => { results := [.lit (.bool false)], args := [d1, d2] }
  | _ => none }
def BinaryUnpacksWrongFalsely : Prop := binaryUnpacksRow.holds Try.pinned (OpenSpec.ofChange binaryUnpacksWrong)

/-- 'caliperlaw05.BinaryQuiets': WHATEVER THE INPUT: true; the input reads as it did. -/
def binaryQuietsSpec : ChangeSpec := { name := "binaryQuiets", fn := fun _ => fun
  | [d1, d2] => { results := [.lit (.bool true)], args := [d1, d2] }
  | _ => none }
def binaryQuietsRow : OpenClaim := { program := "ytmjbikbakkbajaa", sum := "1b4453da21fc28e9d3b284a4334fec890e60781729cc71e2ac947f40ad16f154", func := "caliper/caliperlaw05.BinaryQuiets", spec := "binaryQuiets", inPlace := ["math/bits.Sub64", "math/bits.Add64"], apart := false }
def BinaryQuietsSaid : Prop := binaryQuietsRow.holds Try.pinned (OpenSpec.ofChange binaryQuietsSpec)

/-- ITS FALSE NEIGHBOUR: 'it returns false'. Refute it at one input. -/
def binaryQuietsWrong : ChangeSpec := { name := "binaryQuiets", fn := fun _ => fun
  | [d1, d2] => { results := [.lit (.bool false)], args := [d1, d2] }
  | _ => none }
def BinaryQuietsWrongFalsely : Prop := binaryQuietsRow.holds Try.pinned (OpenSpec.ofChange binaryQuietsWrong)

/- THE SECOND FORM. 'bulk': how many values and letters a reading holds, each counted each time it is reached (what is shared counts as often as it is met; a slice's spare places count too). A statement '..UptoSaid' is the law's where the arguments, and the package variables that the reading takes, are together of bulk at most 1048576: NARROWER than '..Said'. Prove '..Said' where nothing that the law and all that it calls make is longer than what came in: it says more and counts as full. Else prove '..UptoSaid'. A law counts once. -/
mutual
def uptoBulk {H : Type} : DataW H → Nat
  | .lit (.string bytes) => bytes.length + 1
  | .lit _ => 1
  | .nil => 1
  | .ptr d => uptoBulk d + 1
  | .slice elems spare => uptoBulkAll elems + uptoBulkAll spare + 1
  | .agg parts => uptoBulkAll parts + 1
  | .iface _ d => uptoBulk d + 1
  | .map entries => uptoBulkEntries entries + 1
  | .held _ => 1
def uptoBulkAll {H : Type} : List (DataW H) → Nat
  | [] => 0
  | d :: r => uptoBulk d + uptoBulkAll r
def uptoBulkEntries {H : Type} : List (Lit × DataW H) → Nat
  | [] => 0
  | x :: r => uptoBulkEntry x + uptoBulkEntries r
def uptoBulkEntry {H : Type} : Lit × DataW H → Nat
  | (.string bytes, d) => bytes.length + uptoBulk d + 1
  | (_, d) => uptoBulk d + 1
 end
def uptoSmall : (H : Type) → List (DataW H) → Bool := fun _ ds => decide (uptoBulkAll ds ≤ 1048576)
def OpenSpec.upto (s : _root_.Go.ChangeSpec) : _root_.Go.OpenSpec := { _root_.Go.OpenSpec.ofChange s with cond := some uptoSmall }

/-- 'caliperlaw13.DecletSmall', WHERE WHAT IT READS IS OF BULK AT MOST 1048576: true; the input reads as it did. -/
def decletSmallUptoRow : OpenClaim := { program := "ytmjbikbakkbajaa", sum := "1b4453da21fc28e9d3b284a4334fec890e60781729cc71e2ac947f40ad16f154", func := "caliper/caliperlaw13.DecletSmall", spec := "decletSmall", apart := false, narrowed := true }
def DecletSmallUptoSaid : Prop := decletSmallUptoRow.holds Try.pinned (OpenSpec.upto decletSmallSpec)

/-- 'caliperlaw13.DecletCodes', WHERE WHAT IT READS IS OF BULK AT MOST 1048576: true; the input reads as it did. -/
def decletCodesUptoRow : OpenClaim := { program := "ytmjbikbakkbajaa", sum := "1b4453da21fc28e9d3b284a4334fec890e60781729cc71e2ac947f40ad16f154", func := "caliper/caliperlaw13.DecletCodes", spec := "decletCodes", apart := false, narrowed := true }
def DecletCodesUptoSaid : Prop := decletCodesUptoRow.holds Try.pinned (OpenSpec.upto decletCodesSpec)

/-- 'caliperlaw13.DecletBack', WHERE WHAT IT READS IS OF BULK AT MOST 1048576: true; the input reads as it did. -/
def decletBackUptoRow : OpenClaim := { program := "ytmjbikbakkbajaa", sum := "1b4453da21fc28e9d3b284a4334fec890e60781729cc71e2ac947f40ad16f154", func := "caliper/caliperlaw13.DecletBack", spec := "decletBack", apart := false, narrowed := true }
def DecletBackUptoSaid : Prop := decletBackUptoRow.holds Try.pinned (OpenSpec.upto decletBackSpec)

/-- 'caliperlaw01.LimbsAdds', WHERE WHAT IT READS IS OF BULK AT MOST 1048576: true; the input reads as it did. -/
def limbsAddsUptoRow : OpenClaim := { program := "ytmjbikbakkbajaa", sum := "1b4453da21fc28e9d3b284a4334fec890e60781729cc71e2ac947f40ad16f154", func := "caliper/caliperlaw01.LimbsAdds", spec := "limbsAdds", inPlace := ["math/bits.Add64", "math/bits.Sub64"], named := ["math/bits.divideError", "math/bits.overflowError"], apart := false, narrowed := true }
def LimbsAddsUptoSaid : Prop := limbsAddsUptoRow.holds Try.pinned (OpenSpec.upto limbsAddsSpec)

/-- 'caliperlaw01.LimbsBits', WHERE WHAT IT READS IS OF BULK AT MOST 1048576: true; the input reads as it did. -/
def limbsBitsUptoRow : OpenClaim := { program := "ytmjbikbakkbajaa", sum := "1b4453da21fc28e9d3b284a4334fec890e60781729cc71e2ac947f40ad16f154", func := "caliper/caliperlaw01.LimbsBits", spec := "limbsBits", inPlace := ["math/bits.Add64"], named := ["math/bits.divideError", "math/bits.overflowError"], apart := false, narrowed := true }
def LimbsBitsUptoSaid : Prop := limbsBitsUptoRow.holds Try.pinned (OpenSpec.upto limbsBitsSpec)

/-- 'caliperlaw01.LimbsSubs', WHERE WHAT IT READS IS OF BULK AT MOST 1048576: true; the input reads as it did. -/
def limbsSubsUptoRow : OpenClaim := { program := "ytmjbikbakkbajaa", sum := "1b4453da21fc28e9d3b284a4334fec890e60781729cc71e2ac947f40ad16f154", func := "caliper/caliperlaw01.LimbsSubs", spec := "limbsSubs", inPlace := ["math/bits.Add64", "math/bits.Sub64"], named := ["math/bits.divideError", "math/bits.overflowError"], apart := false, narrowed := true }
def LimbsSubsUptoSaid : Prop := limbsSubsUptoRow.holds Try.pinned (OpenSpec.upto limbsSubsSpec)

/-- 'caliperlaw01.LimbsDivs', WHERE WHAT IT READS IS OF BULK AT MOST 1048576: true; the input reads as it did. -/
def limbsDivsUptoRow : OpenClaim := { program := "ytmjbikbakkbajaa", sum := "1b4453da21fc28e9d3b284a4334fec890e60781729cc71e2ac947f40ad16f154", func := "caliper/caliperlaw01.LimbsDivs", spec := "limbsDivs", inPlace := ["math/bits.Add64"], named := ["math/bits.divideError", "math/bits.overflowError"], apart := false, narrowed := true }
def LimbsDivsUptoSaid : Prop := limbsDivsUptoRow.holds Try.pinned (OpenSpec.upto limbsDivsSpec)

/-- 'caliperlaw01.LimbsMuls', WHERE WHAT IT READS IS OF BULK AT MOST 1048576: true; the input reads as it did. -/
def limbsMulsUptoRow : OpenClaim := { program := "ytmjbikbakkbajaa", sum := "1b4453da21fc28e9d3b284a4334fec890e60781729cc71e2ac947f40ad16f154", func := "caliper/caliperlaw01.LimbsMuls", spec := "limbsMuls", inPlace := ["math/bits.Add64", "math/bits.Sub64"], named := ["math/bits.divideError", "math/bits.overflowError"], apart := false, narrowed := true }
def LimbsMulsUptoSaid : Prop := limbsMulsUptoRow.holds Try.pinned (OpenSpec.upto limbsMulsSpec)

/-- 'caliperlaw01.LimbsShifts', WHERE WHAT IT READS IS OF BULK AT MOST 1048576: true; the input reads as it did. -/
def limbsShiftsUptoRow : OpenClaim := { program := "ytmjbikbakkbajaa", sum := "1b4453da21fc28e9d3b284a4334fec890e60781729cc71e2ac947f40ad16f154", func := "caliper/caliperlaw01.LimbsShifts", spec := "limbsShifts", inPlace := ["math/bits.Add64", "math/bits.Sub64"], named := ["math/bits.divideError", "math/bits.overflowError"], apart := false, narrowed := true }
def LimbsShiftsUptoSaid : Prop := limbsShiftsUptoRow.holds Try.pinned (OpenSpec.upto limbsShiftsSpec)

/-- 'caliperlaw05.BinaryRises', WHERE WHAT IT READS IS OF BULK AT MOST 1048576: true; the input reads as it did. -/
def binaryRisesUptoRow : OpenClaim := { program := "ytmjbikbakkbajaa", sum := "1b4453da21fc28e9d3b284a4334fec890e60781729cc71e2ac947f40ad16f154", func := "caliper/caliperlaw05.BinaryRises", spec := "binaryRises", inPlace := ["math/bits.Sub64"], apart := false, narrowed := true }
def BinaryRisesUptoSaid : Prop := binaryRisesUptoRow.holds Try.pinned (OpenSpec.upto binaryRisesSpec)

/-- 'caliperlaw05.BinaryUnpacks', WHERE WHAT IT READS IS OF BULK AT MOST 1048576: true; the input reads as it did. -/
def binaryUnpacksUptoRow : OpenClaim := { program := "ytmjbikbakkbajaa", sum := "1b4453da21fc28e9d3b284a4334fec890e60781729cc71e2ac947f40ad16f154", func := "caliper/caliperlaw05.BinaryUnpacks", spec := "binaryUnpacks", inPlace := ["math/bits.Sub64", "math/bits.Add64"], apart := false, narrowed := true }
def BinaryUnpacksUptoSaid : Prop := binaryUnpacksUptoRow.holds Try.pinned (OpenSpec.upto binaryUnpacksSpec)

/-- 'caliperlaw05.BinaryQuiets', WHERE WHAT IT READS IS OF BULK AT MOST 1048576: true; the input reads as it did. -/
def binaryQuietsUptoRow : OpenClaim := { program := "ytmjbikbakkbajaa", sum := "1b4453da21fc28e9d3b284a4334fec890e60781729cc71e2ac947f40ad16f154", func := "caliper/caliperlaw05.BinaryQuiets", spec := "binaryQuiets", inPlace := ["math/bits.Sub64", "math/bits.Add64"], apart := false, narrowed := true }
def BinaryQuietsUptoSaid : Prop := binaryQuietsUptoRow.holds Try.pinned (OpenSpec.upto binaryQuietsSpec)

end Rows
end Go.Proofs.Ytmjbikbakkbajaa
