/-
  No cell of these rows narrows 'for every input' (looked for: loops, veiled, ifaces, maps, wideKeys, modest, calm, conditions, laid).
  DERIVED. THE GIVEN ROWS OF THIS SEAT. 5 by the template 'for every input the law returns true; each argument reads behind the call as it read before'; 0 by the template 'total and deterministic' (their statements: YthilpmchdeolnaaTotals.lean).
  GIVEN WITH THE SEED: the statements are not yours to turn. If you find one false, say at which input.
  Laid BY PROGRAM, IN A SANDBOX (cutbox-rows.mjs): the forced cells as the released guide's own fill.sh prints them over the translation 3d72f2b13c949b8e… (all of the seat's roots in one cut). By AI agents, Wed Nov 11 2026. No macro, syntax, notation, axiom, sorry.
-/
import Derived.Test.YthilpmchdeolnaaChecked
import GoSem.Claim
import GoSem.ClaimJoined
import GoSem.ClaimMapViews
import Derived.JoinedTies
import Derived.KernelRfl
namespace Go.Proofs.Ythilpmchdeolnaa
/- THE CELL 'sum', in the pinned program and in every row, IS THE sha256 OF THE DUMP (.gsa) THAT YthilpmchdeolnaaProg.lean LOADS. Nothing in Lean hashes anything: it is a label: what it is worth is what the hold of that sum in a sandbox is worth. -/
noncomputable def Try.pinned : Pinned := { name := "ythilpmchdeolnaa", sum := "3d72f2b13c949b8e4b75538c3e32f8b0209b6636317c89db3ecc586e2379a4aa", checked := Try.checked }
namespace Rows
def none {H : Type} : Left H := { results := [], args := [] }

/-- 'caliperlaw05.BinaryBack': WHATEVER THE INPUT: true; the input reads as it did. -/
def binaryBackSpec : ChangeSpec := { name := "binaryBack", fn := fun _ => fun
  | [d1, d2, d3] => { results := [.lit (.bool true)], args := [d1, d2, d3] }
  | _ => none }
def binaryBackRow : OpenClaim := { program := "ythilpmchdeolnaa", sum := "3d72f2b13c949b8e4b75538c3e32f8b0209b6636317c89db3ecc586e2379a4aa", func := "caliper/caliperlaw05.BinaryBack", spec := "binaryBack", inPlace := ["math/bits.Sub64"], apart := false }
def BinaryBackSaid : Prop := binaryBackRow.holds Try.pinned (OpenSpec.ofChange binaryBackSpec)

/-- ITS FALSE NEIGHBOUR: 'it returns false'. Refute it at one input. -/
def binaryBackWrong : ChangeSpec := { name := "binaryBack", fn := fun _ => fun
  | [d1, d2, d3] => { results := [.lit (.bool false)], args := [d1, d2, d3] }
  | _ => none }
def BinaryBackWrongFalsely : Prop := binaryBackRow.holds Try.pinned (OpenSpec.ofChange binaryBackWrong)

/-- 'caliperlaw05.BinarySigns': WHATEVER THE INPUT: true; the input reads as it did. -/
def binarySignsSpec : ChangeSpec := { name := "binarySigns", fn := fun _ => fun
  | [d1, d2] => { results := [.lit (.bool true)], args := [d1, d2] }
  | _ => none }
def binarySignsRow : OpenClaim := { program := "ythilpmchdeolnaa", sum := "3d72f2b13c949b8e4b75538c3e32f8b0209b6636317c89db3ecc586e2379a4aa", func := "caliper/caliperlaw05.BinarySigns", spec := "binarySigns", inPlace := ["math/bits.Sub64"], apart := false }
def BinarySignsSaid : Prop := binarySignsRow.holds Try.pinned (OpenSpec.ofChange binarySignsSpec)

/-- ITS FALSE NEIGHBOUR: 'it returns false'. Refute it at one input. -/
def binarySignsWrong : ChangeSpec := { name := "binarySigns", fn := fun _ => fun
  | [d1, d2] => { results := [.lit (.bool false)], args := [d1, d2] }
  | _ => none }
def BinarySignsWrongFalsely : Prop := binarySignsRow.holds Try.pinned (OpenSpec.ofChange binarySignsWrong)

/-- 'caliperlaw05.BinaryPacks': WHATEVER THE INPUT: true; the input reads as it did. -/
def binaryPacksSpec : ChangeSpec := { name := "binaryPacks", fn := fun _ => fun
  | [d1, d2, d3] => { results := [.lit (.bool true)], args := [d1, d2, d3] }
  | _ => none }
def binaryPacksRow : OpenClaim := { program := "ythilpmchdeolnaa", sum := "3d72f2b13c949b8e4b75538c3e32f8b0209b6636317c89db3ecc586e2379a4aa", func := "caliper/caliperlaw05.BinaryPacks", spec := "binaryPacks", inPlace := ["math/bits.Sub64", "math/bits.Add64"], apart := false }
def BinaryPacksSaid : Prop := binaryPacksRow.holds Try.pinned (OpenSpec.ofChange binaryPacksSpec)

/-- ITS FALSE NEIGHBOUR: 'it returns false'. Refute it at one input. -/
def binaryPacksWrong : ChangeSpec := { name := "binaryPacks", fn := fun _ => fun
  | [d1, d2, d3] => { results := [.lit (.bool false)], args := [d1, d2, d3] }
  | _ => none }
def BinaryPacksWrongFalsely : Prop := binaryPacksRow.holds Try.pinned (OpenSpec.ofChange binaryPacksWrong)

/-- 'caliperlaw13.DecletThere': WHATEVER THE INPUT: true; the input reads as it did. -/
def decletThereSpec : ChangeSpec := { name := "decletThere", fn := fun _ => fun
  | [d1, d2] => { results := [.lit (.bool true)], args := [d1, d2] }
  | _ => none }
def decletThereRow : OpenClaim := { program := "ythilpmchdeolnaa", sum := "3d72f2b13c949b8e4b75538c3e32f8b0209b6636317c89db3ecc586e2379a4aa", func := "caliper/caliperlaw13.DecletThere", spec := "decletThere", inPlace := ["math/bits.Add64"], named := ["math/bits.divideError", "math/bits.overflowError"], apart := false }
def DecletThereSaid : Prop := decletThereRow.holds Try.pinned (OpenSpec.ofChange decletThereSpec)

/-- ITS FALSE NEIGHBOUR: 'it returns false'. Refute it at one input. -/
def decletThereWrong : ChangeSpec := { name := "decletThere", fn := fun _ => fun
  | [d1, d2] => { results := [.lit (.bool false)], args := [d1, d2] }
  | _ => none }
def DecletThereWrongFalsely : Prop := decletThereRow.holds Try.pinned (OpenSpec.ofChange decletThereWrong)

/-- 'caliperlaw13.DecletPacks': WHATEVER THE INPUT: true; the input reads as it did. -/
def decletPacksSpec : ChangeSpec := { name := "decletPacks", fn := fun _ => fun
  | [d1, d2, d3] => { results := [.lit (.bool true)], args := [d1, d2, d3] }
  | _ => none }
def decletPacksRow : OpenClaim := { program := "ythilpmchdeolnaa", sum := "3d72f2b13c949b8e4b75538c3e32f8b0209b6636317c89db3ecc586e2379a4aa", func := "caliper/caliperlaw13.DecletPacks", spec := "decletPacks", inPlace := ["math/bits.Add64", "math/bits.Sub64"], named := ["math/bits.divideError", "math/bits.overflowError"], apart := false }
def DecletPacksSaid : Prop := decletPacksRow.holds Try.pinned (OpenSpec.ofChange decletPacksSpec)

/-- ITS FALSE NEIGHBOUR: 'it returns false'. Refute it at one input. -/
def decletPacksWrong : ChangeSpec := { name := "decletPacks", fn := fun _ => fun
  | [d1, d2, d3] => { results := [.lit (.bool false)], args := [d1, d2, d3] }
  | _ => none }
def DecletPacksWrongFalsely : Prop := decletPacksRow.holds Try.pinned (OpenSpec.ofChange decletPacksWrong)

/- THE SECOND FORM. 'bulk': how many values and letters a reading holds, each counted each time it is reached (what is shared counts as often as it is met; a slice's spare places count too). A statement '..UptoSaid' is the law's where the arguments, and the package variables that the reading takes, are together of bulk at most 1048576: NARROWER than '..Said'. Prove '..Said' where nothing that the law and all that it calls make is longer than what came in: it says more and counts as full. Else prove '..UptoSaid'. A law counts once. -/
mutual
def uptoBulk {H : Type} : DataW H → Nat
  | .lit (.string bytes) => bytes.length + 1
  | .lit _ => 1
  | .nil => 1
  | .ptr d => uptoBulk d + 1
  | .slice elems spare => uptoBulkAll elems + uptoBulkAll spare + 1
  | .agg parts => uptoBulkAll parts + 1
  | .iface _ d => uptoBulk d + 1
  | .map entries => uptoBulkEntries entries + 1
  | .held _ => 1
def uptoBulkAll {H : Type} : List (DataW H) → Nat
  | [] => 0
  | d :: r => uptoBulk d + uptoBulkAll r
def uptoBulkEntries {H : Type} : List (Lit × DataW H) → Nat
  | [] => 0
  | x :: r => uptoBulkEntry x + uptoBulkEntries r
def uptoBulkEntry {H : Type} : Lit × DataW H → Nat
  | (.string bytes, d) => bytes.length + uptoBulk d + 1
  | (_, d) => uptoBulk d + 1
 end
def uptoSmall : (H : Type) → List (DataW H) → Bool := fun _ ds => decide (uptoBulkAll ds ≤ 1048576)
def OpenSpec.upto (s : _root_.Go.ChangeSpec) : _root_.Go.OpenSpec := { _root_.Go.OpenSpec.ofChange s with cond := some uptoSmall }

/-- 'caliperlaw05.BinaryBack', WHERE WHAT IT READS IS OF BULK AT MOST 1048576: true; the input reads as it did. -/
def binaryBackUptoRow : OpenClaim := { program := "ythilpmchdeolnaa", sum := "3d72f2b13c949b8e4b75538c3e32f8b0209b6636317c89db3ecc586e2379a4aa", func := "caliper/caliperlaw05.BinaryBack", spec := "binaryBack", inPlace := ["math/bits.Sub64"], apart := false, narrowed := true }
def BinaryBackUptoSaid : Prop := binaryBackUptoRow.holds Try.pinned (OpenSpec.upto binaryBackSpec)

/-- 'caliperlaw05.BinarySigns', WHERE WHAT IT READS IS OF BULK AT MOST 1048576: true; the input reads as it did. -/
def binarySignsUptoRow : OpenClaim := { program := "ythilpmchdeolnaa", sum := "3d72f2b13c949b8e4b75538c3e32f8b0209b6636317c89db3ecc586e2379a4aa", func := "caliper/caliperlaw05.BinarySigns", spec := "binarySigns", inPlace := ["math/bits.Sub64"], apart := false, narrowed := true }
def BinarySignsUptoSaid : Prop := binarySignsUptoRow.holds Try.pinned (OpenSpec.upto binarySignsSpec)

/-- 'caliperlaw05.BinaryPacks', WHERE WHAT IT READS IS OF BULK AT MOST 1048576: true; the input reads as it did. -/
def binaryPacksUptoRow : OpenClaim := { program := "ythilpmchdeolnaa", sum := "3d72f2b13c949b8e4b75538c3e32f8b0209b6636317c89db3ecc586e2379a4aa", func := "caliper/caliperlaw05.BinaryPacks", spec := "binaryPacks", inPlace := ["math/bits.Sub64", "math/bits.Add64"], apart := false, narrowed := true }
def BinaryPacksUptoSaid : Prop := binaryPacksUptoRow.holds Try.pinned (OpenSpec.upto binaryPacksSpec)

/-- 'caliperlaw13.DecletThere', WHERE WHAT IT READS IS OF BULK AT MOST 1048576: true; the input reads as it did. -/
def decletThereUptoRow : OpenClaim := { program := "ythilpmchdeolnaa", sum := "3d72f2b13c949b8e4b75538c3e32f8b0209b6636317c89db3ecc586e2379a4aa", func := "caliper/caliperlaw13.DecletThere", spec := "decletThere", inPlace := ["math/bits.Add64"], named := ["math/bits.divideError", "math/bits.overflowError"], apart := false, narrowed := true }
def DecletThereUptoSaid : Prop := decletThereUptoRow.holds Try.pinned (OpenSpec.upto decletThereSpec)

/-- 'caliperlaw13.DecletPacks', WHERE WHAT IT READS IS OF BULK AT MOST 1048576: true; the input reads as it did. -/
def decletPacksUptoRow : OpenClaim := { program := "ythilpmchdeolnaa", sum := "3d72f2b13c949b8e4b75538c3e32f8b0209b6636317c89db3ecc586e2379a4aa", func := "caliper/caliperlaw13.DecletPacks", spec := "decletPacks", inPlace := ["math/bits.Add64", "math/bits.Sub64"], named := ["math/bits.divideError", "math/bits.overflowError"], apart := false, narrowed := true }
def DecletPacksUptoSaid : Prop := decletPacksUptoRow.holds Try.pinned (OpenSpec.upto decletPacksSpec)

end Rows
end Go.Proofs.Ythilpmchdeolnaa
