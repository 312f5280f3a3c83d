/-
  No cell of these rows narrows 'for every input' (looked for: loops, veiled, ifaces, maps, wideKeys, modest, calm, conditions, laid).
  DERIVED. THE GIVEN ROWS OF THIS SEAT. 5 by the template 'for every input the law returns true; each argument reads behind the call as it read before'; 0 by the template 'total and deterministic' (their statements: YtcddgcklapinjaaTotals.lean).
  GIVEN WITH THE SEED: the statements are not yours to turn. If you find one false, say at which input.
  Laid BY PROGRAM, IN A SANDBOX (cutbox-rows.mjs): the forced cells as the released guide's own fill.sh prints them over the translation 6b65f09b84ebe1cc… (all of the seat's roots in one cut). By AI agents, Wed Nov 11 2026. No macro, syntax, notation, axiom, sorry.
-/
import Derived.Test.YtcddgcklapinjaaChecked
import GoSem.Claim
import GoSem.ClaimJoined
import GoSem.ClaimMapViews
import Derived.JoinedTies
import Derived.KernelRfl
namespace Go.Proofs.Ytcddgcklapinjaa
/- THE CELL 'sum', in the pinned program and in every row, IS THE sha256 OF THE DUMP (.gsa) THAT YtcddgcklapinjaaProg.lean LOADS. Nothing in Lean hashes anything: it is a label: what it is worth is what the hold of that sum in a sandbox is worth. -/
noncomputable def Try.pinned : Pinned := { name := "ytcddgcklapinjaa", sum := "6b65f09b84ebe1cc8615c78909a8d2f8e109cb87def8edba5282dd477f09b52b", checked := Try.checked }
namespace Rows
def none {H : Type} : Left H := { results := [], args := [] }

/-- 'parquetrylaw18.CoderCodes': WHATEVER THE INPUT: true; the input reads as it did. -/
def coderCodesSpec : ChangeSpec := { name := "coderCodes", fn := fun _ => fun
  | [d1, d2, d3, d4] => { results := [.lit (.bool true)], args := [d1, d2, d3, d4] }
  | _ => none }
def coderCodesRow : OpenClaim := { program := "ytcddgcklapinjaa", sum := "6b65f09b84ebe1cc8615c78909a8d2f8e109cb87def8edba5282dd477f09b52b", func := "parquetry/parquetrylaw18.CoderCodes", spec := "coderCodes", inPlace := ["internal/abi.NoEscape"], apart := false }
def CoderCodesSaid : Prop := coderCodesRow.holds Try.pinned (OpenSpec.ofChange coderCodesSpec)

/-- ITS FALSE NEIGHBOUR: 'it returns false'. Refute it at one input. -/
def coderCodesWrong : ChangeSpec := { name := "coderCodes", fn := fun _ => fun
  | [d1, d2, d3, d4] => { results := [.lit (.bool false)], args := [d1, d2, d3, d4] }
  | _ => none }
def CoderCodesWrongFalsely : Prop := coderCodesRow.holds Try.pinned (OpenSpec.ofChange coderCodesWrong)

/-- 'parquetrylaw18.CoderStrict': WHATEVER THE INPUT: true; the input reads as it did. -/
def coderStrictSpec : ChangeSpec := { name := "coderStrict", fn := fun _ => fun
  | [d1, d2, d3, d4] => { results := [.lit (.bool true)], args := [d1, d2, d3, d4] }
  | _ => none }
def coderStrictRow : OpenClaim := { program := "ytcddgcklapinjaa", sum := "6b65f09b84ebe1cc8615c78909a8d2f8e109cb87def8edba5282dd477f09b52b", func := "parquetry/parquetrylaw18.CoderStrict", spec := "coderStrict", inPlace := ["internal/abi.NoEscape"], apart := false }
def CoderStrictSaid : Prop := coderStrictRow.holds Try.pinned (OpenSpec.ofChange coderStrictSpec)

/-- ITS FALSE NEIGHBOUR: 'it returns false'. Refute it at one input. -/
def coderStrictWrong : ChangeSpec := { name := "coderStrict", fn := fun _ => fun
  | [d1, d2, d3, d4] => { results := [.lit (.bool false)], args := [d1, d2, d3, d4] }
  | _ => none }
def CoderStrictWrongFalsely : Prop := coderStrictRow.holds Try.pinned (OpenSpec.ofChange coderStrictWrong)

/-- 'parquetrylaw18.CoderShrinks': WHATEVER THE INPUT: true; the input reads as it did. -/
def coderShrinksSpec : ChangeSpec := { name := "coderShrinks", fn := fun _ => fun
  | [d1, d2] => { results := [.lit (.bool true)], args := [d1, d2] }
  | _ => none }
def coderShrinksRow : OpenClaim := { program := "ytcddgcklapinjaa", sum := "6b65f09b84ebe1cc8615c78909a8d2f8e109cb87def8edba5282dd477f09b52b", func := "parquetry/parquetrylaw18.CoderShrinks", spec := "coderShrinks", inPlace := ["internal/abi.NoEscape"], apart := false }
def CoderShrinksSaid : Prop := coderShrinksRow.holds Try.pinned (OpenSpec.ofChange coderShrinksSpec)

/-- ITS FALSE NEIGHBOUR: 'it returns false'. Refute it at one input. -/
def coderShrinksWrong : ChangeSpec := { name := "coderShrinks", fn := fun _ => fun
  | [d1, d2] => { results := [.lit (.bool false)], args := [d1, d2] }
  | _ => none }
def CoderShrinksWrongFalsely : Prop := coderShrinksRow.holds Try.pinned (OpenSpec.ofChange coderShrinksWrong)

/-- 'parquetrylaw18.CoderApart': WHATEVER THE INPUT: true; the input reads as it did. -/
def coderApartSpec : ChangeSpec := { name := "coderApart", fn := fun _ => fun
  | [d1, d2, d3, d4, d5, d6] => { results := [.lit (.bool true)], args := [d1, d2, d3, d4, d5, d6] }
  | _ => none }
def coderApartRow : OpenClaim := { program := "ytcddgcklapinjaa", sum := "6b65f09b84ebe1cc8615c78909a8d2f8e109cb87def8edba5282dd477f09b52b", func := "parquetry/parquetrylaw18.CoderApart", spec := "coderApart", inPlace := ["internal/abi.NoEscape"], apart := false }
def CoderApartSaid : Prop := coderApartRow.holds Try.pinned (OpenSpec.ofChange coderApartSpec)

/-- ITS FALSE NEIGHBOUR: 'it returns false'. Refute it at one input. -/
def coderApartWrong : ChangeSpec := { name := "coderApart", fn := fun _ => fun
  | [d1, d2, d3, d4, d5, d6] => { results := [.lit (.bool false)], args := [d1, d2, d3, d4, d5, d6] }
  | _ => none }
def CoderApartWrongFalsely : Prop := coderApartRow.holds Try.pinned (OpenSpec.ofChange coderApartWrong)

/-- 'parquetrylaw18.CoderLeast': WHATEVER THE INPUT: true; the input reads as it did. -/
def coderLeastSpec : ChangeSpec := { name := "coderLeast", fn := fun _ => fun
  | [d1, d2, d3] => { results := [.lit (.bool true)], args := [d1, d2, d3] }
  | _ => none }
def coderLeastRow : OpenClaim := { program := "ytcddgcklapinjaa", sum := "6b65f09b84ebe1cc8615c78909a8d2f8e109cb87def8edba5282dd477f09b52b", func := "parquetry/parquetrylaw18.CoderLeast", spec := "coderLeast", inPlace := ["internal/abi.NoEscape"], apart := false }
def CoderLeastSaid : Prop := coderLeastRow.holds Try.pinned (OpenSpec.ofChange coderLeastSpec)

/-- ITS FALSE NEIGHBOUR: 'it returns false'. Refute it at one input. -/
def coderLeastWrong : ChangeSpec := { name := "coderLeast", fn := fun _ => fun
  | [d1, d2, d3] => { results := [.lit (.bool false)], args := [d1, d2, d3] }
  | _ => none }
def CoderLeastWrongFalsely : Prop := coderLeastRow.holds Try.pinned (OpenSpec.ofChange coderLeastWrong)

/- THE SECOND FORM. 'bulk': how many values and letters a reading holds, each counted each time it is reached (what is shared counts as often as it is met; a slice's spare places count too). A statement '..UptoSaid' is the law's where the arguments, and the package variables that the reading takes, are together of bulk at most 1048576: NARROWER than '..Said'. Prove '..Said' where nothing that the law and all that it calls make is longer than what came in: it says more and counts as full. Else prove '..UptoSaid'. A law counts once. -/
mutual
def uptoBulk {H : Type} : DataW H → Nat
  | .lit (.string bytes) => bytes.length + 1
  | .lit _ => 1
  | .nil => 1
  | .ptr d => uptoBulk d + 1
  | .slice elems spare => uptoBulkAll elems + uptoBulkAll spare + 1
  | .agg parts => uptoBulkAll parts + 1
  | .iface _ d => uptoBulk d + 1
  | .map entries => uptoBulkEntries entries + 1
  | .held _ => 1
def uptoBulkAll {H : Type} : List (DataW H) → Nat
  | [] => 0
  | d :: r => uptoBulk d + uptoBulkAll r
def uptoBulkEntries {H : Type} : List (Lit × DataW H) → Nat
  | [] => 0
  | x :: r => uptoBulkEntry x + uptoBulkEntries r
def uptoBulkEntry {H : Type} : Lit × DataW H → Nat
  | (.string bytes, d) => bytes.length + uptoBulk d + 1
  | (_, d) => uptoBulk d + 1
 end
def uptoSmall : (H : Type) → List (DataW H) → Bool := fun _ ds => decide (uptoBulkAll ds ≤ 1048576)
def OpenSpec.upto (s : _root_.Go.ChangeSpec) : _root_.Go.OpenSpec := { _root_.Go.OpenSpec.ofChange s with cond := some uptoSmall }

/-- 'parquetrylaw18.CoderCodes', WHERE WHAT IT READS IS OF BULK AT MOST 1048576: true; the input reads as it did. -/
def coderCodesUptoRow : OpenClaim := { program := "ytcddgcklapinjaa", sum := "6b65f09b84ebe1cc8615c78909a8d2f8e109cb87def8edba5282dd477f09b52b", func := "parquetry/parquetrylaw18.CoderCodes", spec := "coderCodes", inPlace := ["internal/abi.NoEscape"], apart := false, narrowed := true }
def CoderCodesUptoSaid : Prop := coderCodesUptoRow.holds Try.pinned (OpenSpec.upto coderCodesSpec)

/-- 'parquetrylaw18.CoderStrict', WHERE WHAT IT READS IS OF BULK AT MOST 1048576: true; the input reads as it did. -/
def coderStrictUptoRow : OpenClaim := { program := "ytcddgcklapinjaa", sum := "6b65f09b84ebe1cc8615c78909a8d2f8e109cb87def8edba5282dd477f09b52b", func := "parquetry/parquetrylaw18.CoderStrict", spec := "coderStrict", inPlace := ["internal/abi.NoEscape"], apart := false, narrowed := true }
def CoderStrictUptoSaid : Prop := coderStrictUptoRow.holds Try.pinned (OpenSpec.upto coderStrictSpec)

/-- 'parquetrylaw18.CoderShrinks', WHERE WHAT IT READS IS OF BULK AT MOST 1048576: true; the input reads as it did. -/
def coderShrinksUptoRow : OpenClaim := { program := "ytcddgcklapinjaa", sum := "6b65f09b84ebe1cc8615c78909a8d2f8e109cb87def8edba5282dd477f09b52b", func := "parquetry/parquetrylaw18.CoderShrinks", spec := "coderShrinks", inPlace := ["internal/abi.NoEscape"], apart := false, narrowed := true }
def CoderShrinksUptoSaid : Prop := coderShrinksUptoRow.holds Try.pinned (OpenSpec.upto coderShrinksSpec)

/-- 'parquetrylaw18.CoderApart', WHERE WHAT IT READS IS OF BULK AT MOST 1048576: true; the input reads as it did. -/
def coderApartUptoRow : OpenClaim := { program := "ytcddgcklapinjaa", sum := "6b65f09b84ebe1cc8615c78909a8d2f8e109cb87def8edba5282dd477f09b52b", func := "parquetry/parquetrylaw18.CoderApart", spec := "coderApart", inPlace := ["internal/abi.NoEscape"], apart := false, narrowed := true }
def CoderApartUptoSaid : Prop := coderApartUptoRow.holds Try.pinned (OpenSpec.upto coderApartSpec)

/-- 'parquetrylaw18.CoderLeast', WHERE WHAT IT READS IS OF BULK AT MOST 1048576: true; the input reads as it did. -/
def coderLeastUptoRow : OpenClaim := { program := "ytcddgcklapinjaa", sum := "6b65f09b84ebe1cc8615c78909a8d2f8e109cb87def8edba5282dd477f09b52b", func := "parquetry/parquetrylaw18.CoderLeast", spec := "coderLeast", inPlace := ["internal/abi.NoEscape"], apart := false, narrowed := true }
def CoderLeastUptoSaid : Prop := coderLeastUptoRow.holds Try.pinned (OpenSpec.upto coderLeastSpec)

end Rows
end Go.Proofs.Ytcddgcklapinjaa
