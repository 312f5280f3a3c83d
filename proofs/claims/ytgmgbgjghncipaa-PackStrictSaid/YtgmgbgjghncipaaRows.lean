/-
  No cell of these rows narrows 'for every input' (looked for: loops, veiled, ifaces, maps, wideKeys, modest, calm, conditions, laid).
  DERIVED. THE GIVEN ROWS OF THIS SEAT. 5 by the template 'for every input the law returns true; each argument reads behind the call as it read before'; 0 by the template 'total and deterministic' (their statements: YtgmgbgjghncipaaTotals.lean).
  GIVEN WITH THE SEED: the statements are not yours to turn. If you find one false, say at which input.
  Laid BY PROGRAM, IN A SANDBOX (cutbox-rows.mjs): the forced cells as the released guide's own fill.sh prints them over the translation 603f591e5faf04a2… (all of the seat's roots in one cut). By AI agents, Wed Nov 11 2026. No macro, syntax, notation, axiom, sorry.
-/
import Derived.Test.YtgmgbgjghncipaaChecked
import GoSem.Claim
import GoSem.ClaimJoined
import GoSem.ClaimMapViews
import Derived.JoinedTies
import Derived.KernelRfl
namespace Go.Proofs.Ytgmgbgjghncipaa
/- THE CELL 'sum', in the pinned program and in every row, IS THE sha256 OF THE DUMP (.gsa) THAT YtgmgbgjghncipaaProg.lean LOADS. Nothing in Lean hashes anything: it is a label: what it is worth is what the hold of that sum in a sandbox is worth. -/
noncomputable def Try.pinned : Pinned := { name := "ytgmgbgjghncipaa", sum := "603f591e5faf04a29b5c668e6ea8cfb4392aefbacc25fcfdab319af4a92c7b90", checked := Try.checked }
namespace Rows
def none {H : Type} : Left H := { results := [], args := [] }

/-- 'parquetrylaw19.PackNums': WHATEVER THE INPUT: true; the input reads as it did. -/
def packNumsSpec : ChangeSpec := { name := "packNums", fn := fun _ => fun
  | [d1, d2] => { results := [.lit (.bool true)], args := [d1, d2] }
  | _ => none }
def packNumsRow : OpenClaim := { program := "ytgmgbgjghncipaa", sum := "603f591e5faf04a29b5c668e6ea8cfb4392aefbacc25fcfdab319af4a92c7b90", func := "parquetry/parquetrylaw19.PackNums", spec := "packNums", recurses := true, apart := false }
def PackNumsSaid : Prop := packNumsRow.holds Try.pinned (OpenSpec.ofChange packNumsSpec)

/-- ITS FALSE NEIGHBOUR: 'it returns false'. Refute it at one input. -/
def packNumsWrong : ChangeSpec := { name := "packNums", fn := fun _ => fun
  | [d1, d2] => { results := [.lit (.bool false)], args := [d1, d2] }
  | _ => none }
def PackNumsWrongFalsely : Prop := packNumsRow.holds Try.pinned (OpenSpec.ofChange packNumsWrong)

/-- 'parquetrylaw19.PackNil': WHATEVER THE INPUT: true; the input reads as it did. -/
def packNilSpec : ChangeSpec := { name := "packNil", fn := fun _ => fun
  | [d1, d2] => { results := [.lit (.bool true)], args := [d1, d2] }
  | _ => none }
def packNilRow : OpenClaim := { program := "ytgmgbgjghncipaa", sum := "603f591e5faf04a29b5c668e6ea8cfb4392aefbacc25fcfdab319af4a92c7b90", func := "parquetry/parquetrylaw19.PackNil", spec := "packNil", apart := false }
def PackNilSaid : Prop := packNilRow.holds Try.pinned (OpenSpec.ofChange packNilSpec)

/-- ITS FALSE NEIGHBOUR: 'it returns false'. Refute it at one input. -/
def packNilWrong : ChangeSpec := { name := "packNil", fn := fun _ => fun
  | [d1, d2] => { results := [.lit (.bool false)], args := [d1, d2] }
  | _ => none }
def PackNilWrongFalsely : Prop := packNilRow.holds Try.pinned (OpenSpec.ofChange packNilWrong)

/-- 'parquetrylaw19.PackRows': WHATEVER THE INPUT: true; the input reads as it did. -/
def packRowsSpec : ChangeSpec := { name := "packRows", fn := fun _ => fun
  | [d1, d2] => { results := [.lit (.bool true)], args := [d1, d2] }
  | _ => none }
def packRowsRow : OpenClaim := { program := "ytgmgbgjghncipaa", sum := "603f591e5faf04a29b5c668e6ea8cfb4392aefbacc25fcfdab319af4a92c7b90", func := "parquetry/parquetrylaw19.PackRows", spec := "packRows", apart := false }
def PackRowsSaid : Prop := packRowsRow.holds Try.pinned (OpenSpec.ofChange packRowsSpec)

/-- ITS FALSE NEIGHBOUR: 'it returns false'. Refute it at one input. -/
def packRowsWrong : ChangeSpec := { name := "packRows", fn := fun _ => fun
  | [d1, d2] => { results := [.lit (.bool false)], args := [d1, d2] }
  | _ => none }
def PackRowsWrongFalsely : Prop := packRowsRow.holds Try.pinned (OpenSpec.ofChange packRowsWrong)

/-- 'parquetrylaw19.PackBits': WHATEVER THE INPUT: true; the input reads as it did. -/
def packBitsSpec : ChangeSpec := { name := "packBits", fn := fun _ => fun
  | [d1, d2, d3, d4, d5] => { results := [.lit (.bool true)], args := [d1, d2, d3, d4, d5] }
  | _ => none }
def packBitsRow : OpenClaim := { program := "ytgmgbgjghncipaa", sum := "603f591e5faf04a29b5c668e6ea8cfb4392aefbacc25fcfdab319af4a92c7b90", func := "parquetry/parquetrylaw19.PackBits", spec := "packBits", recurses := true, apart := false }
def PackBitsSaid : Prop := packBitsRow.holds Try.pinned (OpenSpec.ofChange packBitsSpec)

/-- ITS FALSE NEIGHBOUR: 'it returns false'. Refute it at one input. -/
def packBitsWrong : ChangeSpec := { name := "packBits", fn := fun _ => fun
  | [d1, d2, d3, d4, d5] => { results := [.lit (.bool false)], args := [d1, d2, d3, d4, d5] }
  | _ => none }
def PackBitsWrongFalsely : Prop := packBitsRow.holds Try.pinned (OpenSpec.ofChange packBitsWrong)

/-- 'parquetrylaw19.PackStrict': WHATEVER THE INPUT: true; the input reads as it did. -/
def packStrictSpec : ChangeSpec := { name := "packStrict", fn := fun _ => fun
  | [d1, d2, d3, d4, d5, d6] => { results := [.lit (.bool true)], args := [d1, d2, d3, d4, d5, d6] }
  | _ => none }
def packStrictRow : OpenClaim := { program := "ytgmgbgjghncipaa", sum := "603f591e5faf04a29b5c668e6ea8cfb4392aefbacc25fcfdab319af4a92c7b90", func := "parquetry/parquetrylaw19.PackStrict", spec := "packStrict", apart := false }
def PackStrictSaid : Prop := packStrictRow.holds Try.pinned (OpenSpec.ofChange packStrictSpec)

/-- ITS FALSE NEIGHBOUR: 'it returns false'. Refute it at one input. -/
def packStrictWrong : ChangeSpec := { name := "packStrict", fn := fun _ => fun
  | [d1, d2, d3, d4, d5, d6] => { results := [.lit (.bool false)], args := [d1, d2, d3, d4, d5, d6] }
  | _ => none }
def PackStrictWrongFalsely : Prop := packStrictRow.holds Try.pinned (OpenSpec.ofChange packStrictWrong)

/- THE SECOND FORM. 'bulk': how many values and letters a reading holds, each counted each time it is reached (what is shared counts as often as it is met; a slice's spare places count too). A statement '..UptoSaid' is the law's where the arguments, and the package variables that the reading takes, are together of bulk at most 1048576: NARROWER than '..Said'. Prove '..Said' where nothing that the law and all that it calls make is longer than what came in: it says more and counts as full. Else prove '..UptoSaid'. A law counts once. -/
mutual
def uptoBulk {H : Type} : DataW H → Nat
  | .lit (.string bytes) => bytes.length + 1
  | .lit _ => 1
  | .nil => 1
  | .ptr d => uptoBulk d + 1
  | .slice elems spare => uptoBulkAll elems + uptoBulkAll spare + 1
  | .agg parts => uptoBulkAll parts + 1
  | .iface _ d => uptoBulk d + 1
  | .map entries => uptoBulkEntries entries + 1
  | .held _ => 1
def uptoBulkAll {H : Type} : List (DataW H) → Nat
  | [] => 0
  | d :: r => uptoBulk d + uptoBulkAll r
def uptoBulkEntries {H : Type} : List (Lit × DataW H) → Nat
  | [] => 0
  | x :: r => uptoBulkEntry x + uptoBulkEntries r
def uptoBulkEntry {H : Type} : Lit × DataW H → Nat
  | (.string bytes, d) => bytes.length + uptoBulk d + 1
  | (_, d) => uptoBulk d + 1
 end
def uptoSmall : (H : Type) → List (DataW H) → Bool := fun _ ds => decide (uptoBulkAll ds ≤ 1048576)
def OpenSpec.upto (s : _root_.Go.ChangeSpec) : _root_.Go.OpenSpec := { _root_.Go.OpenSpec.ofChange s with cond := some uptoSmall }

/-- 'parquetrylaw19.PackNums', WHERE WHAT IT READS IS OF BULK AT MOST 1048576: true; the input reads as it did. -/
def packNumsUptoRow : OpenClaim := { program := "ytgmgbgjghncipaa", sum := "603f591e5faf04a29b5c668e6ea8cfb4392aefbacc25fcfdab319af4a92c7b90", func := "parquetry/parquetrylaw19.PackNums", spec := "packNums", recurses := true, apart := false, narrowed := true }
def PackNumsUptoSaid : Prop := packNumsUptoRow.holds Try.pinned (OpenSpec.upto packNumsSpec)

/-- 'parquetrylaw19.PackNil', WHERE WHAT IT READS IS OF BULK AT MOST 1048576: true; the input reads as it did. -/
def packNilUptoRow : OpenClaim := { program := "ytgmgbgjghncipaa", sum := "603f591e5faf04a29b5c668e6ea8cfb4392aefbacc25fcfdab319af4a92c7b90", func := "parquetry/parquetrylaw19.PackNil", spec := "packNil", apart := false, narrowed := true }
def PackNilUptoSaid : Prop := packNilUptoRow.holds Try.pinned (OpenSpec.upto packNilSpec)

/-- 'parquetrylaw19.PackRows', WHERE WHAT IT READS IS OF BULK AT MOST 1048576: true; the input reads as it did. -/
def packRowsUptoRow : OpenClaim := { program := "ytgmgbgjghncipaa", sum := "603f591e5faf04a29b5c668e6ea8cfb4392aefbacc25fcfdab319af4a92c7b90", func := "parquetry/parquetrylaw19.PackRows", spec := "packRows", apart := false, narrowed := true }
def PackRowsUptoSaid : Prop := packRowsUptoRow.holds Try.pinned (OpenSpec.upto packRowsSpec)

/-- 'parquetrylaw19.PackBits', WHERE WHAT IT READS IS OF BULK AT MOST 1048576: true; the input reads as it did. -/
def packBitsUptoRow : OpenClaim := { program := "ytgmgbgjghncipaa", sum := "603f591e5faf04a29b5c668e6ea8cfb4392aefbacc25fcfdab319af4a92c7b90", func := "parquetry/parquetrylaw19.PackBits", spec := "packBits", recurses := true, apart := false, narrowed := true }
def PackBitsUptoSaid : Prop := packBitsUptoRow.holds Try.pinned (OpenSpec.upto packBitsSpec)

/-- 'parquetrylaw19.PackStrict', WHERE WHAT IT READS IS OF BULK AT MOST 1048576: true; the input reads as it did. -/
def packStrictUptoRow : OpenClaim := { program := "ytgmgbgjghncipaa", sum := "603f591e5faf04a29b5c668e6ea8cfb4392aefbacc25fcfdab319af4a92c7b90", func := "parquetry/parquetrylaw19.PackStrict", spec := "packStrict", apart := false, narrowed := true }
def PackStrictUptoSaid : Prop := packStrictUptoRow.holds Try.pinned (OpenSpec.upto packStrictSpec)

end Rows
end Go.Proofs.Ytgmgbgjghncipaa
