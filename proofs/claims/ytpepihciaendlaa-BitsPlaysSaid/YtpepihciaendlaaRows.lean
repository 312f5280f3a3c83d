/-
  No cell of these rows narrows 'for every input' (looked for: loops, veiled, ifaces, maps, wideKeys, modest, calm, conditions, laid).
  DERIVED. THE GIVEN ROWS OF THIS SEAT. 6 by the template 'for every input the law returns true; each argument reads behind the call as it read before'; 0 by the template 'total and deterministic' (their statements: YtpepihciaendlaaTotals.lean).
  GIVEN WITH THE SEED: the statements are not yours to turn. If you find one false, say at which input.
  Laid BY PROGRAM, IN A SANDBOX (cutbox-rows.mjs): the forced cells as the released guide's own fill.sh prints them over the translation 7ad6f23f3e8c168a… (all of the seat's roots in one cut). By AI agents, Wed Nov 11 2026. No macro, syntax, notation, axiom, sorry.
-/
import Derived.Test.YtpepihciaendlaaChecked
import GoSem.Claim
import GoSem.ClaimJoined
import GoSem.ClaimMapViews
import Derived.JoinedTies
import Derived.KernelRfl
namespace Go.Proofs.Ytpepihciaendlaa
/- THE CELL 'sum', in the pinned program and in every row, IS THE sha256 OF THE DUMP (.gsa) THAT YtpepihciaendlaaProg.lean LOADS. Nothing in Lean hashes anything: it is a label: what it is worth is what the hold of that sum in a sandbox is worth. -/
noncomputable def Try.pinned : Pinned := { name := "ytpepihciaendlaa", sum := "7ad6f23f3e8c168a90727b424d695dd1e39f68c895baf1b7fe68e6de7ff1a59e", checked := Try.checked }
namespace Rows
def none {H : Type} : Left H := { results := [], args := [] }

/-- 'parquetrylaw01.BitsReads': WHATEVER THE INPUT: true; the input reads as it did. -/
def bitsReadsSpec : ChangeSpec := { name := "bitsReads", fn := fun _ => fun
  | [d1, d2] => { results := [.lit (.bool true)], args := [d1, d2] }
  | _ => none }
def bitsReadsRow : OpenClaim := { program := "ytpepihciaendlaa", sum := "7ad6f23f3e8c168a90727b424d695dd1e39f68c895baf1b7fe68e6de7ff1a59e", func := "parquetry/parquetrylaw01.BitsReads", spec := "bitsReads", inPlace := ["internal/abi.NoEscape"], apart := false }
def BitsReadsSaid : Prop := bitsReadsRow.holds Try.pinned (OpenSpec.ofChange bitsReadsSpec)

/-- ITS FALSE NEIGHBOUR: 'it returns false'. Refute it at one input. -/
def bitsReadsWrong : ChangeSpec := { name := "bitsReads", fn := fun _ => fun
  | [d1, d2] => { results := [.lit (.bool false)], args := [d1, d2] }
  | _ => none }
def BitsReadsWrongFalsely : Prop := bitsReadsRow.holds Try.pinned (OpenSpec.ofChange bitsReadsWrong)

/-- 'parquetrylaw01.BitsNums': WHATEVER THE INPUT: true; the input reads as it did. -/
def bitsNumsSpec : ChangeSpec := { name := "bitsNums", fn := fun _ => fun
  | [d1, d2, d3] => { results := [.lit (.bool true)], args := [d1, d2, d3] }
  | _ => none }
def bitsNumsRow : OpenClaim := { program := "ytpepihciaendlaa", sum := "7ad6f23f3e8c168a90727b424d695dd1e39f68c895baf1b7fe68e6de7ff1a59e", func := "parquetry/parquetrylaw01.BitsNums", spec := "bitsNums", inPlace := ["internal/abi.NoEscape"], apart := false }
def BitsNumsSaid : Prop := bitsNumsRow.holds Try.pinned (OpenSpec.ofChange bitsNumsSpec)

/-- ITS FALSE NEIGHBOUR: 'it returns false'. Refute it at one input. -/
def bitsNumsWrong : ChangeSpec := { name := "bitsNums", fn := fun _ => fun
  | [d1, d2, d3] => { results := [.lit (.bool false)], args := [d1, d2, d3] }
  | _ => none }
def BitsNumsWrongFalsely : Prop := bitsNumsRow.holds Try.pinned (OpenSpec.ofChange bitsNumsWrong)

/-- 'parquetrylaw01.BitsBytes': WHATEVER THE INPUT: true; the input reads as it did. -/
def bitsBytesSpec : ChangeSpec := { name := "bitsBytes", fn := fun _ => fun
  | [d1, d2, d3] => { results := [.lit (.bool true)], args := [d1, d2, d3] }
  | _ => none }
def bitsBytesRow : OpenClaim := { program := "ytpepihciaendlaa", sum := "7ad6f23f3e8c168a90727b424d695dd1e39f68c895baf1b7fe68e6de7ff1a59e", func := "parquetry/parquetrylaw01.BitsBytes", spec := "bitsBytes", inPlace := ["internal/abi.NoEscape"], apart := false }
def BitsBytesSaid : Prop := bitsBytesRow.holds Try.pinned (OpenSpec.ofChange bitsBytesSpec)

/-- ITS FALSE NEIGHBOUR: 'it returns false'. Refute it at one input. -/
def bitsBytesWrong : ChangeSpec := { name := "bitsBytes", fn := fun _ => fun
  | [d1, d2, d3] => { results := [.lit (.bool false)], args := [d1, d2, d3] }
  | _ => none }
def BitsBytesWrongFalsely : Prop := bitsBytesRow.holds Try.pinned (OpenSpec.ofChange bitsBytesWrong)

/-- 'parquetrylaw01.BitsPlays': WHATEVER THE INPUT: true; the input reads as it did. -/
def bitsPlaysSpec : ChangeSpec := { name := "bitsPlays", fn := fun _ => fun
  | [d] => { results := [.lit (.bool true)], args := [d] }
  | _ => none }
def bitsPlaysRow : OpenClaim := { program := "ytpepihciaendlaa", sum := "7ad6f23f3e8c168a90727b424d695dd1e39f68c895baf1b7fe68e6de7ff1a59e", func := "parquetry/parquetrylaw01.BitsPlays", spec := "bitsPlays", inPlace := ["internal/abi.NoEscape"], apart := false }
def BitsPlaysSaid : Prop := bitsPlaysRow.holds Try.pinned (OpenSpec.ofChange bitsPlaysSpec)

/-- ITS FALSE NEIGHBOUR: 'it returns false'. Refute it at one input. -/
def bitsPlaysWrong : ChangeSpec := { name := "bitsPlays", fn := fun _ => fun
  | [d] => { results := [.lit (.bool false)], args := [d] }
  | _ => none }
def BitsPlaysWrongFalsely : Prop := bitsPlaysRow.holds Try.pinned (OpenSpec.ofChange bitsPlaysWrong)

/-- 'parquetrylaw01.BitsCuts': WHATEVER THE INPUT: true; the input reads as it did. -/
def bitsCutsSpec : ChangeSpec := { name := "bitsCuts", fn := fun _ => fun
  | [d1, d2, d3] => { results := [.lit (.bool true)], args := [d1, d2, d3] }
  | _ => none }
def bitsCutsRow : OpenClaim := { program := "ytpepihciaendlaa", sum := "7ad6f23f3e8c168a90727b424d695dd1e39f68c895baf1b7fe68e6de7ff1a59e", func := "parquetry/parquetrylaw01.BitsCuts", spec := "bitsCuts", inPlace := ["internal/abi.NoEscape"], apart := false }
def BitsCutsSaid : Prop := bitsCutsRow.holds Try.pinned (OpenSpec.ofChange bitsCutsSpec)

/-- ITS FALSE NEIGHBOUR: 'it returns false'. Refute it at one input. -/
def bitsCutsWrong : ChangeSpec := { name := "bitsCuts", fn := fun _ => fun
  | [d1, d2, d3] => { results := [.lit (.bool false)], args := [d1, d2, d3] }
  | _ => none }
def BitsCutsWrongFalsely : Prop := bitsCutsRow.holds Try.pinned (OpenSpec.ofChange bitsCutsWrong)

/-- 'parquetrylaw01.BitsSame': WHATEVER THE INPUT: true; the input reads as it did. -/
def bitsSameSpec : ChangeSpec := { name := "bitsSame", fn := fun _ => fun
  | [d1, d2, d3, d4] => { results := [.lit (.bool true)], args := [d1, d2, d3, d4] }
  | _ => none }
def bitsSameRow : OpenClaim := { program := "ytpepihciaendlaa", sum := "7ad6f23f3e8c168a90727b424d695dd1e39f68c895baf1b7fe68e6de7ff1a59e", func := "parquetry/parquetrylaw01.BitsSame", spec := "bitsSame", inPlace := ["internal/abi.NoEscape"], apart := false }
def BitsSameSaid : Prop := bitsSameRow.holds Try.pinned (OpenSpec.ofChange bitsSameSpec)

/-- ITS FALSE NEIGHBOUR: 'it returns false'. Refute it at one input. -/
def bitsSameWrong : ChangeSpec := { name := "bitsSame", fn := fun _ => fun
  | [d1, d2, d3, d4] => { results := [.lit (.bool false)], args := [d1, d2, d3, d4] }
  | _ => none }
def BitsSameWrongFalsely : Prop := bitsSameRow.holds Try.pinned (OpenSpec.ofChange bitsSameWrong)

/- THE SECOND FORM. 'bulk': how many values and letters a reading holds, each counted each time it is reached (what is shared counts as often as it is met; a slice's spare places count too). A statement '..UptoSaid' is the law's where the arguments, and the package variables that the reading takes, are together of bulk at most 1048576: NARROWER than '..Said'. Prove '..Said' where nothing that the law and all that it calls make is longer than what came in: it says more and counts as full. Else prove '..UptoSaid'. A law counts once. -/
mutual
def uptoBulk {H : Type} : DataW H → Nat
  | .lit (.string bytes) => bytes.length + 1
  | .lit _ => 1
  | .nil => 1
  | .ptr d => uptoBulk d + 1
  | .slice elems spare => uptoBulkAll elems + uptoBulkAll spare + 1
  | .agg parts => uptoBulkAll parts + 1
  | .iface _ d => uptoBulk d + 1
  | .map entries => uptoBulkEntries entries + 1
  | .held _ => 1
def uptoBulkAll {H : Type} : List (DataW H) → Nat
  | [] => 0
  | d :: r => uptoBulk d + uptoBulkAll r
def uptoBulkEntries {H : Type} : List (Lit × DataW H) → Nat
  | [] => 0
  | x :: r => uptoBulkEntry x + uptoBulkEntries r
def uptoBulkEntry {H : Type} : Lit × DataW H → Nat
  | (.string bytes, d) => bytes.length + uptoBulk d + 1
  | (_, d) => uptoBulk d + 1
 end
def uptoSmall : (H : Type) → List (DataW H) → Bool := fun _ ds => decide (uptoBulkAll ds ≤ 1048576)
def OpenSpec.upto (s : _root_.Go.ChangeSpec) : _root_.Go.OpenSpec := { _root_.Go.OpenSpec.ofChange s with cond := some uptoSmall }

/-- 'parquetrylaw01.BitsReads', WHERE WHAT IT READS IS OF BULK AT MOST 1048576: true; the input reads as it did. -/
def bitsReadsUptoRow : OpenClaim := { program := "ytpepihciaendlaa", sum := "7ad6f23f3e8c168a90727b424d695dd1e39f68c895baf1b7fe68e6de7ff1a59e", func := "parquetry/parquetrylaw01.BitsReads", spec := "bitsReads", inPlace := ["internal/abi.NoEscape"], apart := false, narrowed := true }
def BitsReadsUptoSaid : Prop := bitsReadsUptoRow.holds Try.pinned (OpenSpec.upto bitsReadsSpec)

/-- 'parquetrylaw01.BitsNums', WHERE WHAT IT READS IS OF BULK AT MOST 1048576: true; the input reads as it did. -/
def bitsNumsUptoRow : OpenClaim := { program := "ytpepihciaendlaa", sum := "7ad6f23f3e8c168a90727b424d695dd1e39f68c895baf1b7fe68e6de7ff1a59e", func := "parquetry/parquetrylaw01.BitsNums", spec := "bitsNums", inPlace := ["internal/abi.NoEscape"], apart := false, narrowed := true }
def BitsNumsUptoSaid : Prop := bitsNumsUptoRow.holds Try.pinned (OpenSpec.upto bitsNumsSpec)

/-- 'parquetrylaw01.BitsBytes', WHERE WHAT IT READS IS OF BULK AT MOST 1048576: true; the input reads as it did. -/
def bitsBytesUptoRow : OpenClaim := { program := "ytpepihciaendlaa", sum := "7ad6f23f3e8c168a90727b424d695dd1e39f68c895baf1b7fe68e6de7ff1a59e", func := "parquetry/parquetrylaw01.BitsBytes", spec := "bitsBytes", inPlace := ["internal/abi.NoEscape"], apart := false, narrowed := true }
def BitsBytesUptoSaid : Prop := bitsBytesUptoRow.holds Try.pinned (OpenSpec.upto bitsBytesSpec)

/-- 'parquetrylaw01.BitsPlays', WHERE WHAT IT READS IS OF BULK AT MOST 1048576: true; the input reads as it did. -/
def bitsPlaysUptoRow : OpenClaim := { program := "ytpepihciaendlaa", sum := "7ad6f23f3e8c168a90727b424d695dd1e39f68c895baf1b7fe68e6de7ff1a59e", func := "parquetry/parquetrylaw01.BitsPlays", spec := "bitsPlays", inPlace := ["internal/abi.NoEscape"], apart := false, narrowed := true }
def BitsPlaysUptoSaid : Prop := bitsPlaysUptoRow.holds Try.pinned (OpenSpec.upto bitsPlaysSpec)

/-- 'parquetrylaw01.BitsCuts', WHERE WHAT IT READS IS OF BULK AT MOST 1048576: true; the input reads as it did. -/
def bitsCutsUptoRow : OpenClaim := { program := "ytpepihciaendlaa", sum := "7ad6f23f3e8c168a90727b424d695dd1e39f68c895baf1b7fe68e6de7ff1a59e", func := "parquetry/parquetrylaw01.BitsCuts", spec := "bitsCuts", inPlace := ["internal/abi.NoEscape"], apart := false, narrowed := true }
def BitsCutsUptoSaid : Prop := bitsCutsUptoRow.holds Try.pinned (OpenSpec.upto bitsCutsSpec)

/-- 'parquetrylaw01.BitsSame', WHERE WHAT IT READS IS OF BULK AT MOST 1048576: true; the input reads as it did. -/
def bitsSameUptoRow : OpenClaim := { program := "ytpepihciaendlaa", sum := "7ad6f23f3e8c168a90727b424d695dd1e39f68c895baf1b7fe68e6de7ff1a59e", func := "parquetry/parquetrylaw01.BitsSame", spec := "bitsSame", inPlace := ["internal/abi.NoEscape"], apart := false, narrowed := true }
def BitsSameUptoSaid : Prop := bitsSameUptoRow.holds Try.pinned (OpenSpec.upto bitsSameSpec)

end Rows
end Go.Proofs.Ytpepihciaendlaa
