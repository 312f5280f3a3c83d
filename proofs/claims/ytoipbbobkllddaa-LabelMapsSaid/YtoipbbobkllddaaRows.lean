/-
  No cell of these rows narrows 'for every input' (looked for: loops, veiled, ifaces, maps, wideKeys, modest, calm, conditions, laid).
  DERIVED. THE GIVEN ROWS OF THIS SEAT. 5 by the template 'for every input the law returns true; each argument reads behind the call as it read before'; 0 by the template 'total and deterministic' (their statements: YtoipbbobkllddaaTotals.lean).
  GIVEN WITH THE SEED: the statements are not yours to turn. If you find one false, say at which input.
  Laid BY PROGRAM, IN A SANDBOX (cutbox-rows.mjs): the forced cells as the released guide's own fill.sh prints them over the translation fb784c3e305a47e1… (all of the seat's roots in one cut). By AI agents, Wed Nov 11 2026. No macro, syntax, notation, axiom, sorry.
-/
import Derived.Test.YtoipbbobkllddaaChecked
import GoSem.Claim
import GoSem.ClaimJoined
import GoSem.ClaimMapViews
import Derived.JoinedTies
import Derived.KernelRfl
namespace Go.Proofs.Ytoipbbobkllddaa
/- THE CELL 'sum', in the pinned program and in every row, IS THE sha256 OF THE DUMP (.gsa) THAT YtoipbbobkllddaaProg.lean LOADS. Nothing in Lean hashes anything: it is a label: what it is worth is what the hold of that sum in a sandbox is worth. -/
noncomputable def Try.pinned : Pinned := { name := "ytoipbbobkllddaa", sum := "fb784c3e305a47e1dcd26a87286d4aa6c68ba5442a206d6da0b061a47fedc5a9", checked := Try.checked }
namespace Rows
def none {H : Type} : Left H := { results := [], args := [] }

/-- 'parquetrylaw20.LabelWidths': WHATEVER THE INPUT: true; the input reads as it did. -/
def labelWidthsSpec : ChangeSpec := { name := "labelWidths", fn := fun _ => fun
  | [d1, d2] => { results := [.lit (.bool true)], args := [d1, d2] }
  | _ => none }
def labelWidthsRow : OpenClaim := { program := "ytoipbbobkllddaa", sum := "fb784c3e305a47e1dcd26a87286d4aa6c68ba5442a206d6da0b061a47fedc5a9", func := "parquetry/parquetrylaw20.LabelWidths", spec := "labelWidths", inPlace := ["internal/abi.NoEscape"], apart := false }
def LabelWidthsSaid : Prop := labelWidthsRow.holds Try.pinned (OpenSpec.ofChange labelWidthsSpec)

/-- ITS FALSE NEIGHBOUR: 'it returns false'. Refute it at one input. -/
def labelWidthsWrong : ChangeSpec := { name := "labelWidths", fn := fun _ => fun
  | [d1, d2] => { results := [.lit (.bool false)], args := [d1, d2] }
  | _ => none }
def LabelWidthsWrongFalsely : Prop := labelWidthsRow.holds Try.pinned (OpenSpec.ofChange labelWidthsWrong)

/-- 'parquetrylaw20.LabelCodes': WHATEVER THE INPUT: true; the input reads as it did. -/
def labelCodesSpec : ChangeSpec := { name := "labelCodes", fn := fun _ => fun
  | [d1, d2, d3] => { results := [.lit (.bool true)], args := [d1, d2, d3] }
  | _ => none }
def labelCodesRow : OpenClaim := { program := "ytoipbbobkllddaa", sum := "fb784c3e305a47e1dcd26a87286d4aa6c68ba5442a206d6da0b061a47fedc5a9", func := "parquetry/parquetrylaw20.LabelCodes", spec := "labelCodes", inPlace := ["internal/abi.NoEscape"], apart := false }
def LabelCodesSaid : Prop := labelCodesRow.holds Try.pinned (OpenSpec.ofChange labelCodesSpec)

/-- ITS FALSE NEIGHBOUR: 'it returns false'. Refute it at one input. -/
def labelCodesWrong : ChangeSpec := { name := "labelCodes", fn := fun _ => fun
  | [d1, d2, d3] => { results := [.lit (.bool false)], args := [d1, d2, d3] }
  | _ => none }
def LabelCodesWrongFalsely : Prop := labelCodesRow.holds Try.pinned (OpenSpec.ofChange labelCodesWrong)

/-- 'parquetrylaw20.LabelReads': WHATEVER THE INPUT: true; the input reads as it did. -/
def labelReadsSpec : ChangeSpec := { name := "labelReads", fn := fun _ => fun
  | [d1, d2, d3, d4] => { results := [.lit (.bool true)], args := [d1, d2, d3, d4] }
  | _ => none }
def labelReadsRow : OpenClaim := { program := "ytoipbbobkllddaa", sum := "fb784c3e305a47e1dcd26a87286d4aa6c68ba5442a206d6da0b061a47fedc5a9", func := "parquetry/parquetrylaw20.LabelReads", spec := "labelReads", inPlace := ["internal/abi.NoEscape"], apart := false }
def LabelReadsSaid : Prop := labelReadsRow.holds Try.pinned (OpenSpec.ofChange labelReadsSpec)

/-- ITS FALSE NEIGHBOUR: 'it returns false'. Refute it at one input. -/
def labelReadsWrong : ChangeSpec := { name := "labelReads", fn := fun _ => fun
  | [d1, d2, d3, d4] => { results := [.lit (.bool false)], args := [d1, d2, d3, d4] }
  | _ => none }
def LabelReadsWrongFalsely : Prop := labelReadsRow.holds Try.pinned (OpenSpec.ofChange labelReadsWrong)

/-- 'parquetrylaw20.LabelTurns': WHATEVER THE INPUT: true; the input reads as it did. -/
def labelTurnsSpec : ChangeSpec := { name := "labelTurns", fn := fun _ => fun
  | [d1, d2, d3] => { results := [.lit (.bool true)], args := [d1, d2, d3] }
  | _ => none }
def labelTurnsRow : OpenClaim := { program := "ytoipbbobkllddaa", sum := "fb784c3e305a47e1dcd26a87286d4aa6c68ba5442a206d6da0b061a47fedc5a9", func := "parquetry/parquetrylaw20.LabelTurns", spec := "labelTurns", inPlace := ["internal/abi.NoEscape", "sync/atomic.LoadUint32", "(*internal/sync.Mutex).Lock", "internal/race.Disable", "sync/atomic.CompareAndSwapInt32", "internal/race.Enable", "internal/race.Acquire", "(*internal/sync.Mutex).lockSlow", "internal/sync.runtime_canSpin", "internal/sync.runtime_doSpin", "internal/sync.throw", "internal/sync.runtime_nanotime", "internal/sync.runtime_SemacquireMutex", "sync/atomic.AddInt32", "(*internal/sync.Mutex).Unlock", "internal/race.ReleaseMerge", "(*internal/sync.Mutex).unlockSlow", "internal/sync.fatal", "internal/sync.runtime_Semrelease", "sync/atomic.StoreUint32"], unfollowed := true, recurses := true, apart := false }
def LabelTurnsSaid : Prop := labelTurnsRow.holds Try.pinned (OpenSpec.ofChange labelTurnsSpec)

/-- ITS FALSE NEIGHBOUR: 'it returns false'. Refute it at one input. -/
def labelTurnsWrong : ChangeSpec := { name := "labelTurns", fn := fun _ => fun
  | [d1, d2, d3] => { results := [.lit (.bool false)], args := [d1, d2, d3] }
  | _ => none }
def LabelTurnsWrongFalsely : Prop := labelTurnsRow.holds Try.pinned (OpenSpec.ofChange labelTurnsWrong)

/-- 'parquetrylaw20.LabelMaps': WHATEVER THE INPUT: true; the input reads as it did. -/
def labelMapsSpec : ChangeSpec := { name := "labelMaps", fn := fun _ => fun
  | [d1, d2, d3, d4, d5] => { results := [.lit (.bool true)], args := [d1, d2, d3, d4, d5] }
  | _ => none }
def labelMapsRow : OpenClaim := { program := "ytoipbbobkllddaa", sum := "fb784c3e305a47e1dcd26a87286d4aa6c68ba5442a206d6da0b061a47fedc5a9", func := "parquetry/parquetrylaw20.LabelMaps", spec := "labelMaps", inPlace := ["internal/abi.NoEscape", "sync/atomic.LoadUint32", "(*internal/sync.Mutex).Lock", "internal/race.Disable", "sync/atomic.CompareAndSwapInt32", "internal/race.Enable", "internal/race.Acquire", "(*internal/sync.Mutex).lockSlow", "internal/sync.runtime_canSpin", "internal/sync.runtime_doSpin", "internal/sync.throw", "internal/sync.runtime_nanotime", "internal/sync.runtime_SemacquireMutex", "sync/atomic.AddInt32", "(*internal/sync.Mutex).Unlock", "internal/race.ReleaseMerge", "(*internal/sync.Mutex).unlockSlow", "internal/sync.fatal", "internal/sync.runtime_Semrelease", "sync/atomic.StoreUint32"], unfollowed := true, recurses := true, apart := false }
def LabelMapsSaid : Prop := labelMapsRow.holds Try.pinned (OpenSpec.ofChange labelMapsSpec)

/-- ITS FALSE NEIGHBOUR: 'it returns false'. Refute it at one input. -/
def labelMapsWrong : ChangeSpec := { name := "labelMaps", fn := fun _ => fun
  | [d1, d2, d3, d4, d5] => { results := [.lit (.bool false)], args := [d1, d2, d3, d4, d5] }
  | _ => none }
def LabelMapsWrongFalsely : Prop := labelMapsRow.holds Try.pinned (OpenSpec.ofChange labelMapsWrong)

/- THE SECOND FORM. 'bulk': how many values and letters a reading holds, each counted each time it is reached (what is shared counts as often as it is met; a slice's spare places count too). A statement '..UptoSaid' is the law's where the arguments, and the package variables that the reading takes, are together of bulk at most 1048576: NARROWER than '..Said'. Prove '..Said' where nothing that the law and all that it calls make is longer than what came in: it says more and counts as full. Else prove '..UptoSaid'. A law counts once. -/
mutual
def uptoBulk {H : Type} : DataW H → Nat
  | .lit (.string bytes) => bytes.length + 1
  | .lit _ => 1
  | .nil => 1
  | .ptr d => uptoBulk d + 1
  | .slice elems spare => uptoBulkAll elems + uptoBulkAll spare + 1
  | .agg parts => uptoBulkAll parts + 1
  | .iface _ d => uptoBulk d + 1
  | .map entries => uptoBulkEntries entries + 1
  | .held _ => 1
def uptoBulkAll {H : Type} : List (DataW H) → Nat
  | [] => 0
  | d :: r => uptoBulk d + uptoBulkAll r
def uptoBulkEntries {H : Type} : List (Lit × DataW H) → Nat
  | [] => 0
  | x :: r => uptoBulkEntry x + uptoBulkEntries r
def uptoBulkEntry {H : Type} : Lit × DataW H → Nat
  | (.string bytes, d) => bytes.length + uptoBulk d + 1
  | (_, d) => uptoBulk d + 1
 end
def uptoSmall : (H : Type) → List (DataW H) → Bool := fun _ ds => decide (uptoBulkAll ds ≤ 1048576)
def OpenSpec.upto (s : _root_.Go.ChangeSpec) : _root_.Go.OpenSpec := { _root_.Go.OpenSpec.ofChange s with cond := some uptoSmall }

/-- 'parquetrylaw20.LabelWidths', WHERE WHAT IT READS IS OF BULK AT MOST 1048576: true; the input reads as it did. -/
def labelWidthsUptoRow : OpenClaim := { program := "ytoipbbobkllddaa", sum := "fb784c3e305a47e1dcd26a87286d4aa6c68ba5442a206d6da0b061a47fedc5a9", func := "parquetry/parquetrylaw20.LabelWidths", spec := "labelWidths", inPlace := ["internal/abi.NoEscape"], apart := false, narrowed := true }
def LabelWidthsUptoSaid : Prop := labelWidthsUptoRow.holds Try.pinned (OpenSpec.upto labelWidthsSpec)

/-- 'parquetrylaw20.LabelCodes', WHERE WHAT IT READS IS OF BULK AT MOST 1048576: true; the input reads as it did. -/
def labelCodesUptoRow : OpenClaim := { program := "ytoipbbobkllddaa", sum := "fb784c3e305a47e1dcd26a87286d4aa6c68ba5442a206d6da0b061a47fedc5a9", func := "parquetry/parquetrylaw20.LabelCodes", spec := "labelCodes", inPlace := ["internal/abi.NoEscape"], apart := false, narrowed := true }
def LabelCodesUptoSaid : Prop := labelCodesUptoRow.holds Try.pinned (OpenSpec.upto labelCodesSpec)

/-- 'parquetrylaw20.LabelReads', WHERE WHAT IT READS IS OF BULK AT MOST 1048576: true; the input reads as it did. -/
def labelReadsUptoRow : OpenClaim := { program := "ytoipbbobkllddaa", sum := "fb784c3e305a47e1dcd26a87286d4aa6c68ba5442a206d6da0b061a47fedc5a9", func := "parquetry/parquetrylaw20.LabelReads", spec := "labelReads", inPlace := ["internal/abi.NoEscape"], apart := false, narrowed := true }
def LabelReadsUptoSaid : Prop := labelReadsUptoRow.holds Try.pinned (OpenSpec.upto labelReadsSpec)

/-- 'parquetrylaw20.LabelTurns', WHERE WHAT IT READS IS OF BULK AT MOST 1048576: true; the input reads as it did. -/
def labelTurnsUptoRow : OpenClaim := { program := "ytoipbbobkllddaa", sum := "fb784c3e305a47e1dcd26a87286d4aa6c68ba5442a206d6da0b061a47fedc5a9", func := "parquetry/parquetrylaw20.LabelTurns", spec := "labelTurns", inPlace := ["internal/abi.NoEscape", "sync/atomic.LoadUint32", "(*internal/sync.Mutex).Lock", "internal/race.Disable", "sync/atomic.CompareAndSwapInt32", "internal/race.Enable", "internal/race.Acquire", "(*internal/sync.Mutex).lockSlow", "internal/sync.runtime_canSpin", "internal/sync.runtime_doSpin", "internal/sync.throw", "internal/sync.runtime_nanotime", "internal/sync.runtime_SemacquireMutex", "sync/atomic.AddInt32", "(*internal/sync.Mutex).Unlock", "internal/race.ReleaseMerge", "(*internal/sync.Mutex).unlockSlow", "internal/sync.fatal", "internal/sync.runtime_Semrelease", "sync/atomic.StoreUint32"], unfollowed := true, recurses := true, apart := false, narrowed := true }
def LabelTurnsUptoSaid : Prop := labelTurnsUptoRow.holds Try.pinned (OpenSpec.upto labelTurnsSpec)

/-- 'parquetrylaw20.LabelMaps', WHERE WHAT IT READS IS OF BULK AT MOST 1048576: true; the input reads as it did. -/
def labelMapsUptoRow : OpenClaim := { program := "ytoipbbobkllddaa", sum := "fb784c3e305a47e1dcd26a87286d4aa6c68ba5442a206d6da0b061a47fedc5a9", func := "parquetry/parquetrylaw20.LabelMaps", spec := "labelMaps", inPlace := ["internal/abi.NoEscape", "sync/atomic.LoadUint32", "(*internal/sync.Mutex).Lock", "internal/race.Disable", "sync/atomic.CompareAndSwapInt32", "internal/race.Enable", "internal/race.Acquire", "(*internal/sync.Mutex).lockSlow", "internal/sync.runtime_canSpin", "internal/sync.runtime_doSpin", "internal/sync.throw", "internal/sync.runtime_nanotime", "internal/sync.runtime_SemacquireMutex", "sync/atomic.AddInt32", "(*internal/sync.Mutex).Unlock", "internal/race.ReleaseMerge", "(*internal/sync.Mutex).unlockSlow", "internal/sync.fatal", "internal/sync.runtime_Semrelease", "sync/atomic.StoreUint32"], unfollowed := true, recurses := true, apart := false, narrowed := true }
def LabelMapsUptoSaid : Prop := labelMapsUptoRow.holds Try.pinned (OpenSpec.upto labelMapsSpec)

end Rows
end Go.Proofs.Ytoipbbobkllddaa
