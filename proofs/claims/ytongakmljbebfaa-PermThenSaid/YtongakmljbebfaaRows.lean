/-
  No cell of these rows narrows 'for every input' (looked for: loops, veiled, ifaces, maps, wideKeys, modest, calm, conditions, laid).
  DERIVED. THE GIVEN ROWS OF THIS SEAT. 5 by the template 'for every input the law returns true; each argument reads behind the call as it read before'; 0 by the template 'total and deterministic' (their statements: YtongakmljbebfaaTotals.lean).
  GIVEN WITH THE SEED: the statements are not yours to turn. If you find one false, say at which input.
  Laid BY PROGRAM, IN A SANDBOX (cutbox-rows.mjs): the forced cells as the released guide's own fill.sh prints them over the translation ab8c44d96c47b58d… (all of the seat's roots in one cut). By AI agents, Wed Nov 11 2026. No macro, syntax, notation, axiom, sorry.
-/
import Derived.Test.YtongakmljbebfaaChecked
import GoSem.Claim
import GoSem.ClaimJoined
import GoSem.ClaimMapViews
import Derived.JoinedTies
import Derived.KernelRfl
namespace Go.Proofs.Ytongakmljbebfaa
/- THE CELL 'sum', in the pinned program and in every row, IS THE sha256 OF THE DUMP (.gsa) THAT YtongakmljbebfaaProg.lean LOADS. Nothing in Lean hashes anything: it is a label: what it is worth is what the hold of that sum in a sandbox is worth. -/
noncomputable def Try.pinned : Pinned := { name := "ytongakmljbebfaa", sum := "ab8c44d96c47b58d9b4d85e94c7cae2c98f1391cba935c5c18111d78a127c543", checked := Try.checked }
namespace Rows
def none {H : Type} : Left H := { results := [], args := [] }

/-- 'parquetrylaw05.PermOrbits': WHATEVER THE INPUT: true; the input reads as it did. -/
def permOrbitsSpec : ChangeSpec := { name := "permOrbits", fn := fun _ => fun
  | [d1, d2] => { results := [.lit (.bool true)], args := [d1, d2] }
  | _ => none }
def permOrbitsRow : OpenClaim := { program := "ytongakmljbebfaa", sum := "ab8c44d96c47b58d9b4d85e94c7cae2c98f1391cba935c5c18111d78a127c543", func := "parquetry/parquetrylaw05.PermOrbits", spec := "permOrbits", apart := false }
def PermOrbitsSaid : Prop := permOrbitsRow.holds Try.pinned (OpenSpec.ofChange permOrbitsSpec)

/-- ITS FALSE NEIGHBOUR: 'it returns false'. Refute it at one input. -/
def permOrbitsWrong : ChangeSpec := { name := "permOrbits", fn := fun _ => fun
  | [d1, d2] => { results := [.lit (.bool false)], args := [d1, d2] }
  | _ => none }
def PermOrbitsWrongFalsely : Prop := permOrbitsRow.holds Try.pinned (OpenSpec.ofChange permOrbitsWrong)

/-- 'parquetrylaw05.PermTimes': WHATEVER THE INPUT: true; the input reads as it did. -/
def permTimesSpec : ChangeSpec := { name := "permTimes", fn := fun _ => fun
  | [d1, d2] => { results := [.lit (.bool true)], args := [d1, d2] }
  | _ => none }
def permTimesRow : OpenClaim := { program := "ytongakmljbebfaa", sum := "ab8c44d96c47b58d9b4d85e94c7cae2c98f1391cba935c5c18111d78a127c543", func := "parquetry/parquetrylaw05.PermTimes", spec := "permTimes", apart := false }
def PermTimesSaid : Prop := permTimesRow.holds Try.pinned (OpenSpec.ofChange permTimesSpec)

/-- ITS FALSE NEIGHBOUR: 'it returns false'. Refute it at one input. -/
def permTimesWrong : ChangeSpec := { name := "permTimes", fn := fun _ => fun
  | [d1, d2] => { results := [.lit (.bool false)], args := [d1, d2] }
  | _ => none }
def PermTimesWrongFalsely : Prop := permTimesRow.holds Try.pinned (OpenSpec.ofChange permTimesWrong)

/-- 'parquetrylaw05.PermIs': WHATEVER THE INPUT: true; the input reads as it did. -/
def permIsSpec : ChangeSpec := { name := "permIs", fn := fun _ => fun
  | [d] => { results := [.lit (.bool true)], args := [d] }
  | _ => none }
def permIsRow : OpenClaim := { program := "ytongakmljbebfaa", sum := "ab8c44d96c47b58d9b4d85e94c7cae2c98f1391cba935c5c18111d78a127c543", func := "parquetry/parquetrylaw05.PermIs", spec := "permIs", inPlace := ["sync/atomic.LoadUint32", "(*internal/sync.Mutex).Lock", "internal/race.Disable", "sync/atomic.CompareAndSwapInt32", "internal/race.Enable", "internal/race.Acquire", "(*internal/sync.Mutex).lockSlow", "internal/sync.runtime_canSpin", "internal/sync.runtime_doSpin", "internal/sync.throw", "internal/sync.runtime_nanotime", "internal/sync.runtime_SemacquireMutex", "sync/atomic.AddInt32", "(*internal/sync.Mutex).Unlock", "internal/race.ReleaseMerge", "(*internal/sync.Mutex).unlockSlow", "internal/sync.fatal", "internal/sync.runtime_Semrelease", "sync/atomic.StoreUint32"], unfollowed := true, recurses := true, apart := false }
def PermIsSaid : Prop := permIsRow.holds Try.pinned (OpenSpec.ofChange permIsSpec)

/-- ITS FALSE NEIGHBOUR: 'it returns false'. Refute it at one input. -/
def permIsWrong : ChangeSpec := { name := "permIs", fn := fun _ => fun
  | [d] => { results := [.lit (.bool false)], args := [d] }
  | _ => none }
def PermIsWrongFalsely : Prop := permIsRow.holds Try.pinned (OpenSpec.ofChange permIsWrong)

/-- 'parquetrylaw05.PermThen': WHATEVER THE INPUT: true; the input reads as it did. -/
def permThenSpec : ChangeSpec := { name := "permThen", fn := fun _ => fun
  | [d1, d2, d3, d4, d5] => { results := [.lit (.bool true)], args := [d1, d2, d3, d4, d5] }
  | _ => none }
def permThenRow : OpenClaim := { program := "ytongakmljbebfaa", sum := "ab8c44d96c47b58d9b4d85e94c7cae2c98f1391cba935c5c18111d78a127c543", func := "parquetry/parquetrylaw05.PermThen", spec := "permThen", inPlace := ["sync/atomic.LoadUint32", "(*internal/sync.Mutex).Lock", "internal/race.Disable", "sync/atomic.CompareAndSwapInt32", "internal/race.Enable", "internal/race.Acquire", "(*internal/sync.Mutex).lockSlow", "internal/sync.runtime_canSpin", "internal/sync.runtime_doSpin", "internal/sync.throw", "internal/sync.runtime_nanotime", "internal/sync.runtime_SemacquireMutex", "sync/atomic.AddInt32", "(*internal/sync.Mutex).Unlock", "internal/race.ReleaseMerge", "(*internal/sync.Mutex).unlockSlow", "internal/sync.fatal", "internal/sync.runtime_Semrelease", "sync/atomic.StoreUint32"], unfollowed := true, recurses := true, apart := false }
def PermThenSaid : Prop := permThenRow.holds Try.pinned (OpenSpec.ofChange permThenSpec)

/-- ITS FALSE NEIGHBOUR: 'it returns false'. Refute it at one input. -/
def permThenWrong : ChangeSpec := { name := "permThen", fn := fun _ => fun
  | [d1, d2, d3, d4, d5] => { results := [.lit (.bool false)], args := [d1, d2, d3, d4, d5] }
  | _ => none }
def PermThenWrongFalsely : Prop := permThenRow.holds Try.pinned (OpenSpec.ofChange permThenWrong)

/-- 'parquetrylaw05.PermNil': WHATEVER THE INPUT: true; the input reads as it did. -/
def permNilSpec : ChangeSpec := { name := "permNil", fn := fun _ => fun
  | [d1, d2, d3] => { results := [.lit (.bool true)], args := [d1, d2, d3] }
  | _ => none }
def permNilRow : OpenClaim := { program := "ytongakmljbebfaa", sum := "ab8c44d96c47b58d9b4d85e94c7cae2c98f1391cba935c5c18111d78a127c543", func := "parquetry/parquetrylaw05.PermNil", spec := "permNil", inPlace := ["sync/atomic.LoadUint32", "(*internal/sync.Mutex).Lock", "internal/race.Disable", "sync/atomic.CompareAndSwapInt32", "internal/race.Enable", "internal/race.Acquire", "(*internal/sync.Mutex).lockSlow", "internal/sync.runtime_canSpin", "internal/sync.runtime_doSpin", "internal/sync.throw", "internal/sync.runtime_nanotime", "internal/sync.runtime_SemacquireMutex", "sync/atomic.AddInt32", "(*internal/sync.Mutex).Unlock", "internal/race.ReleaseMerge", "(*internal/sync.Mutex).unlockSlow", "internal/sync.fatal", "internal/sync.runtime_Semrelease", "sync/atomic.StoreUint32"], unfollowed := true, recurses := true, apart := false }
def PermNilSaid : Prop := permNilRow.holds Try.pinned (OpenSpec.ofChange permNilSpec)

/-- ITS FALSE NEIGHBOUR: 'it returns false'. Refute it at one input. -/
def permNilWrong : ChangeSpec := { name := "permNil", fn := fun _ => fun
  | [d1, d2, d3] => { results := [.lit (.bool false)], args := [d1, d2, d3] }
  | _ => none }
def PermNilWrongFalsely : Prop := permNilRow.holds Try.pinned (OpenSpec.ofChange permNilWrong)

/- THE SECOND FORM. 'bulk': how many values and letters a reading holds, each counted each time it is reached (what is shared counts as often as it is met; a slice's spare places count too). A statement '..UptoSaid' is the law's where the arguments, and the package variables that the reading takes, are together of bulk at most 1048576: NARROWER than '..Said'. Prove '..Said' where nothing that the law and all that it calls make is longer than what came in: it says more and counts as full. Else prove '..UptoSaid'. A law counts once. -/
mutual
def uptoBulk {H : Type} : DataW H → Nat
  | .lit (.string bytes) => bytes.length + 1
  | .lit _ => 1
  | .nil => 1
  | .ptr d => uptoBulk d + 1
  | .slice elems spare => uptoBulkAll elems + uptoBulkAll spare + 1
  | .agg parts => uptoBulkAll parts + 1
  | .iface _ d => uptoBulk d + 1
  | .map entries => uptoBulkEntries entries + 1
  | .held _ => 1
def uptoBulkAll {H : Type} : List (DataW H) → Nat
  | [] => 0
  | d :: r => uptoBulk d + uptoBulkAll r
def uptoBulkEntries {H : Type} : List (Lit × DataW H) → Nat
  | [] => 0
  | x :: r => uptoBulkEntry x + uptoBulkEntries r
def uptoBulkEntry {H : Type} : Lit × DataW H → Nat
  | (.string bytes, d) => bytes.length + uptoBulk d + 1
  | (_, d) => uptoBulk d + 1
 end
def uptoSmall : (H : Type) → List (DataW H) → Bool := fun _ ds => decide (uptoBulkAll ds ≤ 1048576)
def OpenSpec.upto (s : _root_.Go.ChangeSpec) : _root_.Go.OpenSpec := { _root_.Go.OpenSpec.ofChange s with cond := some uptoSmall }

/-- 'parquetrylaw05.PermOrbits', WHERE WHAT IT READS IS OF BULK AT MOST 1048576: true; the input reads as it did. -/
def permOrbitsUptoRow : OpenClaim := { program := "ytongakmljbebfaa", sum := "ab8c44d96c47b58d9b4d85e94c7cae2c98f1391cba935c5c18111d78a127c543", func := "parquetry/parquetrylaw05.PermOrbits", spec := "permOrbits", apart := false, narrowed := true }
def PermOrbitsUptoSaid : Prop := permOrbitsUptoRow.holds Try.pinned (OpenSpec.upto permOrbitsSpec)

/-- 'parquetrylaw05.PermTimes', WHERE WHAT IT READS IS OF BULK AT MOST 1048576: true; the input reads as it did. -/
def permTimesUptoRow : OpenClaim := { program := "ytongakmljbebfaa", sum := "ab8c44d96c47b58d9b4d85e94c7cae2c98f1391cba935c5c18111d78a127c543", func := "parquetry/parquetrylaw05.PermTimes", spec := "permTimes", apart := false, narrowed := true }
def PermTimesUptoSaid : Prop := permTimesUptoRow.holds Try.pinned (OpenSpec.upto permTimesSpec)

/-- 'parquetrylaw05.PermIs', WHERE WHAT IT READS IS OF BULK AT MOST 1048576: true; the input reads as it did. -/
def permIsUptoRow : OpenClaim := { program := "ytongakmljbebfaa", sum := "ab8c44d96c47b58d9b4d85e94c7cae2c98f1391cba935c5c18111d78a127c543", func := "parquetry/parquetrylaw05.PermIs", spec := "permIs", inPlace := ["sync/atomic.LoadUint32", "(*internal/sync.Mutex).Lock", "internal/race.Disable", "sync/atomic.CompareAndSwapInt32", "internal/race.Enable", "internal/race.Acquire", "(*internal/sync.Mutex).lockSlow", "internal/sync.runtime_canSpin", "internal/sync.runtime_doSpin", "internal/sync.throw", "internal/sync.runtime_nanotime", "internal/sync.runtime_SemacquireMutex", "sync/atomic.AddInt32", "(*internal/sync.Mutex).Unlock", "internal/race.ReleaseMerge", "(*internal/sync.Mutex).unlockSlow", "internal/sync.fatal", "internal/sync.runtime_Semrelease", "sync/atomic.StoreUint32"], unfollowed := true, recurses := true, apart := false, narrowed := true }
def PermIsUptoSaid : Prop := permIsUptoRow.holds Try.pinned (OpenSpec.upto permIsSpec)

/-- 'parquetrylaw05.PermThen', WHERE WHAT IT READS IS OF BULK AT MOST 1048576: true; the input reads as it did. -/
def permThenUptoRow : OpenClaim := { program := "ytongakmljbebfaa", sum := "ab8c44d96c47b58d9b4d85e94c7cae2c98f1391cba935c5c18111d78a127c543", func := "parquetry/parquetrylaw05.PermThen", spec := "permThen", inPlace := ["sync/atomic.LoadUint32", "(*internal/sync.Mutex).Lock", "internal/race.Disable", "sync/atomic.CompareAndSwapInt32", "internal/race.Enable", "internal/race.Acquire", "(*internal/sync.Mutex).lockSlow", "internal/sync.runtime_canSpin", "internal/sync.runtime_doSpin", "internal/sync.throw", "internal/sync.runtime_nanotime", "internal/sync.runtime_SemacquireMutex", "sync/atomic.AddInt32", "(*internal/sync.Mutex).Unlock", "internal/race.ReleaseMerge", "(*internal/sync.Mutex).unlockSlow", "internal/sync.fatal", "internal/sync.runtime_Semrelease", "sync/atomic.StoreUint32"], unfollowed := true, recurses := true, apart := false, narrowed := true }
def PermThenUptoSaid : Prop := permThenUptoRow.holds Try.pinned (OpenSpec.upto permThenSpec)

/-- 'parquetrylaw05.PermNil', WHERE WHAT IT READS IS OF BULK AT MOST 1048576: true; the input reads as it did. -/
def permNilUptoRow : OpenClaim := { program := "ytongakmljbebfaa", sum := "ab8c44d96c47b58d9b4d85e94c7cae2c98f1391cba935c5c18111d78a127c543", func := "parquetry/parquetrylaw05.PermNil", spec := "permNil", inPlace := ["sync/atomic.LoadUint32", "(*internal/sync.Mutex).Lock", "internal/race.Disable", "sync/atomic.CompareAndSwapInt32", "internal/race.Enable", "internal/race.Acquire", "(*internal/sync.Mutex).lockSlow", "internal/sync.runtime_canSpin", "internal/sync.runtime_doSpin", "internal/sync.throw", "internal/sync.runtime_nanotime", "internal/sync.runtime_SemacquireMutex", "sync/atomic.AddInt32", "(*internal/sync.Mutex).Unlock", "internal/race.ReleaseMerge", "(*internal/sync.Mutex).unlockSlow", "internal/sync.fatal", "internal/sync.runtime_Semrelease", "sync/atomic.StoreUint32"], unfollowed := true, recurses := true, apart := false, narrowed := true }
def PermNilUptoSaid : Prop := permNilUptoRow.holds Try.pinned (OpenSpec.upto permNilSpec)

end Rows
end Go.Proofs.Ytongakmljbebfaa
