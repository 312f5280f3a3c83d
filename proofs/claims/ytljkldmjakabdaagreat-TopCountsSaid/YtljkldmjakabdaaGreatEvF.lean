/- TopCounts by reckoning: the evaluator: regions, code, calls. -/
import Derived.Test.YtljkldmjakabdaaGreatEvE
import Derived.Orders
namespace Go.Proofs.YtljkldmjakabdaaGreat.Ev
open Go

noncomputable section
section
variable (P : Program)

structure S where
  tm : T AV
  hp : Hp
  nx : Nat

inductive Fl where | norm | exit (id : Nat) | ret

def guardOk (ops : Array Oper) (tm : T AV) (o : Oper) : Option Bool :=
  match o.guard with
  | none => some true
  | some (j, want) => match (ops[j]?).bind (·.dst) with
    | none => some false
    | some d => match tm.get d with
      | some (.at (.bool b)) => some (bEq b want)
      | some _ => some false
      | none => none

def putD (N : Nat) (dst : Option Nat) (v : AV) (tm : T AV) : Option (T AV) := match dst with
  | none => some tm
  | some d => bif Nat.blt d N then some (tm.set d v) else none

def opsRun (call : CallT) (N : Nat) (all : Array Oper) : List Oper → S → Option S
  | [], s => some s
  | o :: r, s => match guardOk all s.tm o with
    | some true => match stepOp P call o s.tm s.hp s.nx with
      | some (v, h, nx) => match putD N o.dst v s.tm with
        | some tm => opsRun call N all r ⟨tm, h, nx⟩
        | none => none
      | none => none
    | some false => match putD N o.dst (.tup []) s.tm with
      | some tm => opsRun call N all r ⟨tm, s.hp, s.nx⟩
      | none => none
    | none => none

/-! ### A region that draws its order -/
def edgeTo (o : Oper) (j : Nat) : Bool := o.after.toList.any fun e => bif Region.binds .any e then Nat.beq e.on j else false

inductive Evt where
  | no
  | pure (v : AV)
  | read (v : AV) (tm : T AV)
  | alloc (v : AV) (id : Nat) (b : Blk)
  | eff (v : AV) (hb : Hp) (nb : Nat) (ha : Hp) (na : Nat)

structure Dr where
  tm : T AV
  hp : Hp
  nx : Nat
  pend : List (Nat × Nat × Blk)

def resT (tm : T AV) : List Nat → T AV → T AV
  | [], t => t
  | x :: l, t => match tm.get x with
    | some v => resT tm l (t.set x v)
    | none => resT tm l t

def absorb (o : Oper) : List (Nat × Nat × Blk) → Hp → Hp
  | [], h => h
  | (p, id, b) :: l, h => bif edgeTo o p then (absorb o l h).set id b else absorb o l h

def leave (o : Oper) : List (Nat × Nat × Blk) → List (Nat × Nat × Blk)
  | [] => []
  | (p, id, b) :: l => bif edgeTo o p then leave o l else (p, id, b) :: leave o l

def setAll : List (Nat × Nat × Blk) → Hp → Hp
  | [], h => h
  | (_, id, b) :: l, h => (setAll l h).set id b

def drawStep (call : CallT) (all : Array Oper) (nx0 i : Nat) (o : Oper) (s : Dr) : Option (Evt × AV × Dr) :=
  match guardOk all (resT s.tm (o.looksAt all) .leaf) o with
  | some false => some (.no, .tup [], s)
  | some true => match kdOf o with
    | .read => match pureOp P o (resT s.tm (o.looksAt all) .leaf) with
      | some v => some (.pure v, v, s)
      | none => match readOp P o (resT s.tm (o.looksAt all) .leaf) s.hp with
        | some v => some (.read v (resT s.tm (o.looksAt all) .leaf), v, s)
        | none => none
    | .alloc => match allocOp P o (resT s.tm (o.looksAt all) .leaf) (nx0 + i) with
      | some (v, b) => some (.alloc v (nx0 + i) b, v, ⟨s.tm, s.hp, s.nx, (i, nx0 + i, b) :: s.pend⟩)
      | none => none
    | .eff => match effOp P call o (resT s.tm (o.looksAt all) .leaf) (absorb o s.pend s.hp) s.nx with
      | some (v, ha, na) => some (.eff v (absorb o s.pend s.hp) s.nx ha na, v, ⟨s.tm, ha, na, leave o s.pend⟩)
      | none => none
  | none => none

def drawGo (call : CallT) (all : Array Oper) (N nx0 : Nat) : List Oper → Nat → Dr → Option (List (Evt × T AV) × Dr)
  | [], _, s => some ([], s)
  | o :: l, i, s => match drawStep P call all nx0 i o s with
    | some (e, v, s') => match putD N o.dst v s'.tm with
      | some tm => match drawGo call all N nx0 l (i + 1) ⟨tm, s'.hp, s'.nx, s'.pend⟩ with
        | some (es, sf) => some ((e, s.tm) :: es, sf)
        | none => none
      | none => none
    | none => none

/-- The operations that act: where they stand, and what they leave. -/
def effs : List Oper → Nat → List (Evt × T AV) → List (Nat × Oper × Hp × Nat)
  | o :: l, i, (.eff _ _ _ ha na, _) :: es => (i, o, ha, na) :: effs l (i + 1) es
  | _ :: l, i, _ :: es => effs l (i + 1) es
  | _, _, _ => []

def atEq : At → At → Bool
  | .bool a, .bool b => bEq a b
  | .int k a, .int k' b => bif kEq k k' then iEq a b else false
  | .str a, .str b => strEq a b
  | .ptr b o, .ptr b' o' => bif Nat.beq b b' then Nat.beq o o' else false
  | .nilp, .nilp => true
  | .slc b o l c z e, .slc b' o' l' c' z' e' => bif Nat.beq b b' then bif Nat.beq o o' then bif Nat.beq l l' then bif Nat.beq c c' then bif Nat.beq z z' then bEq e e' else false else false else false else false else false
  | .nils, .nils => true
  | .mp b, .mp b' => Nat.beq b b'
  | .nilm, .nilm => true
  | .fn f b o, .fn f' b' o' => bif Nat.beq f f' then bif Nat.beq b b' then Nat.beq o o' else false else false
  | .fn0 f, .fn0 f' => Nat.beq f f'
  | .nilf, .nilf => true
  | .nili, .nili => true
  | _, _ => false

def atsEq : List At → List At → Bool
  | [], [] => true
  | a :: l, b :: r => bif atEq a b then atsEq l r else false
  | _, _ => false

def avEq : AV → AV → Bool
  | .at a, .at b => atEq a b
  | .agg l, .agg r => atsEq l r
  | _, _ => false

def reads (o : Oper) (tm : T AV) (v : AV) (h : Hp) : Bool := match readOp P o tm h with
  | some u => avEq v u
  | none => false

def winGo (i : Nat) (o : Oper) (tm : T AV) (v : AV) : Hp → List (Nat × Oper × Hp × Nat) → Bool
  | h, [] => reads P o tm v h
  | h, x :: l => bif (bif (x :: l).any fun y => edgeTo o y.1 then true else reads P o tm v h) then (bif edgeTo x.2.1 i then true else winGo i o tm v x.2.2.1 l) else false

def winsOk (h0 : Hp) (el : List (Nat × Oper × Hp × Nat)) : List Oper → Nat → List (Evt × T AV) → Bool
  | o :: l, i, (.read v tm, _) :: es => bif winGo P i o tm v h0 el then winsOk h0 el l (i + 1) es else false
  | _ :: l, i, _ :: es => winsOk h0 el l (i + 1) es
  | _, _, _ => true

def drawRun (call : CallT) (N : Nat) (ops : Array Oper) (s : S) : Option S :=
  match drawGo P call ops N s.nx ops.toList 0 ⟨s.tm, s.hp, s.nx + ops.toList.length, []⟩ with
  | some (es, d) => bif winsOk P s.hp (effs ops.toList 0 es) ops.toList 0 es then some ⟨d.tm, setAll d.pend d.hp, d.nx⟩ else none
  | none => none

def iter (g : S → Option (Fl × S)) : Nat → S → Option (Fl × S)
  | 0, _ => none
  | n + 1, s => match g s with
    | some (.norm, s') => iter g n s'
    | r => r

def evalC (call : CallT) (N L : Nat) : Code → S → Option (Fl × S)
  | .skip, s => some (.norm, s)
  | .region _ ops draw, s => match (bif draw then drawRun P call N ops s else opsRun P call N ops ops.toList s) with
    | some s' => some (.norm, s')
    | none => none
  | .seq a b, s => match evalC call N L a s with
    | some (.norm, s') => evalC call N L b s'
    | r => r
  | .cond c x y, s => match opnd s.tm c with
    | some (.at (.bool true)) => evalC call N L x s
    | some (.at (.bool false)) => evalC call N L y s
    | _ => none
  | .block id b, s => match evalC call N L b s with
    | some (.exit i, s') => bif Nat.beq i id then some (.norm, s') else some (.exit i, s')
    | r => r
  | .loop b, s => iter (evalC call N L b) L s
  | .scope b, s => evalC call N L b s
  | .exit id, s => some (.exit id, s)
  | .label _, s => some (.norm, s)
  | .ret, s => some (.ret, s)
  | _, _ => none

def resOf (tm : T AV) (h : Hp) : List ResultVar → Option (List (List At × Bool))
  | [] => some []
  | .tmp t :: r => match tm.get t, resOf tm h r with
    | some (.at a), some l => some (([a], false) :: l)
    | some (.agg q), some l => some ((q, true) :: l)
    | _, _ => none
  | .cell a t :: r => match tm.get a, tAgg P t, tSize P t, resOf tm h r with
    | some (.at (.ptr b o)), some true, some n, some l => match rdN h b o n with
      | some q => some ((q, true) :: l)
      | none => none
    | some (.at (.ptr b o)), some false, some _, some l => match rd h b o with
      | some q => some (([q], false) :: l)
      | none => none
    | _, _, _, _ => none

def resV : List (List At × Bool) → Option AV
  | [(l, g)] => back g l
  | l => some (.tup l)

abbrev PrimT := Nat → Option (CallT → List AV → Hp → Nat → Option (AV × Hp × Nat))

/-- A call of a function of the program's. -/
def callC (call : CallT) (L : Nat) (f : Nat) (args : List AV) (h : Hp) (nx : Nat) : Option (AV × Hp × Nat) :=
  match P.funcs[f]? with
  | none => none
  | some fn => match fn.body with
    | none => none
    | some c => bif Nat.ble args.length fn.ntmps then match evalC P call fn.ntmps L c ⟨T.ofList args 0 .leaf, h, nx⟩ with
      | some (.exit _, _) => none
      | some (_, s) => match resOf P s.tm s.hp fn.results.toList with
        | some l => match resV l with
          | some v => some (v, s.hp, s.nx)
          | none => none
        | none => none
      | none => none
      else none

def callF (prim : PrimT) (L : Nat) : Nat → CallT
  | 0, _, _, _, _ => none
  | d + 1, f, args, h, nx => match prim f with
    | some q => q (callF prim L d) args h nx
    | none => callC P (callF prim L d) L f args h nx

/-! ### What is looked at once, of each region that draws -/
def maskOf (ms : T Nat) : List Edge → Nat
  | [] => 0
  | e :: l => bif Region.binds .any e then Nat.lor (Nat.lor (2 ^ e.on) ((ms.get e.on).getD 0)) (maskOf ms l) else maskOf ms l

def masks : List Oper → Nat → T Nat → T Nat
  | [], _, t => t
  | o :: l, i, t => masks l (i + 1) (t.set i (maskOf t o.after.toList))

def bitAt (ms : T Nat) (i j : Nat) : Bool := match ms.get i with
  | some m => Nat.testBit m j
  | none => false

def dstIs (o : Oper) (t : Nat) : Bool := match o.dst with
  | some d => Nat.beq d t
  | none => false

def okPair (ms : T Nat) (i j : Nat) : Bool := bif Nat.blt j i then bitAt ms i j else bif Nat.blt i j then bitAt ms j i else false

/-- Each operation that looks at what another one yields stands before it, or behind it. -/
def apart1 (ms : T Nat) (i : Nat) (t : Nat) : List Oper → Nat → Bool
  | [], _ => true
  | o :: l, j => bif dstIs o t then bif okPair ms i j then apart1 ms i t l (j + 1) else false else apart1 ms i t l (j + 1)

def apartAll (all : Array Oper) (ms : T Nat) : List Oper → Nat → Bool
  | [], _ => true
  | o :: l, i => bif (o.looksAt all).all (fun t => apart1 ms i t all.toList 0) then apartAll all ms l (i + 1) else false

def othersNe (l : List Oper) (o : Oper) : Bool := match o.dst with
  | some d => l.all fun p => !(dstIs p d)
  | none => true

/-- No two yield the same. -/
def uniq : List Oper → Bool
  | [] => true
  | o :: l => bif othersNe l o then uniq l else false

def lastBit (ms : T Nat) (i : Nat) : Option Nat → Bool
  | some e => bitAt ms i e
  | none => true

/-- Those that act stand in a row. -/
def chained (ms : T Nat) : List Oper → Nat → Option Nat → Bool
  | [], _, _ => true
  | o :: l, i, last => match kdOf o with
    | .eff => bif lastBit ms i last then chained ms l (i + 1) (some i) else false
    | _ => chained ms l (i + 1) last

def edgeLt (i : Nat) (e : Edge) : Bool := bif Region.binds .any e then Nat.blt e.on i else true

/-- No operation waits for a later one. -/
def ordered : List Oper → Nat → Bool
  | [], _ => true
  | o :: l, i => bif o.after.toList.all (edgeLt i) then ordered l (i + 1) else false

def statOk (ops : Array Oper) : Bool :=
  bif ordered ops.toList 0 then bif uniq ops.toList then bif apartAll ops (masks ops.toList 0 .leaf) ops.toList 0 then chained (masks ops.toList 0 .leaf) ops.toList 0 none else false else false else false

def codeOk : Code → Bool
  | .region _ ops draw => bif draw then statOk ops else true
  | .seq a b => bif codeOk a then codeOk b else false
  | .cond _ a b => bif codeOk a then codeOk b else false
  | .block _ b => codeOk b
  | .loop b => codeOk b
  | .scope b => codeOk b
  | _ => true

def funcOk (f : Func) : Bool := match f.body with
  | some c => bif codeOk c then !(f.name == "runtime.NumGoroutine") else false
  | none => !(f.name == "runtime.NumGoroutine")

end
end
end Go.Proofs.YtljkldmjakabdaaGreat.Ev

