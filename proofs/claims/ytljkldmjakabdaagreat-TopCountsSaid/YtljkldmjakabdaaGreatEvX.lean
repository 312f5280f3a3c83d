/- TopCounts by reckoning: the evaluator, made ready: operations, code, calls. -/
import Derived.Test.YtljkldmjakabdaaGreatEvW
namespace Go.Proofs.YtljkldmjakabdaaGreat.Ev
open Go

noncomputable section

/-- What comes of a value that is there. -/
def ob {α β : Type} (x : Option α) (f : α → Option β) : Option β := Option.rec (motive := fun _ => Option β) none f x
theorem ob_eq {α β : Type} (x : Option α) (f : α → Option β) : ob x f = match x with | some v => f v | none => none := by cases x <;> rfl

def onAt {β : Type} (f : At → Option β) (x : AV) : Option β := AV.rec (motive := fun _ => Option β) f (fun _ => none) (fun _ => none) x
def onPtr {β : Type} (f : Nat → Nat → Option β) (x : AV) : Option β :=
  AV.rec (motive := fun _ => Option β) (At.rec (motive := fun _ => Option β) (fun _ => none) (fun _ _ => none) (fun _ => none) f none (fun _ _ _ _ _ _ => none) none (fun _ => none) none (fun _ _ _ => none) (fun _ => none) none none) (fun _ => none) (fun _ => none) x
def onInt {β : Type} (f : IntKind → Int → Option β) (x : AV) : Option β :=
  AV.rec (motive := fun _ => Option β) (At.rec (motive := fun _ => Option β) (fun _ => none) f (fun _ => none) (fun _ _ => none) none (fun _ _ _ _ _ _ => none) none (fun _ => none) none (fun _ _ _ => none) (fun _ => none) none none) (fun _ => none) (fun _ => none) x
def onBool {β : Type} (f : Bool → Option β) (x : AV) : Option β :=
  AV.rec (motive := fun _ => Option β) (At.rec (motive := fun _ => Option β) f (fun _ _ => none) (fun _ => none) (fun _ _ => none) none (fun _ _ _ _ _ _ => none) none (fun _ => none) none (fun _ _ _ => none) (fun _ => none) none none) (fun _ => none) (fun _ => none) x
def onNat {β : Type} (f : Nat → Option β) (n : Int) : Option β := Int.rec (motive := fun _ => Option β) f (fun _ => none) n
def onSlc {β : Type} (f : Nat → Nat → Nat → Nat → Nat → Bool → Option β) (g : Option β) (x : AV) : Option β :=
  AV.rec (motive := fun _ => Option β) (At.rec (motive := fun _ => Option β) (fun _ => none) (fun _ _ => none) (fun _ => none) (fun _ _ => none) none f g (fun _ => none) none (fun _ _ _ => none) (fun _ => none) none none) (fun _ => none) (fun _ => none) x
def onCells {β : Type} (f : T At → Nat → Ty → Option β) (x : Blk) : Option β := Blk.rec (motive := fun _ => Option β) f (fun _ => none) x

/-- The number, laid plain. -/
def intA (k : IntKind) (n : Int) : Option AV := Int.rec (motive := fun _ => Option AV) (fun n => some (.at (.int k (.ofNat n)))) (fun n => some (.at (.int k (.negSucc n)))) n
def boolA (b : Bool) : Option AV := Bool.rec (motive := fun _ => Option AV) (some (.at (.bool false))) (some (.at (.bool true))) b
def boolN (b : Bool) : Option AV := Bool.rec (motive := fun _ => Option AV) (some (.at (.bool true))) (some (.at (.bool false))) b

theorem intA_eq (k : IntKind) (n : Int) : intA k n = some (.at (.int k n)) := by cases n <;> rfl
theorem boolA_eq (b : Bool) : boolA b = some (.at (.bool b)) := by cases b <;> rfl
theorem boolN_eq (b : Bool) : boolN b = some (.at (.bool (!b))) := by cases b <;> rfl

section
variable (P : Program)

abbrev Ro := Option (AV × Hp × Nat)

def opK : Operand → K (T AV → Option AV)
  | .tmp t => getP 12 t
  | .const v => match avOf v with
    | some a => ⟨fun _ => some a⟩
    | none => ⟨fun _ => none⟩
  | .global _ => ⟨fun _ => none⟩
  | .func f => ⟨fun _ => some (.at (.fn0 f))⟩

def opsK : List Operand → K (T AV → Option (List AV))
  | [] => ⟨fun _ => some []⟩
  | x :: l => ⟨fun tm => ob ((opK x).run tm) fun v => ob ((opsK l).run tm) fun r => some (v :: r)⟩

def rdF (h : Hp) (b o : Nat) : Option At := ob (h.get b) (onCells fun t _ _ => t.get o)

def rdTsF (t : T At) (o : Nat) (n : Nat) : Option (List At) :=
  Nat.rec (motive := fun _ => Nat → Option (List At)) (fun _ => some []) (fun _ ih o => ob (t.get o) fun a => ob (ih (Nat.succ o)) fun l => some (a :: l)) n o

def rdNF (h : Hp) (b o n : Nat) : Option (List At) := ob (h.get b) (onCells fun t _ _ => rdTsF t o n)

def wrTsF (t : T At) (o : Nat) (l : List At) : T At :=
  List.rec (motive := fun _ => T At → Nat → T At) (fun t _ => t) (fun a _ ih t o => ih (t.set o a) (Nat.succ o)) l t o

/-- The block is made before memory is. -/
def setB (h : Hp) (b n : Nat) (ty : Ty) (t : T At) : Option Hp :=
  T.rec (motive := fun _ => Option Hp) (some (h.set b (.cells .leaf n ty))) (fun x y z _ _ => some (h.set b (.cells (.node x y z) n ty))) t

def wrNF (h : Hp) (b o : Nat) (l : List At) : Option Hp := ob (h.get b) (onCells fun t n ty => cd (Nat.ble (Nat.add o l.length) n) (setB h b n ty (wrTsF t o l)) none)

def ltF (a b : Int) : Bool := Int.rec (motive := fun _ => Bool) (fun x => Int.rec (motive := fun _ => Bool) (fun y => Nat.ble (Nat.succ x) y) (fun _ => iLt a b) b) (fun _ => iLt a b) a
def eqF (a b : Int) : Bool := Int.rec (motive := fun _ => Bool) (fun x => Int.rec (motive := fun _ => Bool) (fun y => Nat.beq x y) (fun _ => false) b) (fun _ => iEq a b) a
def addF (k : IntKind) (hi : Nat) (a b : Int) : Option AV := Int.rec (motive := fun _ => Option AV) (fun x => Int.rec (motive := fun _ => Option AV) (fun y => cd (Nat.ble (Nat.succ (Nat.add x y)) hi) (some (.at (.int k (.ofNat (Nat.add x y))))) (intA k (wr k (a + b)))) (fun _ => intA k (wr k (a + b))) b) (fun _ => intA k (wr k (a + b))) a

/-- One operation on two numbers. -/
def binK (op : BinOp) : K (IntKind → Int → Int → Option AV) := match op with
  | .add => ⟨fun k a b => addF k (hiOf k) a b⟩
  | .sub => ⟨fun k a b => intA k (wr k (a - b))⟩
  | .mul => ⟨fun k a b => intA k (wr k (a * b))⟩
  | .eql => ⟨fun _ a b => boolA (eqF a b)⟩
  | .neq => ⟨fun _ a b => boolN (eqF a b)⟩
  | .lss => ⟨fun _ a b => boolA (ltF a b)⟩
  | .leq => ⟨fun _ a b => boolN (ltF b a)⟩
  | .gtr => ⟨fun _ a b => boolA (ltF b a)⟩
  | .geq => ⟨fun _ a b => boolN (ltF a b)⟩
  | op => ⟨fun k a b => match iBin op k a b with
    | some (.int k n) => intA k n
    | some r => some (.at r)
    | none => none⟩

def isSh : BinOp → Bool
  | .shl | .shr => true
  | _ => false

def bin2O (op : BinOp) (t : Nat) (x y : At) : Option AV := match binA P op t x y with | some r => some (.at r) | none => none

/-- An operation on two values, the first a number. -/
def bin3K (op : BinOp) (t : Nat) : K (IntKind → Int → AV → Option AV) := ⟨fun k a y => AV.rec (motive := fun _ => Option AV)
  (At.rec (motive := fun _ => Option AV) (fun q => bin2O P op t (.int k a) (.bool q)) (fun k' b => cd (cd (isSh op) true (kEq k k')) ((binK op).run k a b) none) (fun q => bin2O P op t (.int k a) (.str q))
    (fun _ _ => none) none (fun _ _ _ _ _ _ => none) none (fun _ => none) none (fun _ _ _ => none) (fun _ => none) none none) (fun _ => none) (fun _ => none) y⟩

/-- An operation on two values. -/
def bin2K (op : BinOp) (t : Nat) : K (AV → AV → Option AV) := ⟨fun x y => match x with
  | .at (.int k a) => (bin3K P op t).run k a y
  | .at x => match y with
    | .at y => bin2O P op t x y
    | _ => none
  | _ => none⟩

/-- What needs no memory. -/
def pureK (o : Oper) : Option (K (T AV → Option AV)) := match o.op with
  | .move x | .assign x => some (opK x)
  | .pick c a b => some ⟨fun tm => ob ((opK c).run tm) (onBool fun t => cd t ((opK a).run tm) ((opK b).run tm))⟩
  | .binOp op t x y _ => some ⟨fun tm => ob ((opK x).run tm) fun a => ob ((opK y).run tm) fun b => (bin2K P op t).run a b⟩
  | .unOp .not _ x => some ⟨fun tm => ob ((opK x).run tm) (onBool boolN)⟩
  | .nilCheck x => some ⟨fun tm => ob ((opK x).run tm) (onPtr fun b o => some (.at (.ptr b o)))⟩
  | .fieldAddr s x f => match tField P s f with
    | some d => some ⟨fun tm => ob ((opK x).run tm) (onPtr fun b o => some (.at (.ptr b (Nat.add o d))))⟩
    | none => none
  | .indexAddr t x ix => match P.underlying t with
    | some (.slice e) => some ⟨fun tm => ob ((opK ix).run tm) (onInt fun _ i => onNat (fun i => ob ((opK x).run tm) (onSlc (fun b o l _ z _ => cd (szIs P e z) (cd (Nat.ble (Nat.succ i) l) (some (.at (.ptr b (Nat.add o (Nat.mul i z))))) none) none) none)) i)⟩
    | _ => none
  | .extract t i => some ⟨fun tm => match (opK t).run tm with
    | some (.tup l) => match l[i]? with
      | some (cs, g) => back g cs
      | none => none
    | _ => none⟩
  | .convert src dst x => match P.underlying src, P.underlying dst with
    | some (.int _), some (.int k) => bif Nat.beq src dst then none else some ⟨fun tm => ob ((opK x).run tm) (onInt fun _ n => intA k (wr k n))⟩
    | _, _ => none
  | .call { callee := .builtin .len, args, argTypes } => match args.toList, (argTypes[0]?).bind P.underlying with
    | [x], some (.slice _) => some ⟨fun tm => ob ((opK x).run tm) (onSlc (fun _ _ l _ _ _ => some (.at (.int .i64 (.ofNat l)))) (some (.at (.int .i64 0))))⟩
    | _, _ => none
  | _ => none

/-- What reads memory. -/
def readK (o : Oper) : Option (K (T AV → Hp → Option AV)) := match o.op with
  | .load t x => match tAgg P t with
    | some false => some ⟨fun tm h => ob ((opK x).run tm) (onPtr fun b o => ob (rdF h b o) fun y => some (.at y))⟩
    | some true => match tSize P t with
      | some n => some ⟨fun tm h => ob ((opK x).run tm) (onPtr fun b o => ob (rdNF h b o n) fun l => some (.agg l))⟩
      | none => none
    | none => none
  | _ => none

/-- What acts. -/
def effK (o : Oper) : Option (K (CallT → T AV → Hp → Nat → Ro)) := match o.op with
  | .store t x v => match tSize P t with
    | some s => some ⟨fun _ tm h nx => ob ((opK x).run tm) (onPtr fun b o => ob ((opK v).run tm) fun v => ob (cellsOf v) fun l => cd (Nat.beq l.length s) (ob (wrNF h b o l) fun h' => some (.tup [], h', nx)) none)⟩
    | none => none
  | .call { callee := .value (.func g), args, .. } => some ⟨fun call tm h nx => ob ((opsK args.toList).run tm) fun vs => call g vs h nx⟩
  | _ => none

def pureF (o : Oper) (tm : T AV) : Option AV := match pureK P o with
  | some q => q.run tm
  | none => pureOp P o tm
def readF (o : Oper) (tm : T AV) (h : Hp) : Option AV := match readK P o with
  | some q => q.run tm h
  | none => readOp P o tm h
def effF (call : CallT) (o : Oper) (tm : T AV) (h : Hp) (nx : Nat) : Ro := match effK P o with
  | some q => q.run call tm h nx
  | none => effOp P call o tm h nx

/-- An operation, made ready. -/
def stepK (o : Oper) : K (CallT → T AV → Hp → Nat → Ro) := match pureK P o with
  | some q => ⟨fun _ tm h nx => ob (q.run tm) fun v => some (v, h, nx)⟩
  | none => match readK P o with
    | some q => ⟨fun _ tm h nx => ob (q.run tm h) fun v => some (v, h, nx)⟩
    | none => match effK P o with
      | some q => q
      | none => ⟨fun call tm h nx => stepOp P call o tm h nx⟩

/-- A slot is set, or none. -/
def putK (N : Nat) (dst : Option Nat) : Option (K (AV → T AV → T AV)) := match dst with
  | none => some ⟨fun _ t => t⟩
  | some d => bif Nat.blt d N then some (setK d) else none

abbrev Run := CallT → T AV → Hp → Nat → Option S

/-- An operation, and what follows it. -/
def thenK (o : Oper) (put : K (AV → T AV → T AV)) (next : Unit → K Run) : K Run := match pureK P o with
  | some q => ⟨fun call tm h nx => ob (q.run tm) fun v => (next ()).run call (put.run v tm) h nx⟩
  | none => match readK P o with
    | some q => ⟨fun call tm h nx => ob (q.run tm h) fun v => (next ()).run call (put.run v tm) h nx⟩
    | none => ⟨fun call tm h nx => ob ((stepK P o).run call tm h nx) fun r => Prod.rec (motive := fun _ => Option S) (fun v r => Prod.rec (motive := fun _ => Option S) (fun h nx => (next ()).run call (put.run v tm) h nx) r) r⟩

def runK (N : Nat) (all : Array Oper) : List Oper → K Run
  | [] => ⟨fun _ tm h nx => some ⟨tm, h, nx⟩⟩
  | o :: r => match putK N o.dst with
    | none => ⟨fun _ _ _ _ => none⟩
    | some put => match o.guard with
      | none => thenK P o put (fun _ => runK N all r)
      | some (j, want) => match (all[j]?).bind (·.dst) with
        | none => ⟨fun call tm h nx => (runK N all r).run call (put.run (.tup []) tm) h nx⟩
        | some d => ⟨fun call tm h nx => match (getP 12 d).run tm with
          | some (.at (.bool b)) => cd (bEq b want) ((thenK P o put (fun _ => runK N all r)).run call tm h nx) ((runK N all r).run call (put.run (.tup []) tm) h nx)
          | some _ => (runK N all r).run call (put.run (.tup []) tm) h nx
          | none => none⟩

/-! ### A region that draws its order, made ready -/
def resF (tm : T AV) : List Nat → T AV → T AV
  | [], t => t
  | x :: l, t => Option.rec (motive := fun _ => T AV) (resF tm l t) (fun v => resF tm l ((setK x).run v t)) ((getP 12 x).run tm)

abbrev DOut := Option (Evt × AV × Dr)

def lookK : List Nat → K (T AV → T AV → T AV)
  | [] => ⟨fun _ t => t⟩
  | x :: l => ⟨fun tm t => Option.rec (motive := fun _ => T AV) ((lookK l).run tm t) (fun v => (lookK l).run tm ((setK x).run v t)) ((getP 12 x).run tm)⟩

def edgeK (o : Oper) (p : Nat) : K Bool := ⟨edgeTo o p⟩

def absorbF (o : Oper) (l : List (Nat × Nat × Blk)) (h : Hp) : Hp :=
  List.rec (motive := fun _ => Hp) h (fun x _ ih => Prod.rec (motive := fun _ => Hp) (fun p r => Prod.rec (motive := fun _ => Hp) (fun id b => cd (edgeTo o p) (ih.set id b) ih) r) x) l

def doK (o : Oper) : K (CallT → Nat → Nat → T AV → Dr → DOut) := match kdOf o with
  | .read => match pureK P o with
    | some q => ⟨fun _ _ _ tm s => match q.run tm with
      | some v => some (.pure v, v, s)
      | none => ob (readF P o tm s.hp) fun v => some (.read v tm, v, s)⟩
    | none => match readK P o with
      | some q => ⟨fun _ _ _ tm s => ob (q.run tm s.hp) fun v => some (.read v tm, v, s)⟩
      | none => ⟨fun _ _ _ tm s => match pureOp P o tm with
        | some v => some (.pure v, v, s)
        | none => ob (readOp P o tm s.hp) fun v => some (.read v tm, v, s)⟩
  | .alloc => ⟨fun _ nx0 i tm s => match allocOp P o tm (nx0 + i) with
    | some (v, b) => some (.alloc v (nx0 + i) b, v, ⟨s.tm, s.hp, s.nx, (i, nx0 + i, b) :: s.pend⟩)
    | none => none⟩
  | .eff => ⟨fun call _ _ tm s => match effF P call o tm (absorb o s.pend s.hp) s.nx with
    | some (v, ha, na) => some (.eff v (absorb o s.pend s.hp) s.nx ha na, v, ⟨s.tm, ha, na, leave o s.pend⟩)
    | none => none⟩

def drawK (all : Array Oper) (o : Oper) : K (CallT → Nat → Nat → Dr → DOut) := match o.guard with
  | none => ⟨fun call nx0 i s => (doK P o).run call nx0 i ((lookK (o.looksAt all)).run s.tm .leaf) s⟩
  | some _ => ⟨fun call nx0 i s => match guardOk all ((lookK (o.looksAt all)).run s.tm .leaf) o with
    | some false => some (.no, .tup [], s)
    | some true => (doK P o).run call nx0 i ((lookK (o.looksAt all)).run s.tm .leaf) s
    | none => none⟩

def drawsK (N : Nat) (all : Array Oper) : List Oper → Nat → K (CallT → Nat → Dr → Option (List (Evt × T AV) × Dr))
  | [], _ => ⟨fun _ _ s => some ([], s)⟩
  | o :: l, i => match putK N o.dst with
    | none => ⟨fun _ _ _ => none⟩
    | some put => ⟨fun call nx0 s => match (drawK P all o).run call nx0 i s with
      | some (e, v, ⟨tm, h, nx, pd⟩) => match (drawsK N all l (i + 1)).run call nx0 ⟨put.run v tm, h, nx, pd⟩ with
        | some (es, sf) => some ((e, s.tm) :: es, sf)
        | none => none
      | none => none⟩

def readsF (o : Oper) (tm : T AV) (v : AV) (h : Hp) : Bool := match readF P o tm h with
  | some u => avEq v u
  | none => false

def winGoF (i : Nat) (o : Oper) (tm : T AV) (v : AV) : Hp → List (Nat × Oper × Hp × Nat) → Bool
  | h, [] => readsF P o tm v h
  | h, x :: l => bif (bif (x :: l).any fun y => edgeTo o y.1 then true else readsF P o tm v h) then (bif edgeTo x.2.1 i then true else winGoF i o tm v x.2.2.1 l) else false

def winsF (h0 : Hp) (el : List (Nat × Oper × Hp × Nat)) : List Oper → Nat → List (Evt × T AV) → Bool
  | o :: l, i, (.read v tm, _) :: es => bif winGoF P i o tm v h0 el then winsF h0 el l (i + 1) es else false
  | _ :: l, i, _ :: es => winsF h0 el l (i + 1) es
  | _, _, _ => true

def drawRunF (call : CallT) (N : Nat) (ops : Array Oper) (tm : T AV) (h : Hp) (nx : Nat) : Option S :=
  match (drawsK P N ops ops.toList 0).run call nx ⟨tm, h, nx + ops.toList.length, []⟩ with
  | some (es, d) => bif winsF P h (effs ops.toList 0 es) ops.toList 0 es then some ⟨d.tm, setAll d.pend d.hp, d.nx⟩ else none
  | none => none

abbrev Cod := CallT → T AV → Hp → Nat → Option (Fl × S)

/-- What follows where code ends as it should. -/
def onNorm (r : Option (Fl × S)) (f : T AV → Hp → Nat → Option (Fl × S)) : Option (Fl × S) :=
  Option.rec (motive := fun _ => Option (Fl × S)) none (fun p => Prod.rec (motive := fun _ => Option (Fl × S)) (fun e s =>
    Fl.rec (motive := fun _ => Option (Fl × S)) (S.rec (motive := fun _ => Option (Fl × S)) f s) (fun _ => r) r e) p) r

def iterK (g : T AV → Hp → Nat → Option (Fl × S)) (n : Nat) : T AV → Hp → Nat → Option (Fl × S) :=
  Nat.rec (motive := fun _ => T AV → Hp → Nat → Option (Fl × S)) (fun _ _ _ => none) (fun _ ih tm h nx => onNorm (g tm h nx) ih) n

def codeK (N L : Nat) : Code → K Cod
  | .skip => ⟨fun _ tm h nx => some (.norm, ⟨tm, h, nx⟩)⟩
  | .region _ ops draw => bif draw then ⟨fun call tm h nx => ob (drawRunF P call N ops tm h nx) fun s => some (.norm, s)⟩
    else ⟨fun call tm h nx => ob ((runK P N ops ops.toList).run call tm h nx) fun s => some (.norm, s)⟩
  | .seq a b => ⟨fun call tm h nx => onNorm ((codeK N L a).run call tm h nx) ((codeK N L b).run call)⟩
  | .cond c x y => ⟨fun call tm h nx => ob ((opK c).run tm) (onBool fun b => cd b ((codeK N L x).run call tm h nx) ((codeK N L y).run call tm h nx))⟩
  | .block id b => ⟨fun call tm h nx => match (codeK N L b).run call tm h nx with
    | some (.exit i, s) => bif Nat.beq i id then some (.norm, s) else some (.exit i, s)
    | r => r⟩
  | .loop b => ⟨fun call tm h nx => iterK ((codeK N L b).run call) L tm h nx⟩
  | .scope b => codeK N L b
  | .exit id => ⟨fun _ tm h nx => some (.exit id, ⟨tm, h, nx⟩)⟩
  | .label _ => ⟨fun _ tm h nx => some (.norm, ⟨tm, h, nx⟩)⟩
  | .ret => ⟨fun _ tm h nx => some (.ret, ⟨tm, h, nx⟩)⟩
  | _ => ⟨fun _ _ _ _ => none⟩

def resK : List ResultVar → K (T AV → Hp → Option (List (List At × Bool)))
  | [] => ⟨fun _ _ => some []⟩
  | .tmp t :: r => ⟨fun tm h => match (getP 12 t).run tm with
    | some (.at a) => match (resK r).run tm h with
      | some l => some (([a], false) :: l)
      | none => none
    | some (.agg q) => match (resK r).run tm h with
      | some l => some ((q, true) :: l)
      | none => none
    | _ => none⟩
  | .cell a t :: r => ⟨fun tm h => resOf P tm h (.cell a t :: r)⟩

def funK (L f : Nat) : K (CallT → List AV → Hp → Nat → Ro) := match P.funcs[f]? with
  | none => ⟨fun _ _ _ _ => none⟩
  | some fn => match fn.body with
    | none => ⟨fun _ _ _ _ => none⟩
    | some c => ⟨fun call args h nx => bif Nat.ble args.length fn.ntmps then match (codeK P fn.ntmps L c).run call (T.ofList args 0 .leaf) h nx with
      | some (.exit _, _) => none
      | some (_, ⟨tm, h, nx⟩) => match (resK P fn.results.toList).run tm h with
        | some l => match resV l with
          | some v => some (v, h, nx)
          | none => none
        | none => none
      | none => none
      else none⟩

def callK (prim : PrimT) (L : Nat) (d : Nat) : CallT :=
  Nat.rec (motive := fun _ => CallT) (fun _ _ _ _ => none) (fun _ ih f args h nx => match prim f with
    | some q => q ih args h nx
    | none => (funK P L f).run ih args h nx) d

end
end
end Go.Proofs.YtljkldmjakabdaaGreat.Ev

