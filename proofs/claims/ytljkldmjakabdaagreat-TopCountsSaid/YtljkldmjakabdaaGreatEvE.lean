/- TopCounts by reckoning: the evaluator: what needs no memory, what reads it, what makes a block, what acts. -/
import Derived.Test.YtljkldmjakabdaaGreatEvT
namespace Go.Proofs.YtljkldmjakabdaaGreat.Ev
open Go

noncomputable section

def atOf : Value → Option At
  | .bool b => some (.bool b)
  | .int k n => some (.int k n)
  | .string s => some (.str (strL s))
  | .pointer none => some .nilp
  | .slice none 0 0 => some .nils
  | .map none => some .nilm
  | .nilFunc => some .nilf
  | .nilIface => some .nili
  | _ => none

def atsOf : List Value → Option (List At)
  | [] => some []
  | v :: l => match atOf v, atsOf l with
    | some a, some r => some (a :: r)
    | _, _ => none

def avOf : Value → Option AV
  | .agg cs => (atsOf cs.toList).map .agg
  | v => (atOf v).map .at

section
variable (P : Program)

def tSize (t : Nat) : Option Nat := (P.info? t).map (·.size)
def tAgg (t : Nat) : Option Bool := match P.underlying t with
  | some (.struct _) | some (.array ..) => some true
  | some _ => some false
  | none => none
def tElem (t : Nat) : Option Nat := match P.underlying t with
  | some (.slice e) => some e
  | some (.array _ e) => some e
  | _ => none
def tZero (t : Nat) : Option (List At) := (P.info? t).bind fun i => i.zero.bind fun v => atsOf v.cells.toList
/-- A nought of one cell. -/
def tZero1 (t : Nat) : Option At := (P.info? t).bind fun i => i.zero.bind atOf
def tField (s f : Nat) : Option Nat := match P.underlying s with
  | some (.struct fs) => (fs[f]?).bind fun x => (P.info? x.type).bind fun i => bif Nat.beq i.size 0 then none else some x.offset
  | _ => none
def tFieldSize (s f : Nat) : Option (Nat × Nat) := match P.underlying s with
  | some (.struct fs) => (fs[f]?).bind fun x => (P.info? x.type).map fun i => (x.offset, i.size)
  | some (.array _ e) => (P.info? e).map fun i => (f * i.size, i.size)
  | _ => none

/-- All parts' types are known. -/
def tOk (t : Nat) : Bool := match P.underlying t with
  | some (.struct fs) => fs.toList.all fun f => (P.info? f.type).isSome
  | some (.array _ e) => (P.info? e).isSome
  | _ => false
def tBytes (t : Nat) : Option Nat := (P.info? t).map (·.bytes)

def opnd (tm : T AV) : Operand → Option AV
  | .tmp t => tm.get t
  | .const v => avOf v
  | .global _ => none
  | .func f => some (.at (.fn0 f))

def rd (h : Hp) (b o : Nat) : Option At := match h.get b with
  | some (.cells t _ _) => t.get o
  | _ => none

def rdTs (t : T At) : Nat → Nat → Option (List At)
  | _, 0 => some []
  | o, n + 1 => match t.get o with
    | some a => match rdTs t (o + 1) n with | some l => some (a :: l) | none => none
    | none => none

def rdN (h : Hp) (b o n : Nat) : Option (List At) := match h.get b with
  | some (.cells t _ _) => rdTs t o n
  | _ => none

def wrTs (t : T At) : Nat → List At → T At
  | _, [] => t
  | o, a :: l => wrTs (t.set o a) (o + 1) l

def wrN (h : Hp) (b o : Nat) (l : List At) : Option Hp := match h.get b with
  | some (.cells t n ty) => bif Nat.ble (o + l.length) n then some (h.set b (.cells (wrTs t o l) n ty)) else none
  | _ => none

def cellsOf : AV → Option (List At)
  | .at a => some [a]
  | .agg l => some l
  | .tup _ => none

def back (isAgg : Bool) (l : List At) : Option AV := bif isAgg then some (.agg l) else match l with
  | [a] => some (.at a)
  | _ => none

/-- fills cells -/
def fillA (place : Nat → Option (Nat × Nat)) (n : Nat) (tm : T AV) : List (Nat × Operand) → T At → Option (T At)
  | [], t => some t
  | (i, x) :: r, t => match place i, (opnd tm x).bind cellsOf with
    | some (off, size), some l => bif Nat.beq l.length size then bif Nat.ble (off + size) n then fillA place n tm r (wrTs t off l) else none else none
    | _, _ => none

def hiOf : IntKind → Nat
  | .i8 => 128 | .i16 => 32768 | .i32 => 2147483648 | .i64 => 9223372036854775808
  | .u8 => 256 | .u16 => 65536 | .u32 => 4294967296 | .u64 => 18446744073709551616

/-- The kind's number. -/
def wr (k : IntKind) : Int → Int
  | .ofNat n => bif Nat.blt n (hiOf k) then .ofNat n else k.wrap (.ofNat n)
  | .negSucc n => k.wrap (.negSucc n)

def iLt : Int → Int → Bool
  | .ofNat a, .ofNat b => Nat.blt a b
  | a, b => decide (a < b)

def iEq : Int → Int → Bool
  | .ofNat a, .ofNat b => Nat.beq a b
  | .negSucc a, .negSucc b => Nat.beq a b
  | _, _ => false

def bitsOf : IntKind → Nat
  | .i8 => 8 | .i16 => 16 | .i32 => 32 | .i64 => 64 | .u8 => 8 | .u16 => 16 | .u32 => 32 | .u64 => 64

def minN (a b : Nat) : Nat := bif Nat.ble a b then a else b

def iBin (op : BinOp) (k : IntKind) (a b : Int) : Option At :=
  match op with
  | .add => some (.int k (wr k (a + b)))
  | .sub => some (.int k (wr k (a - b)))
  | .mul => some (.int k (wr k (a * b)))
  | .quo => bif iEq b 0 then none else some (.int k (wr k (a.tdiv b)))
  | .rem => bif iEq b 0 then none else some (.int k (a.tmod b))
  | .and => match a, b with | .ofNat x, .ofNat y => some (.int k (wr k (.ofNat (Nat.land x y)))) | _, _ => none
  | .or => match a, b with | .ofNat x, .ofNat y => some (.int k (wr k (.ofNat (Nat.lor x y)))) | _, _ => none
  | .xor => match a, b with | .ofNat x, .ofNat y => some (.int k (wr k (.ofNat (Nat.xor x y)))) | _, _ => none
  | .andNot => some (.int k (k.wrap (BitVec.ofInt k.bits a &&& ~~~(BitVec.ofInt k.bits b)).toNat))
  | .eql => some (.bool (iEq a b))
  | .neq => some (.bool (!(iEq a b)))
  | .lss => some (.bool (iLt a b))
  | .leq => some (.bool (!(iLt b a)))
  | .gtr => some (.bool (iLt b a))
  | .geq => some (.bool (!(iLt a b)))
  | .shl => match a, b with | .ofNat x, .ofNat n => some (.int k (wr k (.ofNat (x * 2 ^ (minN n (bitsOf k)))))) | _, _ => none
  | .shr => match a, b with | .ofNat x, .ofNat n => some (.int k (.ofNat (x / 2 ^ (minN n (bitsOf k))))) | _, _ => none

def kEq : IntKind → IntKind → Bool
  | .i8, .i8 | .i16, .i16 | .i32, .i32 | .i64, .i64 | .u8, .u8 | .u16, .u16 | .u32, .u32 | .u64, .u64 => true
  | _, _ => false

def strEq : List Nat → List Nat → Bool
  | [], [] => true
  | a :: l, b :: r => bif Nat.beq a b then strEq l r else false
  | _, _ => false

/-- Alike, as values of a type. -/
def eqT (d : Option TypeDesc) : At → At → Option Bool
  | .str a, .str b => some (strEq a b)
  | .bool a, .bool b => match d with | some .bool => some (a == b) | _ => none
  | .nilp, .nilp => match d with | some (.pointer _) => some true | _ => none
  | .ptr .., .nilp => match d with | some (.pointer _) => some false | _ => none
  | .nilp, .ptr .. => match d with | some (.pointer _) => some false | _ => none
  | .ptr b o, .ptr b' o' => match d with
    | some (.pointer e) => match tSize P e with
      | some (_ + 1) => bif Nat.beq b b' then some (Nat.beq o o') else none
      | _ => none
    | _ => none
  | .nils, .nils => match d with | some (.slice _) => some true | _ => none
  | .slc .., .nils => match d with | some (.slice _) => some false | _ => none
  | .nils, .slc .. => match d with | some (.slice _) => some false | _ => none
  | _, _ => none

def binA (op : BinOp) (t : Nat) : At → At → Option At
  | .int k a, .int k' b => match op with
    | .shl | .shr => iBin op k a b
    | _ => bif kEq k k' then iBin op k a b else none
  | x, y => match op with
    | .eql => (eqT P (P.underlying t) x y).map .bool
    | .neq => (eqT P (P.underlying t) x y).map fun b => .bool (!b)
    | _ => none

def optInt (tm : T AV) : Option Operand → Nat → Option Nat
  | none, d => some d
  | some x, _ => match opnd tm x with
    | some (.at (.int _ (.ofNat n))) => some n
    | _ => none

/-- A map's keys: numbers, strings, rows of numbers. -/
def keysEq : List At → List At → Option Bool
  | [], [] => some true
  | .int k a :: l, .int k' b :: r => bif kEq k k' then (match keysEq l r with
    | some t => some (iEq a b && t)
    | none => none) else none
  | [.str a], [.str b] => some (strEq a b)
  | _, _ => none

def szIs (e z : Nat) : Bool := match tSize P e with
  | some s => Nat.beq s z
  | none => false

def slcA (b o m z : Nat) (ex : Bool) : Option Nat → Option Nat → Option AV
  | some h, some lo => bif Nat.ble h m then bif Nat.ble lo h then some (.at (.slc b (o + lo * z) (h - lo) (m - lo) z ex)) else none else none
  | _, _ => none

/-- Only what needs no memory. -/
def pureOp (o : Oper) (tm : T AV) : Option AV :=
  match o.op with
  | .move x | .assign x => opnd tm x
  | .pick c a b => match opnd tm c with
    | some (.at (.bool t)) => bif t then opnd tm a else opnd tm b
    | _ => none
  | .build t parts => bif tOk P t then match tZero P t with
    | some z => match fillA (tFieldSize P t) z.length tm parts.toList (T.ofList z 0 .leaf) with
      | some c => match rdTs c 0 z.length with | some l => some (.agg l) | none => none
      | none => none
    | none => none
    else none
  | .nilCheck x => match opnd tm x with
    | some (.at (.ptr b o)) => some (.at (.ptr b o))
    | _ => none
  | .binOp op t x y _ => match opnd tm x, opnd tm y with
    | some (.at a), some (.at b) => match binA P op t a b with | some r => some (.at r) | none => none
    | _, _ => none
  | .unOp op _ x => match op, opnd tm x with
    | .not, some (.at (.bool b)) => some (.at (.bool (!b)))
    | .neg, some (.at (.int k n)) => some (.at (.int k (wr k (0 - n))))
    | .xor, some (.at (.int k n)) => some (.at (.int k (k.wrap (BitVec.ofInt k.bits (if k.signed then -1 else k.max) ^^^ BitVec.ofInt k.bits n).toNat)))
    | _, _ => none
  | .convert src dst x => match P.underlying src, P.underlying dst, opnd tm x with
    | some (.int _), some (.int k), some (.at (.int _ n)) => some (.at (.int k (wr k n)))
    | _, _, _ => none
  | .makeFunc (.func f) first captured => match captured.toList, first.toList with
    | [], [x] => match opnd tm x with
      | some (.at (.ptr b o)) => some (.at (.fn f b o))
      | _ => none
    | _, _ => none
  | .fieldAddr s x f => match tField P s f, opnd tm x with
    | some d, some (.at (.ptr b o)) => some (.at (.ptr b (o + d)))
    | _, _ => none
  | .indexAddr t x ix => match opnd tm ix, P.underlying t, opnd tm x with
    | some (.at (.int _ (.ofNat i))), some (.slice e), some (.at (.slc b o l _ z _)) => bif szIs P e z then bif Nat.blt i l then some (.at (.ptr b (o + i * z))) else none else none
    | some (.at (.int _ (.ofNat i))), some (.array l e), some (.at (.ptr b o)) => match tSize P e with
      | some s => bif Nat.blt i l then some (.at (.ptr b (o + i * s))) else none
      | none => none
    | _, _, _ => none
  | .index t x ix => match opnd tm ix, P.underlying t, opnd tm x with
    | some (.at (.int _ (.ofNat i))), some (.array l e), some (.agg cs) => match tAgg P e with
      | some false => bif szIs P e 1 then bif Nat.blt i l then (match cs[i]? with | some r => some (.at r) | none => none) else none else none
      | _ => none
    | some (.at (.int _ (.ofNat i))), some .string, some (.at (.str s)) => match s[i]? with | some n => some (.at (.int .u8 n)) | none => none
    | _, _, _ => none
  | .slice t x lo hi mx => match P.underlying t, opnd tm x with
    | some (.slice e), some (.at (.slc b o l c z ex)) => bif szIs P e z then (match mx, hi with
        | none, hi => slcA b o c z ex (optInt tm hi l) (optInt tm lo 0)
        | some mx, some hi => match optInt tm (some mx) 0 with
          | some m => bif Nat.ble m c then slcA b o m z true (optInt tm (some hi) l) (optInt tm lo 0) else none
          | none => none
        | _, _ => none) else none
    | some (.slice e), some (.at .nils) => match mx, tSize P e, optInt tm hi 0, optInt tm lo 0 with
      | none, some _, some 0, some 0 => some (.at .nils)
      | _, _, _, _ => none
    | _, _ => none
  | .extract t i => match opnd tm t with
    | some (.tup l) => match l[i]? with
      | some (cs, g) => back g cs
      | none => none
    | _ => none
  | .call { callee := .builtin b, args, argTypes } => match b, args.toList with
    | .len, [x] => match (argTypes[0]?).bind P.underlying, opnd tm x with
      | some (.slice _), some (.at (.slc _ _ l _ _ _)) => some (.at (.int .i64 l))
      | some (.slice _), some (.at .nils) => some (.at (.int .i64 0))
      | some .string, some (.at (.str s)) => some (.at (.int .i64 s.length))
      | _, _ => none
    | .cap, [x] => match (argTypes[0]?).bind P.underlying, opnd tm x with
      | some (.slice _), some (.at (.slc _ _ _ c _ true)) => some (.at (.int .i64 c))
      | some (.slice _), some (.at .nils) => some (.at (.int .i64 0))
      | _, _ => none
    | .min, [x, y] => match opnd tm x, opnd tm y with
      | some (.at (.int k a)), some (.at (.int _ b)) => some (.at (.int k (bif iLt b a then b else a)))
      | _, _ => none
    | .max, [x, y] => match opnd tm x, opnd tm y with
      | some (.at (.int k a)), some (.at (.int _ b)) => some (.at (.int k (bif iLt a b then b else a)))
      | _, _ => none
    | _, _ => none
  | _ => none

def bytesOk : List Nat → Bool
  | [] => true
  | n :: l => bif Nat.blt n 256 then bytesOk l else false

/-- A key's type is a pair of numbers. -/
def pairOk (t : Nat) : Bool := match P.underlying t with
  | some (.struct fs) => match fs.toList with
    | [f, g] => (match P.underlying f.type, P.underlying g.type with
      | some (.int _), some (.int _) => bif Nat.beq f.offset 0 then bif Nat.beq g.offset 1 then bif f.name == "_" then false else bif g.name == "_" then false else !P.stoodInHeld t else false else false
      | _, _ => false)
    | _ => false
  | _ => false

/-- A key of a kind that is known: a string, or a pair of numbers. -/
def keyOk (t : Nat) (v : AV) : Bool := match P.underlying t, v with
  | some .string, .at (.str _) => true
  | some (.struct _), .agg [.int _ _, .int _ _] => pairOk P t
  | _, _ => false

def bytesOfAts : List At → Option (List Nat)
  | [] => some []
  | .int .u8 (.ofNat n) :: l => (bytesOfAts l).map (n :: ·)
  | _ => none

def bEq : Bool → Bool → Bool
  | true, true => true
  | false, false => true
  | _, _ => false

def findA (k : List At) (g : Bool) : List (List At × Bool × At) → Nat → Option (Option (Nat × At))
  | [], _ => some none
  | (k', g', v) :: l, i => bif bEq g g' then (match keysEq k k' with
    | some true => some (some (i, v))
    | some false => findA k g l (i + 1)
    | none => none) else none

def isAggV : AV → Bool
  | .agg _ => true
  | _ => false

/-- What reads memory and leaves it. -/
def readOp (o : Oper) (tm : T AV) (h : Hp) : Option AV :=
  match o.op with
  | .slice t x lo hi mx => match P.underlying t, opnd tm x, mx with
    | some (.array n e), some (.at (.ptr b o)), none => match optInt tm hi n, optInt tm lo 0, tSize P e, h.get b with
      | some hh, some lo, some s, some (.cells _ bn _) => bif Nat.ble hh n then bif Nat.ble lo hh then bif Nat.ble (o + n * s) bn then some (.at (.slc b (o + lo * s) (hh - lo) (n - lo) s true)) else none else none else none
      | _, _, _, _ => none
    | _, _, _ => pureOp P o tm
  | .load t x => match opnd tm x, tAgg P t with
    | some (.at (.ptr b o)), some false => match rd h b o with
      | some y => some (.at y)
      | none => none
    | some (.at (.ptr b o)), some true => match tSize P t with
      | some n => match rdN h b o n with
        | some l => some (.agg l)
        | none => none
      | none => none
    | _, _ => none
  | .convert src dst x => match P.underlying src, P.underlying dst, opnd tm x with
    | some (.slice e), some .string, some (.at (.slc b o l _ _ _)) => match P.underlying e, rdN h b o l with
      | some (.int .u8), some cs => match bytesOfAts cs with
        | some s => bif bytesOk s then some (.at (.str s)) else none
        | none => none
      | _, _ => none
    | some (.slice e), some .string, some (.at .nils) => match P.underlying e with
      | some (.int .u8) => some (.at (.str []))
      | _ => none
    | _, _, _ => pureOp P o tm
  | .lookup t x ix false => match P.underlying t, opnd tm x, opnd tm ix with
    | some (.map k e), some (.at (.mp b)), some kv => bif keyOk P k kv then match h.get b, cellsOf kv with
      | some (.map l), some k => match findA k (isAggV kv) l 0 with
        | some (some (_, v)) => some (.at v)
        | some none => match tZero1 P e with
          | some z => some (.at z)
          | none => none
        | none => none
      | _, _ => none
      else none
    | _, _, _ => none
  | .call { callee := .builtin .len, args, argTypes } => match args.toList, (argTypes[0]?).bind P.underlying with
    | [x], some (.map ..) => match opnd tm x with
      | some (.at (.mp b)) => match h.get b with
        | some (.map l) => some (.at (.int .i64 l.length))
        | _ => none
      | _ => none
    | _, _ => pureOp P o tm
  | _ => pureOp P o tm

def setNth {α : Type} : List α → Nat → α → List α
  | [], _, _ => []
  | _ :: l, 0, x => x :: l
  | a :: l, n + 1, x => a :: setNth l n x

def reps (z : List At) : Nat → List At
  | 0 => []
  | n + 1 => z ++ reps z n

/-- What makes one block, and looks at no memory. -/
def allocOp (o : Oper) (tm : T AV) (nx : Nat) : Option (AV × Blk) :=
  match o.op with
  | .alloc t => match tZero P t with
    | some z => some (.at (.ptr nx 0), .cells (T.ofList z 0 .leaf) z.length (.var t))
    | none => none
  | .box t x => match opnd tm x with
    | some v => match cellsOf v with
      | some l => some (.at (.ptr nx 0), .cells (T.ofList l 0 .leaf) l.length (.var t))
      | none => none
    | none => none
  | .buildSlice t len parts => match P.underlying t with
    | some (.slice e) => match tSize P e, tZero P e with
      | some s, some z => bif Nat.beq z.length s then bif Nat.blt (len * s) 10000 then match fillA (fun i => some (i * s, s)) (len * s) tm parts.toList (T.ofList (reps z len) 0 .leaf) with
        | some c => some (.at (.slc nx 0 len len s true), .cells c (len * s) (.var e))
        | none => none
        else none else none
      | _, _ => none
    | _ => none
  | .makeMap _ none => some (.at (.mp nx), .map [])
  | .makeSlice t l c => match P.underlying t, opnd tm l, opnd tm c with
    | some (.slice e), some (.at (.int .i64 (.ofNat l))), some (.at (.int .i64 (.ofNat c))) => match tSize P e, tZero P e, tBytes P e with
      | some s, some z, some y => bif Nat.beq z.length s then bif Nat.ble l c then bif Nat.blt c 10000 then bif Nat.ble y 1000 then some (.at (.slc nx 0 l c s true), .cells (T.ofList (reps z c) 0 .leaf) (c * s) (.var e)) else none else none else none else none
      | _, _, _ => none
    | _, _, _ => none
  | _ => none

abbrev CallT := Nat → List AV → Hp → Nat → Option (AV × Hp × Nat)

def opnds (tm : T AV) : List Operand → Option (List AV)
  | [] => some []
  | x :: l => match opnd tm x, opnds tm l with
    | some v, some r => some (v :: r)
    | _, _ => none

/-- What is appended: how many elements, and their cells. -/
def newsOf (h : Hp) (z : Nat) : At → Option (Nat × List At)
  | .slc b o l _ _ _ => match rdN h b o (l * z) with
    | some cs => some (l, cs)
    | none => none
  | _ => none

/-- The kind of the row that is longer. -/
def tyOn (h : Hp) (b o e : Nat) : Ty := match h.get b with
  | some (.cells _ _ (.row x)) => bif Nat.beq x e then (bif Nat.beq o 0 then .row e else .no) else .no
  | some (.cells _ _ (.var x)) => bif Nat.beq x e then (bif Nat.beq o 0 then .row e else .no) else .no
  | _ => .no

def appendA (h : Hp) (nx e z : Nat) (sv : At) (n : Nat) (cs : List At) : Option (AV × Hp × Nat) :=
  match sv with
  | .nils => bif Nat.beq n 0 then some (.at .nils, h, nx) else bif Nat.blt n 10000 then some (.at (.slc nx 0 n n z false), h.set nx (.cells (T.ofList cs 0 .leaf) (n * z) (.row e)), nx + 1) else none
  | .slc b o l c z' ex => bif Nat.beq z z' then
      bif Nat.ble (l + n) c then match wrN h b (o + l * z) cs with
        | some h' => some (.at (.slc b o (l + n) c z ex), h', nx)
        | none => none
      else bif Nat.blt (l + n) 10000 then match rdN h b o (l * z) with
        | some old => some (.at (.slc nx 0 (l + n) (l + n) z false), (bif ex then h else h.erase b).set nx (.cells (T.ofList (old ++ cs) 0 .leaf) ((l + n) * z) (tyOn h b o e)), nx + 1)
        | none => none
        else none
      else none
  | _ => none

/-- Less is known of a row that has been marked. -/
def weak : Ty → Ty
  | .var e => .row e
  | t => t

/-- What acts. -/
def effOp (call : CallT) (o : Oper) (tm : T AV) (h : Hp) (nx : Nat) : Option (AV × Hp × Nat) :=
  match o.op with
  | .store t x v => match opnd tm x, (opnd tm v).bind cellsOf, tSize P t with
    | some (.at (.ptr b o)), some l, some s => bif Nat.beq l.length s then match wrN h b o l with
        | some h' => some (.tup [], h', nx)
        | none => none
      else none
    | _, _, _ => none
  | .convert src dst x => match P.underlying src, P.underlying dst, opnd tm x with
    | some (.slice e), some (.slice _), some (.at (.slc b o l c z ex)) => bif Nat.beq src dst then match P.underlying e with
        | some (.int .u8) => bif Nat.beq z 1 then match h.get b with
            | some (.cells t n ty) => some (.at (.slc b o l c z ex), h.set b (.cells t n (weak ty)), nx)
            | _ => none
          else none
        | _ => none
      else none
    | _, _, _ => none
  | .mapUpdate t m k v => match opnd tm m, opnd tm k, opnd tm v with
    | some (.at (.mp b)), some kv, some (.at a) => match (match P.underlying t with | some (.map kt _) => keyOk P kt kv | _ => false), h.get b, cellsOf kv with
      | true, some (.map l), some k => match findA k (isAggV kv) l 0 with
        | some (some (i, _)) => match l[i]? with
          | some (k', g, _) => some (.tup [], h.set b (.map (setNth l i (k', g, a))), nx)
          | none => none
        | some none => some (.tup [], h.set b (.map (l ++ [(k, isAggV kv, a)])), nx)
        | none => none
      | _, _, _ => none
    | _, _, _ => none
  | .mapEntry t m k => match P.underlying t, opnd tm m, opnd tm k with
    | some (.map kt e), some (.at (.mp b)), some kv => match keyOk P kt kv, h.get b, cellsOf kv, tZero1 P e with
      | true, some (.map l), some k, some z => match findA k (isAggV kv) l 0 with
        | some (some (i, v)) => some (.tup [([v], false), ([.int .i64 i], false)], h, nx)
        | some none => some (.tup [([z], false), ([.int .i64 l.length], false)], h.set b (.map (l ++ [(k, isAggV kv, z)])), nx)
        | none => none
      | _, _, _, _ => none
    | _, _, _ => none
  | .entryStore _ m s v => match opnd tm m, opnd tm s, opnd tm v with
    | some (.at (.mp b)), some (.at (.int _ (.ofNat i))), some (.at a) => match h.get b with
      | some (.map l) => match l[i]? with
        | some (k, g, _) => some (.tup [], h.set b (.map (setNth l i (k, g, a))), nx)
        | none => none
      | _ => none
    | _, _, _ => none
  | .call { callee := .builtin b, args, argTypes } => match b, args.toList with
    | .append, [s, x] => match argTypes.toList with
      | [t, t'] => bif Nat.beq t t' then match P.underlying t, opnd tm s, opnd tm x with
        | some (.slice e), some (.at sv), some (.at xv) => match tSize P e, tZero P e, tBytes P e with
          | some z, some zl, some y => bif Nat.beq zl.length z then bif Nat.ble y 1000 then match newsOf h z xv with
            | some (n, cs) => appendA h nx e z sv n cs
            | none => none
            else none else none
          | _, _, _ => none
        | _, _, _ => none
        else none
      | _ => none
    | .copy, [d, s] => match argTypes.toList with
      | t :: _ => match P.underlying t, opnd tm d, opnd tm s with
        | some (.slice e), some (.at (.slc b o l _ z _)), some (.at (.slc b' o' l' _ _ _)) => bif szIs P e z then match rdN h b' o' (Nat.min l' l * z) with
            | some cs => match wrN h b o cs with
              | some h' => some (.at (.int .i64 (Nat.min l' l)), h', nx)
              | none => none
            | none => none
          else none
        | some (.slice e), some (.at (.slc b o l _ z _)), some (.at .nils) => bif szIs P e z then some (.at (.int .i64 0), h, nx) else none
        | _, _, _ => none
      | _ => none
    | .clear, [x] => match argTypes.toList with
      | t :: _ => match P.underlying t, opnd tm x with
        | some (.slice e), some (.at (.slc b o l _ z' _)) => match tZero P e with
          | some z => bif Nat.beq z.length z' then match wrN h b o (reps z l) with
              | some h' => some (.tup [], h', nx)
              | none => none
            else none
          | none => none
        | _, _ => none
      | _ => none
    | _, _ => none
  | .call { callee := .value f, args, .. } => match opnds tm args.toList with
    | some vs => match f with
      | .func g => call g vs h nx
      | f => match opnd tm f with
        | some (.at (.fn g b o)) => call g (.at (.ptr b o) :: vs) h nx
        | some (.at (.fn0 g)) => call g vs h nx
        | _ => none
    | none => none
  | _ => none

/-- What kind of operation it is. -/
inductive Kd where | read | alloc | eff

def kdOf (o : Oper) : Kd :=
  match o.op with
  | .alloc _ | .box .. | .buildSlice .. | .makeMap .. | .makeSlice .. => .alloc
  | .store .. | .mapUpdate .. | .mapEntry .. | .entryStore .. => .eff
  | .convert src dst _ => bif Nat.beq src dst then .eff else .read
  | .call { callee := .value _, .. } => .eff
  | .call { callee := .builtin .append, .. } => .eff
  | .call { callee := .builtin .copy, .. } => .eff
  | .call { callee := .builtin .clear, .. } => .eff
  | _ => .read

def stepOp (call : CallT) (o : Oper) (tm : T AV) (h : Hp) (nx : Nat) : Option (AV × Hp × Nat) :=
  match kdOf o with
  | .read => match readOp P o tm h with
    | some v => some (v, h, nx)
    | none => none
  | .alloc => match allocOp P o tm nx with
    | some (v, b) => some (v, h.set nx b, nx + 1)
    | none => none
  | .eff => effOp P call o tm h nx

end
end
end Go.Proofs.YtljkldmjakabdaaGreat.Ev

