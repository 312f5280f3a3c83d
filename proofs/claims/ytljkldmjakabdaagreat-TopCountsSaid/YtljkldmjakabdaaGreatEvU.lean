/- TopCounts by reckoning: the functions that are told by hand. -/
import Derived.Test.YtljkldmjakabdaaGreatEvF
namespace Go.Proofs.YtljkldmjakabdaaGreat.Ev
open Go

noncomputable section

/-- (*atomic.Bool).Load -/
def pLoad (_ : CallT) (args : List AV) (h : Hp) (nx : Nat) : Option (AV × Hp × Nat) := match args with
  | [.at (.ptr b o)] => match rd h b o with
    | some (.int .u32 (.ofNat 0)) => some (.at (.bool false), h, nx)
    | some (.int .u32 (.ofNat 1)) => some (.at (.bool true), h, nx)
    | _ => none
  | _ => none

/-- (*sync.Once).doSlow -/
def pSlow (call : CallT) (args : List AV) (h : Hp) (nx : Nat) : Option (AV × Hp × Nat) := match args with
  | [.at (.ptr b o), .at (.fn g b' o')] => match rd h b o, rd h b (o + 1) with
    | some (.int .u32 (.ofNat 0)), some (.int .i32 (.ofNat 0)) => match wrN h b (o + 1) [.int .i32 1] with
      | some h1 => match call g [.at (.ptr b' o')] h1 nx with
        | some (_, h2, nx2) => match rd h2 b (o + 1), wrN h2 b o [.int .u32 1] with
          | some (.int .i32 (.ofNat 1)), some h3 => match wrN h3 b (o + 1) [.int .i32 0] with
            | some h4 => some (.tup [], h4, nx2)
            | none => none
          | _, _ => none
        | none => none
      | none => none
    | _, _ => none
  | _ => none

/-- (*strings.Builder).copyCheck -/
def pCheck (_ : CallT) (args : List AV) (h : Hp) (nx : Nat) : Option (AV × Hp × Nat) := match args with
  | [.at (.ptr b 0)] => match h.get b with
    | some (.cells t 2 (.var e)) => bif Nat.beq e 78 then match t.get 0 with
      | some .nilp => match wrN h b 0 [.ptr b 0] with
        | some h' => some (.tup [], h', nx)
        | none => none
      | some (.ptr b' 0) => bif Nat.beq b b' then some (.tup [], h, nx) else none
      | _ => none
      else none
    | _ => none
  | _ => none

/-- (*strings.Builder).String -/
def pString (_ : CallT) (args : List AV) (h : Hp) (nx : Nat) : Option (AV × Hp × Nat) := match args with
  | [.at (.ptr b 0)] => match h.get b with
    | some (.cells t _ (.var e)) => bif Nat.beq e 78 then match t.get 1 with
      | some (.slc b' 0 (l + 1) _ 1 _) => match h.get b' with
        | some (.cells t' _ (.row e')) => bif Nat.beq e' 5 then match rdTs t' 0 (l + 1) with
          | some cs => match bytesOfAts cs with
            | some s => bif bytesOk s then bif Nat.beq b b' then none else bif Nat.blt l 10000 then some (.at (.str s), h.erase b', nx) else none else none
            | none => none
          | none => none
          else none
        | _ => none
      | some .nils => some (.at (.str []), h, nx)
      | _ => none
      else none
    | _ => none
  | _ => none

/-- slices.Insert of one number -/
def pInsert (_ : CallT) (args : List AV) (h : Hp) (nx : Nat) : Option (AV × Hp × Nat) := match args with
  | [.at sv, .at (.int .i64 (.ofNat i)), .at (.slc b' o' 1 _ 1 _)] => match rd h b' o', h.get b' with
    | some x, some (.cells _ _ (.var _)) => match sv with
      | .slc b o l _ 1 _ => bif Nat.beq b b' then none else match rdN h b o l with
        | some cs => bif Nat.ble i l then bif Nat.blt l 1000 then some (.at (.slc nx 0 (l + 1) (l + 1) 1 false), (h.erase b).set nx (.cells (T.ofList (cs.take i ++ [x] ++ cs.drop i) 0 .leaf) (l + 1) .no), nx + 1) else none else none
        | none => none
      | .nils => match i with
        | 0 => some (.at (.slc nx 0 1 1 1 false), h.set nx (.cells (T.ofList [x] 0 .leaf) 1 .no), nx + 1)
        | _ + 1 => none
      | _ => none
    | _, _ => none
  | _ => none

def prims : PrimT := fun f => bif Nat.beq f 136 then some pLoad else bif Nat.beq f 137 then some pSlow else bif Nat.beq f 55 then some pCheck else bif Nat.beq f 27 then some pString else
  bif Nat.beq f 15 then some pInsert else none

end
end Go.Proofs.YtljkldmjakabdaaGreat.Ev

