/- TopCounts by reckoning: the code of TopCounts, taken apart; 'seen[k]++'. -/
import Derived.Test.YtljkldmjakabdaaGreatEtB
namespace Go.Proofs.YtljkldmjakabdaaGreat.Ev
open Go

noncomputable section

def cL : Code → Code
  | .seq a _ => a
  | c => c
def cR : Code → Code
  | .seq _ b => b
  | c => c
def cB : Code → Code
  | .block _ b => b
  | .loop b => b
  | c => c
def cT : Code → Code
  | .cond _ a _ => a
  | c => c
def cOps : Code → Array Oper
  | .region _ ops _ => ops
  | _ => #[]

noncomputable def mainC : Code := match Tryz.prog.funcs[3]? with
  | some f => match f.body with
    | some c => c
    | none => .skip
  | none => .skip

noncomputable def kR0 : Code := cL mainC
noncomputable def kR1 : Code := cL (cR mainC)
noncomputable def kR3 : Code := cL (cR (cR mainC))
noncomputable def kR4 : Code := cL (cR (cR (cR mainC)))
noncomputable def kR5 : Code := cL (cR (cR (cR (cR mainC))))
noncomputable def kLast : Code := cR (cR (cR (cR (cR mainC))))
noncomputable def kR6 : Code := cL (cL kLast)
noncomputable def kLoop1 : Code := cR (cL kLast)
noncomputable def kR21 : Code := cL (cR kLast)
noncomputable def kBody1 : Code := cB (cB kLoop1)
noncomputable def kR7 : Code := cL kBody1
noncomputable def kIf7 : Code := cL (cR kBody1)
noncomputable def kBlk1 : Code := cL (cR (cR kBody1))
noncomputable def kR20 : Code := cR (cR (cR kBody1))
noncomputable def kR8 : Code := cL (cB kBlk1)
noncomputable def kR9 : Code := cL (cR (cB kBlk1))
noncomputable def kR10 : Code := cL (cR (cR (cB kBlk1)))
noncomputable def kLoop2 : Code := cR (cR (cR (cB kBlk1)))
noncomputable def kBody2 : Code := cB (cB kLoop2)
noncomputable def kR11 : Code := cL kBody2
noncomputable def kIf11 : Code := cL (cR kBody2)
noncomputable def kBlk3 : Code := cL (cR (cR kBody2))
noncomputable def kR19 : Code := cR (cR (cR kBody2))
noncomputable def kIn : Code := cB kBlk3
noncomputable def kR12 : Code := cL kIn
noncomputable def kR13 : Code := cL (cR kIn)
noncomputable def kR14 : Code := cL (cR (cR kIn))
noncomputable def kR16 : Code := cL (cR (cR (cR kIn)))
noncomputable def kR17 : Code := cL (cR (cR (cR (cR kIn))))
noncomputable def kIf18 : Code := cR (cR (cR (cR (cR kIn))))
noncomputable def kR18 : Code := cT kIf18
noncomputable def ops18 : Array Oper := cOps kR18
noncomputable def ops21 : Array Oper := cOps kR21

set_option maxRecDepth 100000 in
theorem main_is : mainC = seqs [kR0, kR1, kR3, kR4, kR5] (.seq (.seq kR6 kLoop1) (.seq kR21 .ret)) := by kernel_rfl
set_option maxRecDepth 100000 in
theorem loop1_is : kLoop1 = .block 0 (.loop kBody1) := by kernel_rfl
set_option maxRecDepth 100000 in
theorem body1_is : kBody1 = seqs [kR7, kIf7] (.seq kBlk1 kR20) := by kernel_rfl
set_option maxRecDepth 100000 in
theorem blk1_is : kBlk1 = .block 1 (seqs [kR8, kR9, kR10] kLoop2) := by kernel_rfl
set_option maxRecDepth 100000 in
theorem loop2_is : kLoop2 = .block 2 (.loop kBody2) := by kernel_rfl
set_option maxRecDepth 100000 in
theorem body2_is : kBody2 = seqs [kR11, kIf11] (.seq kBlk3 kR19) := by kernel_rfl
set_option maxRecDepth 100000 in
theorem blk3_is : kBlk3 = .block 3 (seqs [kR12, kR13, kR14, kR16, kR17] kIf18) := by kernel_rfl
set_option maxRecDepth 100000 in
theorem if18_is : kIf18 = .cond (.tmp 59) (.region 18 ops18 false) .skip := by kernel_rfl
set_option maxRecDepth 100000 in
theorem r21_is : kR21 = .region 21 ops21 false := by kernel_rfl

/-! ### What was seen -/
def enc (p : List (List Nat × Nat)) : List (List At × Bool × At) := p.map fun x => ([.str x.1], false, .int .i64 (.ofNat x.2))

def posOf (k : List Nat) : List (List Nat × Nat) → Nat → Option (Nat × Nat)
  | [], _ => none
  | (s, m) :: p, i => if s = k then some (i, m) else posOf k p (i + 1)

theorem findA_enc (k : List Nat) : ∀ (p : List (List Nat × Nat)) (i : Nat), findA [.str k] false (enc p) i = some (match posOf k p i with | some (q, m) => some (q, .int .i64 (.ofNat m)) | none => none) := by
  intro p
  induction p with
  | nil => intro i; rfl
  | cons x p ih =>
    intro i
    obtain ⟨s, m⟩ := x
    have e : enc ((s, m) :: p) = ([.str s], false, .int .i64 (.ofNat m)) :: enc p := rfl
    rw [e]
    simp only [findA, bEq, cond_true, keysEq, strEq_eq, posOf]
    by_cases h : s = k
    · subst h; simp
    · have h' : ¬ k = s := fun e => h e.symm
      simp only [h, h', decide_false, if_false]
      exact ih (i + 1)

theorem posOf_spec (k : List Nat) : ∀ (p : List (List Nat × Nat)) (i : Nat), (posOf k p i = none ∧ k ∉ p.map Prod.fst) ∨ ∃ q m, posOf k p i = some (q, m) ∧ i ≤ q ∧ p[q - i]? = some (k, m) := by
  intro p
  induction p with
  | nil => intro i; exact .inl ⟨rfl, by simp⟩
  | cons x p ih =>
    intro i
    obtain ⟨s, m⟩ := x
    unfold posOf
    by_cases h : s = k
    · subst h; rw [if_pos rfl]; exact .inr ⟨i, m, rfl, Nat.le_refl _, by simp⟩
    · rw [if_neg h]
      rcases ih (i + 1) with ⟨h1, h2⟩ | ⟨q, m', h1, h2, h3⟩
      · refine .inl ⟨h1, ?_⟩
        simp only [List.map_cons, List.mem_cons, not_or]
        exact ⟨fun e => h e.symm, h2⟩
      · exact .inr ⟨q, m', h1, by omega, by rw [show q - i = (q - (i + 1)) + 1 from by omega]; simpa using h3⟩

theorem setNth_enc : ∀ (p : List (List Nat × Nat)) (q : Nat) (s : List Nat) (m : Nat), setNth (enc p) q ([.str s], false, .int .i64 (.ofNat m)) = enc (p.set q (s, m)) := by
  intro p
  induction p with
  | nil => intro q s m; rfl
  | cons x p ih =>
    intro q s m
    cases q with
    | zero => rfl
    | succ q =>
      show _ :: setNth (enc p) q _ = _ :: enc (p.set q (s, m))
      rw [ih]

theorem flat_enc (p : List (List Nat × Nat)) : FlatB (.map (enc p)) := by
  refine flat_map fun e he => ?_
  obtain ⟨x, _, rfl⟩ := List.mem_map.1 he
  exact ⟨fun a ha => by simp at ha; subst ha; rfl, rfl⟩

/-- Seen once more. -/
def bump (p : List (List Nat × Nat)) (k : List Nat) : List (List Nat × Nat) := match posOf k p 0 with
  | some (q, m) => p.set q (k, m + 1)
  | none => p ++ [(k, 1)]

noncomputable def hM (p : List (List Nat × Nat)) : Hp := T.of [(0, .map (enc p))]
theorem hM_get (p : List (List Nat × Nat)) : (hM p).get 0 = some (.map (enc p)) := rfl

noncomputable def noCall : CallT := fun _ _ _ _ => none
theorem noCall_ok : CallOk Tryz.prog noCall := by intro f args h nx v h' nx' he; cases he

set_option maxRecDepth 100000 in
theorem look18 (p : List (List Nat × Nat)) (k : List Nat) (nx : Nat) {o : Oper} (ho : o.op = .lookup 23 (.tmp 60) (.tmp 62) false) :
    stepOp Tryz.prog noCall o (T.of [(60, .at (.mp 0)), (62, .at (.str k))]) (hM p) nx = some (.at (match posOf k p 0 with | some (_, m) => .int .i64 (.ofNat m) | none => .int .i64 0), hM p, nx) := by
  have h60 : (T.of [(60, AV.at (.mp 0)), (62, .at (.str k))]).get 60 = some (.at (.mp 0)) := rfl
  have h62 : (T.of [(60, AV.at (.mp 0)), (62, .at (.str k))]).get 62 = some (.at (.str k)) := rfl
  have hz : tZero1 Tryz.prog 3 = some (.int .i64 0) := by kernel_rfl
  have hk : keyOk Tryz.prog 9 (.at (.str k)) = true := by simp [keyOk, Tryz.underlying9]
  simp only [stepOp, kdOf, readOp, ho, opnd, h60, h62, Tryz.underlying23, hk, cond_true, hM_get, cellsOf, isAggV, findA_enc, hz]
  cases posOf k p 0 with
  | none => rfl
  | some x => obtain ⟨q, m⟩ := x; rfl

set_option maxRecDepth 100000 in
theorem add18 (m : Nat) (hm : m < 100000) (h : Hp) (nx : Nat) {o : Oper} {t t' : Nat} (ho : o.op = .binOp .add t (.tmp 63) (.const (.int .i64 1)) t') :
    stepOp Tryz.prog noCall o (T.of [(63, .at (.int .i64 (.ofNat m)))]) h nx = some (.at (.int .i64 (.ofNat (m + 1))), h, nx) := by
  have h63 : (T.of [(63, AV.at (.int .i64 (.ofNat m)))]).get 63 = some (.at (.int .i64 (.ofNat m))) := rfl
  have hb : Nat.blt (m + 1) 9223372036854775808 = true := by rw [blt_dec]; simp; omega
  simp only [stepOp, kdOf, readOp, pureOp, ho, opnd, h63, avOf, atOf, Option.map_some, binA, kEq, cond_true, iBin]
  have e : (Int.ofNat m + 1) = Int.ofNat (m + 1) := rfl
  rw [e]
  simp only [wr, hiOf, hb, cond_true]

/-- Once more. -/
def oneMore (p : List (List Nat × Nat)) (k : List Nat) : At := match posOf k p 0 with
  | some (_, m) => .int .i64 (.ofNat (m + 1))
  | none => .int .i64 (.ofNat 1)

set_option maxRecDepth 100000 in
theorem upd18 (p : List (List Nat × Nat)) (k : List Nat) (nx : Nat) {o : Oper} (ho : o.op = .mapUpdate 23 (.tmp 60) (.tmp 62) (.tmp 64)) :
    stepOp Tryz.prog noCall o (T.of [(60, .at (.mp 0)), (62, .at (.str k)), (64, .at (oneMore p k))]) (hM p) nx = some (.tup [], (hM p).set 0 (.map (enc (bump p k))), nx) := by
  generalize hv : oneMore p k = v
  have h60 : (T.of [(60, AV.at (.mp 0)), (62, .at (.str k)), (64, .at v)]).get 60 = some (.at (.mp 0)) := rfl
  have h62 : (T.of [(60, AV.at (.mp 0)), (62, .at (.str k)), (64, .at v)]).get 62 = some (.at (.str k)) := rfl
  have h64 : (T.of [(60, AV.at (.mp 0)), (62, .at (.str k)), (64, .at v)]).get 64 = some (.at v) := rfl
  have hk : keyOk Tryz.prog 9 (.at (.str k)) = true := by simp [keyOk, Tryz.underlying9]
  simp only [stepOp, kdOf, effOp, ho, opnd, h60, h62, h64, Tryz.underlying23, hk, hM_get, cellsOf, isAggV, findA_enc]
  unfold oneMore at hv
  unfold bump
  rcases posOf_spec k p 0 with ⟨h1, h2⟩ | ⟨q, m, h1, h2, h3⟩
  · rw [h1] at hv ⊢
    subst hv
    simp [enc]
  · rw [h1] at hv ⊢
    subst hv
    have hq : (enc p)[q]? = some ([.str k], false, .int .i64 (.ofNat m)) := by
      rw [Nat.sub_zero] at h3
      simp [enc, h3]
    simp only [hq]
    rw [setNth_enc]

end
end Go.Proofs.YtljkldmjakabdaaGreat.Ev

