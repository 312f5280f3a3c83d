/- TopCounts by reckoning: what is made ready does the same. -/
import Derived.Test.YtljkldmjakabdaaGreatEvX
namespace Go.Proofs.YtljkldmjakabdaaGreat.Ev
open Go

variable {P : Program}

theorem opK_eq (x : Operand) (tm : T AV) : (opK x).run tm = opnd tm x := by
  cases x with
  | tmp t => exact getP_eq _ _ _
  | const v => simp only [opK, opnd]; cases avOf v <;> rfl
  | global g => rfl
  | func f => rfl

theorem opsK_eq (tm : T AV) : ∀ l : List Operand, (opsK l).run tm = opnds tm l := by
  intro l
  induction l with
  | nil => rfl
  | cons x l ih =>
    simp only [opsK, opnds, opK_eq, ih, ob_eq]
    cases opnd tm x with
    | none => rfl
    | some v => cases opnds tm l <;> rfl

theorem rdF_eq (h : Hp) (b o : Nat) : rdF h b o = rd h b o := by
  unfold rdF rd
  cases h.get b with
  | none => rfl
  | some q => cases q <;> rfl

theorem rdTsF_eq (t : T At) : ∀ n o : Nat, rdTsF t o n = rdTs t o n := by
  intro n
  induction n with
  | zero => intro o; rfl
  | succ n ih =>
    intro o
    have e : rdTsF t o (n + 1) = ob (t.get o) fun a => ob (rdTsF t (o + 1) n) fun l => some (a :: l) := rfl
    rw [e, rdTs, ob_eq]
    cases t.get o with
    | none => rfl
    | some a =>
      show ob (rdTsF t (o + 1) n) _ = _
      rw [ih, ob_eq]
      cases rdTs t (o + 1) n <;> rfl

theorem rdNF_eq (h : Hp) (b o n : Nat) : rdNF h b o n = rdN h b o n := by
  unfold rdNF rdN
  cases h.get b with
  | none => rfl
  | some q => cases q with
    | cells t m ty => exact rdTsF_eq t n o
    | map l => rfl

theorem wrTsF_eq : ∀ (l : List At) (t : T At) (o : Nat), wrTsF t o l = wrTs t o l := by
  intro l
  induction l with
  | nil => intro t o; rfl
  | cons a l ih => intro t o; exact ih (t.set o a) (o + 1)

theorem setB_eq (h : Hp) (b n : Nat) (ty : Ty) (t : T At) : setB h b n ty t = some (h.set b (.cells t n ty)) := by cases t <;> rfl

theorem wrNF_eq (h : Hp) (b o : Nat) (l : List At) : wrNF h b o l = wrN h b o l := by
  unfold wrNF wrN
  cases h.get b with
  | none => rfl
  | some q => cases q with
    | cells t n ty =>
      show cd _ (setB h b n ty (wrTsF t o l)) none = _
      rw [cd_eq, setB_eq, wrTsF_eq]; rfl
    | map l => rfl

theorem ltF_eq (a b : Int) : ltF a b = iLt a b := by
  cases a with
  | ofNat x => cases b with
    | ofNat y => rfl
    | negSucc y => rfl
  | negSucc x => rfl

theorem eqF_eq (a b : Int) : eqF a b = iEq a b := by
  cases a with
  | ofNat x => cases b with
    | ofNat y => rfl
    | negSucc y => rfl
  | negSucc x => rfl

theorem addF_eq (k : IntKind) (a b : Int) : addF k (hiOf k) a b = some (.at (.int k (wr k (a + b)))) := by
  cases a with
  | negSucc x => exact intA_eq _ _
  | ofNat x => cases b with
    | negSucc y => exact intA_eq _ _
    | ofNat y =>
      show cd (Nat.ble (Nat.succ (Nat.add x y)) (hiOf k)) (some (.at (.int k (.ofNat (Nat.add x y))))) (intA k (wr k (.ofNat x + .ofNat y))) = _
      have e : (Int.ofNat x + Int.ofNat y) = Int.ofNat (x + y) := rfl
      rw [cd_eq, intA_eq, e]
      cases hb : Nat.ble (Nat.succ (Nat.add x y)) (hiOf k) with
      | false => rfl
      | true =>
        have : wr k (Int.ofNat (x + y)) = Int.ofNat (x + y) := by
          show (bif Nat.ble (Nat.succ (x + y)) (hiOf k) then _ else _) = _
          have hb' : Nat.ble (Nat.succ (x + y)) (hiOf k) = true := hb
          rw [hb']; rfl
        rw [this]; rfl

def mapAt (x : Option At) : Option AV := match x with | some r => some (.at r) | none => none

theorem binK_eq (op : BinOp) (k : IntKind) (a b : Int) : (binK op).run k a b = mapAt (iBin op k a b) := by
  have gen : ∀ op, (match iBin op k a b with
    | some (.int k n) => intA k n
    | some r => some (.at r)
    | none => (none : Option AV)) = mapAt (iBin op k a b) := by
    intro op
    cases hq : iBin op k a b with
    | none => rfl
    | some r =>
      cases r <;> first
        | rfl
        | exact intA_eq _ _
  cases op <;> first
    | exact gen _
    | exact addF_eq k a b
    | exact intA_eq _ _
    | (simp only [binK, eqF_eq, ltF_eq, boolA_eq, boolN_eq]; rfl)

theorem isSh_spec (op : BinOp) (t : Nat) (k k' : IntKind) (a b : Int) : binA P op t (.int k a) (.int k' b) = bif isSh op then iBin op k a b else bif kEq k k' then iBin op k a b else none := by
  cases op <;> rfl

def bin2 (P : Program) (op : BinOp) (t : Nat) : AV → AV → Option AV
  | .at a, .at b => mapAt (binA P op t a b)
  | _, _ => none

theorem binA_no {op : BinOp} {t : Nat} {k : IntKind} {a : Int} {y : At} (hy : ∀ k' b, y ≠ .int k' b) (hb : ∀ q, y ≠ .bool q) (hs : ∀ q, y ≠ .str q) : mapAt (binA P op t (.int k a) y) = none := by
  cases y <;> first
    | exact absurd rfl (hy _ _)
    | exact absurd rfl (hb _)
    | exact absurd rfl (hs _)
    | (cases op <;> rfl)

theorem bin3K_eq (op : BinOp) (t : Nat) (k : IntKind) (a : Int) (y : AV) : (bin3K P op t).run k a y = bin2 P op t (.at (.int k a)) y := by
  cases y with
  | agg l => rfl
  | tup l => rfl
  | «at» y =>
    cases y with
    | int k' b =>
      show cd (cd (isSh op) true (kEq k k')) ((binK op).run k a b) none = mapAt (binA P op t (.int k a) (.int k' b))
      rw [isSh_spec, cd_eq, cd_eq, binK_eq]
      cases isSh op with
      | true => rfl
      | false =>
        simp only [cond_false]
        cases kEq k k' <;> rfl
    | bool q => rfl
    | str q => rfl
    | _ => exact (binA_no (by intro _ _ h; cases h) (by intro _ h; cases h) (by intro _ h; cases h)).symm

theorem bin2K_eq (op : BinOp) (t : Nat) (x y : AV) : (bin2K P op t).run x y = bin2 P op t x y := by
  cases x with
  | agg l => cases y <;> rfl
  | tup l => cases y <;> rfl
  | «at» x =>
    cases x <;> first
      | exact bin3K_eq op t _ _ y
      | (cases y <;> rfl)

theorem onPtr_eq {β : Type} (f : Nat → Nat → Option β) (x : AV) : onPtr f x = match x with | .at (.ptr b o) => f b o | _ => none := by
  cases x with
  | «at» a => cases a <;> rfl
  | agg l => rfl
  | tup l => rfl
theorem onInt_eq {β : Type} (f : IntKind → Int → Option β) (x : AV) : onInt f x = match x with | .at (.int b o) => f b o | _ => none := by
  cases x with
  | «at» a => cases a <;> rfl
  | agg l => rfl
  | tup l => rfl
theorem onBool_eq {β : Type} (f : Bool → Option β) (x : AV) : onBool f x = match x with | .at (.bool b) => f b | _ => none := by
  cases x with
  | «at» a => cases a <;> rfl
  | agg l => rfl
  | tup l => rfl
theorem onSlc_eq {β : Type} (f : Nat → Nat → Nat → Nat → Nat → Bool → Option β) (g : Option β) (x : AV) : onSlc f g x = match x with | .at (.slc b o l c z e) => f b o l c z e | .at .nils => g | _ => none := by
  cases x with
  | «at» a => cases a <;> rfl
  | agg l => rfl
  | tup l => rfl

/-- What is made ready of an operation that needs no memory. -/
theorem pureK_eq {o : Oper} {q : K (T AV → Option AV)} (h : pureK P o = some q) : kdOf o = .read ∧ ∀ tm, q.run tm = pureOp P o tm ∧ ∀ hp, readOp P o tm hp = pureOp P o tm := by
  unfold pureK at h
  split at h
  · rename_i x ho; simp at h; subst h
    exact ⟨by simp [kdOf, ho], fun tm => ⟨by simp [pureOp, ho, opK_eq], fun hp => by simp [readOp, ho]⟩⟩
  · rename_i x ho; simp at h; subst h
    exact ⟨by simp [kdOf, ho], fun tm => ⟨by simp [pureOp, ho, opK_eq], fun hp => by simp [readOp, ho]⟩⟩
  · rename_i c a b ho; simp at h; subst h
    refine ⟨by simp [kdOf, ho], fun tm => ⟨?_, fun hp => by simp [readOp, ho]⟩⟩
    simp only [pureOp, ho, opK_eq]
    cases opnd tm c with
    | none => rfl
    | some v =>
      show onBool _ v = _
      rw [onBool_eq]
      cases v with
      | «at» y => cases y <;> first | rfl | exact cd_eq _ _ _
      | agg l => rfl
      | tup l => rfl
  · rename_i op t x y _ ho; simp at h; subst h
    refine ⟨by simp [kdOf, ho], fun tm => ⟨?_, fun hp => by simp [readOp, ho]⟩⟩
    simp only [pureOp, ho, opK_eq]
    cases opnd tm x with
    | none => rfl
    | some a =>
      cases opnd tm y with
      | none => cases a <;> rfl
      | some b =>
        show (bin2K P op t).run a b = _
        rw [bin2K_eq]
        cases a <;> cases b <;> rfl
  · rename_i t x ho; simp at h; subst h
    refine ⟨by simp [kdOf, ho], fun tm => ⟨?_, fun hp => by simp [readOp, ho]⟩⟩
    simp only [pureOp, ho, opK_eq]
    cases opnd tm x with
    | none => rfl
    | some v =>
      show onBool _ v = _
      rw [onBool_eq]
      cases v with
      | «at» y => cases y <;> first | rfl | exact boolN_eq _
      | agg l => rfl
      | tup l => rfl
  · rename_i x ho; simp at h; subst h
    refine ⟨by simp [kdOf, ho], fun tm => ⟨?_, fun hp => by simp [readOp, ho]⟩⟩
    simp only [pureOp, ho, opK_eq]
    cases opnd tm x with
    | none => rfl
    | some v =>
      show onPtr _ v = _
      rw [onPtr_eq]
      cases v with
      | «at» y => cases y <;> rfl
      | agg l => rfl
      | tup l => rfl
  · rename_i s x f ho
    split at h
    · rename_i d hd; simp at h; subst h
      refine ⟨by simp [kdOf, ho], fun tm => ⟨?_, fun hp => by simp [readOp, ho]⟩⟩
      simp only [pureOp, ho, opK_eq, hd]
      cases opnd tm x with
      | none => rfl
      | some v =>
        show onPtr _ v = _
        rw [onPtr_eq]
        cases v with
        | «at» y => cases y <;> rfl
        | agg l => rfl
        | tup l => rfl
    · cases h
  · rename_i t x ix ho
    split at h
    · rename_i e he; simp at h; subst h
      refine ⟨by simp [kdOf, ho], fun tm => ⟨?_, fun hp => by simp [readOp, ho]⟩⟩
      simp only [pureOp, ho, opK_eq, he]
      cases opnd tm ix with
      | none => rfl
      | some v =>
        show onInt _ v = _
        rw [onInt_eq]
        cases v with
        | agg l => rfl
        | tup l => rfl
        | «at» y =>
          cases y <;> first | rfl | skip
          rename_i k i
          cases i with
          | negSucc i => rfl
          | ofNat i =>
            show ob _ _ = _
            cases opnd tm x with
            | none => rfl
            | some u =>
              show onSlc _ _ u = _
              rw [onSlc_eq]
              cases u with
              | agg l => rfl
              | tup l => rfl
              | «at» u =>
                cases u <;> first | rfl | skip
                simp only [cd_eq]; rfl
    · cases h
  · rename_i t i ho; simp at h; subst h
    refine ⟨by simp [kdOf, ho], fun tm => ⟨?_, fun hp => by simp [readOp, ho]⟩⟩
    simp only [pureOp, ho, opK_eq]
    rfl
  · rename_i src dst x ho
    split at h
    · rename_i k1 k he hd
      simp only [beq_dec] at h
      by_cases hsd : src = dst
      · simp [hsd] at h
      simp only [hsd, decide_false, cond_false, Option.some.injEq] at h
      subst h
      refine ⟨by simp [kdOf, ho, beq_dec, hsd], fun tm => ⟨?_, fun hp => ?_⟩⟩
      · simp only [pureOp, ho, opK_eq, he, hd]
        cases opnd tm x with
        | none => rfl
        | some v =>
          show onInt _ v = _
          rw [onInt_eq]
          cases v with
          | agg l => rfl
          | tup l => rfl
          | «at» y => cases y <;> first | rfl | exact intA_eq _ _
      · simp only [readOp, ho, he, hd]
    · cases h
  · rename_i args ats ho
    split at h
    · rename_i x e hx he; simp at h; subst h
      refine ⟨by simp [kdOf, ho], fun tm => ⟨?_, fun hp => ?_⟩⟩
      · simp only [pureOp, ho, opK_eq, hx, he]
        cases opnd tm x with
        | none => rfl
        | some v =>
          show onSlc _ _ v = _
          rw [onSlc_eq]
          cases v with
          | agg l => rfl
          | tup l => rfl
          | «at» y => cases y <;> rfl
      · simp only [readOp, ho, hx, he]
    · cases h
  · cases h

/-- What is made ready of an operation that reads. -/
theorem readK_eq {o : Oper} {q : K (T AV → Hp → Option AV)} (h : readK P o = some q) : kdOf o = .read ∧ ∀ tm, pureOp P o tm = none ∧ ∀ hp, q.run tm hp = readOp P o tm hp := by
  unfold readK at h
  split at h
  · rename_i t x ho
    split at h
    · rename_i ht; simp at h; subst h
      refine ⟨by simp [kdOf, ho], fun tm => ⟨by simp [pureOp, ho], fun hp => ?_⟩⟩
      simp only [readOp, ho, opK_eq, ht, rdF_eq]
      cases opnd tm x with
      | none => rfl
      | some v =>
        show onPtr _ v = _
        rw [onPtr_eq]
        cases v with
        | agg l => rfl
        | tup l => rfl
        | «at» y =>
          cases y <;> first | rfl | skip
          rename_i b o'
          show ob (rd hp b o') _ = match rd hp b o' with | some y => some (AV.at y) | none => none
          rw [ob_eq]
          cases rd hp b o' <;> rfl
    · rename_i ht
      split at h
      · rename_i n hn; simp at h; subst h
        refine ⟨by simp [kdOf, ho], fun tm => ⟨by simp [pureOp, ho], fun hp => ?_⟩⟩
        simp only [readOp, ho, opK_eq, ht, hn, rdNF_eq]
        cases opnd tm x with
        | none => rfl
        | some v =>
          show onPtr _ v = _
          rw [onPtr_eq]
          cases v with
          | agg l => rfl
          | tup l => rfl
          | «at» y =>
            cases y <;> first | rfl | skip
            rename_i b o'
            show ob (rdN hp b o' n) _ = match rdN hp b o' n with | some l => some (AV.agg l) | none => none
            rw [ob_eq]
            cases rdN hp b o' n <;> rfl
      · cases h
    · cases h
  · cases h

/-- What is made ready of an operation that acts. -/
theorem effK_eq {o : Oper} {q : K (CallT → T AV → Hp → Nat → Ro)} (h : effK P o = some q) : kdOf o = .eff ∧ ∀ call tm hp nx, q.run call tm hp nx = effOp P call o tm hp nx := by
  unfold effK at h
  split at h
  · rename_i t x v ho
    split at h
    · rename_i s hs; simp at h; subst h
      refine ⟨by simp [kdOf, ho], fun call tm hp nx => ?_⟩
      simp only [effOp, ho, opK_eq, hs, wrNF_eq]
      cases opnd tm x with
      | none => rfl
      | some u =>
        show onPtr _ u = _
        rw [onPtr_eq]
        cases u with
        | agg l => rfl
        | tup l => rfl
        | «at» y =>
          cases y <;> first | rfl | skip
          rename_i b o'
          show ob (opnd tm v) _ = _
          cases opnd tm v with
          | none => rfl
          | some z =>
            show ob (cellsOf z) _ = match some (AV.at (.ptr b o')), cellsOf z, some s with | some (.at (.ptr b o)), some l, some s => _ | _, _, _ => _
            cases cellsOf z with
            | none => rfl
            | some l =>
              show cd (Nat.beq l.length s) (ob (wrN hp b o' l) fun h' => some (AV.tup [], h', nx)) none = bif Nat.beq l.length s then match wrN hp b o' l with | some h' => some (AV.tup [], h', nx) | none => none else none
              rw [cd_eq, ob_eq]
              cases wrN hp b o' l <;> rfl
    · cases h
  · rename_i g args ats ho; simp at h; subst h
    refine ⟨by simp [kdOf, ho], fun call tm hp nx => ?_⟩
    simp only [effOp, ho, opsK_eq, ob_eq]
    cases opnds tm args.toList <;> rfl
  · cases h

theorem pureF_eq (o : Oper) (tm : T AV) : pureF P o tm = pureOp P o tm := by
  unfold pureF
  split
  · rename_i q hq; exact ((pureK_eq hq).2 tm).1
  · rfl
theorem readF_eq (o : Oper) (tm : T AV) (h : Hp) : readF P o tm h = readOp P o tm h := by
  unfold readF
  split
  · rename_i q hq; exact ((readK_eq hq).2 tm).2 h
  · rfl
theorem effF_eq (call : CallT) (o : Oper) (tm : T AV) (h : Hp) (nx : Nat) : effF P call o tm h nx = effOp P call o tm h nx := by
  unfold effF
  split
  · rename_i q hq; exact (effK_eq hq).2 call tm h nx
  · rfl

theorem stepK_eq (call : CallT) (o : Oper) (tm : T AV) (h : Hp) (nx : Nat) : (stepK P o).run call tm h nx = stepOp P call o tm h nx := by
  unfold stepK
  split
  · rename_i q hq
    obtain ⟨h1, h2⟩ := pureK_eq hq
    simp only [stepOp, h1, (h2 tm).1, (h2 tm).2 h, ob_eq]
    cases pureOp P o tm <;> rfl
  · split
    · rename_i q hq
      obtain ⟨h1, h2⟩ := readK_eq hq
      simp only [stepOp, h1, (h2 tm).2 h, ob_eq]
      cases readOp P o tm h <;> rfl
    · split
      · rename_i q hq
        obtain ⟨h1, h2⟩ := effK_eq hq
        simp only [stepOp, h1, h2]
      · rfl

theorem putK_eq {N : Nat} {dst : Option Nat} (v : AV) (tm : T AV) : putD N dst v tm = match putK N dst with | some put => some (put.run v tm) | none => none := by
  unfold putD putK
  cases dst with
  | none => rfl
  | some d =>
    simp only
    cases Nat.blt d N with
    | true => simp only [cond_true, setK_eq]
    | false => rfl

theorem thenK_eq (call : CallT) (o : Oper) (put : K (AV → T AV → T AV)) (next : Unit → K Run) (tm : T AV) (h : Hp) (nx : Nat) :
    (thenK P o put next).run call tm h nx = match stepOp P call o tm h nx with | some (v, h, nx) => (next ()).run call (put.run v tm) h nx | none => none := by
  unfold thenK
  split
  · rename_i q hq
    obtain ⟨h1, h2⟩ := pureK_eq hq
    simp only [stepOp, h1, (h2 tm).1, (h2 tm).2 h, ob_eq]
    cases pureOp P o tm <;> rfl
  · split
    · rename_i q hq
      obtain ⟨h1, h2⟩ := readK_eq hq
      simp only [stepOp, h1, (h2 tm).2 h, ob_eq]
      cases readOp P o tm h <;> rfl
    · simp only [stepK_eq, ob_eq]
      cases stepOp P call o tm h nx with
      | none => rfl
      | some r => obtain ⟨v, h', nx'⟩ := r; rfl

theorem runK_eq (call : CallT) (N : Nat) (all : Array Oper) : ∀ (l : List Oper) (tm : T AV) (h : Hp) (nx : Nat), (runK P N all l).run call tm h nx = opsRun P call N all l ⟨tm, h, nx⟩ := by
  intro l
  induction l with
  | nil => intro tm h nx; rfl
  | cons o r ih =>
    intro tm h nx
    unfold runK opsRun
    cases hput : putK N o.dst with
    | none =>
      simp only [putK_eq, hput]
      cases guardOk all tm o with
      | none => rfl
      | some b => cases b with
        | false => rfl
        | true =>
          cases stepOp P call o tm h nx with
          | none => rfl
          | some x => rfl
    | some put =>
      simp only [putK_eq, hput]
      have body : (thenK P o put (fun _ => runK P N all r)).run call tm h nx = match stepOp P call o tm h nx with
          | some (v, h, nx) => opsRun P call N all r ⟨put.run v tm, h, nx⟩
          | none => none := by
        rw [thenK_eq]
        cases stepOp P call o tm h nx with
        | none => rfl
        | some x => obtain ⟨v, h', nx'⟩ := x; exact ih _ _ _
      cases hg : o.guard with
      | none =>
        simp only [guardOk, hg]
        exact body
      | some jw =>
        obtain ⟨j, want⟩ := jw
        simp only [guardOk, hg]
        cases hd : (all[j]?).bind (·.dst) with
        | none => exact ih _ _ _
        | some d =>
          simp only [getP_eq]
          cases tm.get d with
          | none => rfl
          | some v =>
            cases v with
            | agg l => exact ih _ _ _
            | tup l => exact ih _ _ _
            | «at» y =>
              cases y <;> first | exact ih _ _ _ | skip
              rename_i b
              simp only [cd_eq]
              cases bEq b want with
              | true => exact body
              | false => exact ih _ _ _

theorem lookK_eq (tm : T AV) : ∀ (l : List Nat) (t : T AV), (lookK l).run tm t = resT tm l t := by
  intro l
  induction l with
  | nil => intro t; rfl
  | cons x l ih =>
    intro t
    simp only [lookK, resT, getP_eq, setK_eq, ih]
    cases tm.get x <;> rfl

theorem doK_eq (call : CallT) (nx0 i : Nat) (o : Oper) (tm : T AV) (s : Dr) : (doK P o).run call nx0 i tm s = match kdOf o with
    | .read => match pureOp P o tm with
      | some v => some (.pure v, v, s)
      | none => match readOp P o tm s.hp with
        | some v => some (.read v tm, v, s)
        | none => none
    | .alloc => match allocOp P o tm (nx0 + i) with
      | some (v, b) => some (.alloc v (nx0 + i) b, v, ⟨s.tm, s.hp, s.nx, (i, nx0 + i, b) :: s.pend⟩)
      | none => none
    | .eff => match effOp P call o tm (absorb o s.pend s.hp) s.nx with
      | some (v, ha, na) => some (.eff v (absorb o s.pend s.hp) s.nx ha na, v, ⟨s.tm, ha, na, leave o s.pend⟩)
      | none => none := by
  unfold doK
  cases hk : kdOf o with
  | read =>
    simp only
    split
    · rename_i q hq
      obtain ⟨h1, h2⟩ := pureK_eq hq
      simp only [(h2 tm).1, readF_eq, ob_eq]
      cases pureOp P o tm with
      | some v => rfl
      | none => cases readOp P o tm s.hp <;> rfl
    · split
      · rename_i q hq
        obtain ⟨h1, h2⟩ := readK_eq hq
        simp only [(h2 tm).1, (h2 tm).2, ob_eq]
        cases readOp P o tm s.hp <;> rfl
      · simp only [ob_eq]
        cases pureOp P o tm with
        | some v => rfl
        | none => cases readOp P o tm s.hp <;> rfl
  | alloc => rfl
  | eff => simp only [effF_eq]; rfl

theorem drawK_eq (call : CallT) (all : Array Oper) (nx0 i : Nat) (o : Oper) (s : Dr) : (drawK P all o).run call nx0 i s = drawStep P call all nx0 i o s := by
  unfold drawK drawStep
  cases hg : o.guard with
  | none => simp only [lookK_eq, doK_eq, guardOk, hg]; rfl
  | some jw =>
    simp only [lookK_eq, doK_eq]
    cases guardOk all (resT s.tm (o.looksAt all) .leaf) o with
    | none => rfl
    | some b => cases b <;> rfl

theorem drawsK_eq (call : CallT) (N : Nat) (all : Array Oper) (nx0 : Nat) : ∀ (l : List Oper) (i : Nat) (s : Dr), (drawsK P N all l i).run call nx0 s = drawGo P call all N nx0 l i s := by
  intro l
  induction l with
  | nil => intro i s; rfl
  | cons o l ih =>
    intro i s
    unfold drawsK drawGo
    cases hput : putK N o.dst with
    | none =>
      simp only [putK_eq, hput]
      cases drawStep P call all nx0 i o s with
      | none => rfl
      | some x => rfl
    | some put =>
      simp only [putK_eq, hput, drawK_eq]
      cases drawStep P call all nx0 i o s with
      | none => rfl
      | some x =>
        obtain ⟨e, v, s'⟩ := x
        obtain ⟨tm, h, nx, pd⟩ := s'
        simp only [ih]
        cases drawGo P call all N nx0 l (i + 1) ⟨put.run v tm, h, nx, pd⟩ <;> rfl

theorem readsF_eq (o : Oper) (tm : T AV) (v : AV) (h : Hp) : readsF P o tm v h = reads P o tm v h := by
  unfold readsF reads; rw [readF_eq]; cases readOp P o tm h <;> rfl

theorem winGoF_eq (i : Nat) (o : Oper) (tm : T AV) (v : AV) : ∀ (l : List (Nat × Oper × Hp × Nat)) (h : Hp), winGoF P i o tm v h l = winGo P i o tm v h l := by
  intro l
  induction l with
  | nil => intro h; exact readsF_eq o tm v h
  | cons x l ih => intro h; simp only [winGoF, winGo, readsF_eq, ih]

theorem winsF_eq (h0 : Hp) (el : List (Nat × Oper × Hp × Nat)) : ∀ (l : List Oper) (i : Nat) (es : List (Evt × T AV)), winsF P h0 el l i es = winsOk P h0 el l i es := by
  intro l
  induction l with
  | nil => intro i es; simp [winsF, winsOk]
  | cons o l ih =>
    intro i es
    cases es with
    | nil => simp [winsF, winsOk]
    | cons x es =>
      obtain ⟨e, t⟩ := x
      cases e <;> simp only [winsF, winsOk, winGoF_eq, ih]

theorem drawRunF_eq (call : CallT) (N : Nat) (ops : Array Oper) (tm : T AV) (h : Hp) (nx : Nat) : drawRunF P call N ops tm h nx = drawRun P call N ops ⟨tm, h, nx⟩ := by
  unfold drawRunF drawRun
  simp only [drawsK_eq]
  cases drawGo P call ops N nx ops.toList 0 ⟨tm, h, nx + ops.toList.length, []⟩ with
  | none => rfl
  | some x => obtain ⟨es, d⟩ := x; simp only [winsF_eq]

theorem onNorm_eq (r : Option (Fl × S)) (f : T AV → Hp → Nat → Option (Fl × S)) : onNorm r f = match r with | some (.norm, s) => f s.tm s.hp s.nx | r => r := by
  cases r with
  | none => rfl
  | some x => obtain ⟨e, s⟩ := x; cases e <;> rfl

theorem iterK_eq (g : S → Option (Fl × S)) (g' : T AV → Hp → Nat → Option (Fl × S)) (hg : ∀ tm h nx, g' tm h nx = g ⟨tm, h, nx⟩) : ∀ (n : Nat) (tm : T AV) (h : Hp) (nx : Nat), iterK g' n tm h nx = iter g n ⟨tm, h, nx⟩ := by
  intro n
  induction n with
  | zero => intro tm h nx; rfl
  | succ n ih =>
    intro tm h nx
    have e : iterK g' (n + 1) tm h nx = onNorm (g' tm h nx) (iterK g' n) := rfl
    rw [e, hg, onNorm_eq, iter]
    cases g ⟨tm, h, nx⟩ with
    | none => rfl
    | some x => obtain ⟨e, s⟩ := x; cases e <;> first | exact ih _ _ _ | rfl

theorem codeK_eq (call : CallT) (N L : Nat) : ∀ (c : Code) (tm : T AV) (h : Hp) (nx : Nat), (codeK P N L c).run call tm h nx = evalC P call N L c ⟨tm, h, nx⟩ := by
  intro c
  induction c with
  | region id ops draw =>
    intro tm h nx
    cases draw with
    | true =>
      simp only [codeK, evalC, cond_true, drawRunF_eq, ob_eq]
      cases drawRun P call N ops ⟨tm, h, nx⟩ <;> rfl
    | false =>
      simp only [codeK, evalC, cond_false, runK_eq, ob_eq]
      cases opsRun P call N ops ops.toList ⟨tm, h, nx⟩ <;> rfl
  | seq a b iha ihb =>
    intro tm h nx
    simp only [codeK, evalC, onNorm_eq, iha]
    cases evalC P call N L a ⟨tm, h, nx⟩ with
    | none => rfl
    | some x => obtain ⟨e, s⟩ := x; cases e <;> first | exact ihb _ _ _ | rfl
  | cond q a b iha ihb =>
    intro tm h nx
    simp only [codeK, evalC, opK_eq]
    cases opnd tm q with
    | none => rfl
    | some v =>
      show onBool _ v = _
      rw [onBool_eq]
      cases v with
      | agg l => rfl
      | tup l => rfl
      | «at» y =>
        cases y <;> first | rfl | skip
        rename_i b
        simp only [cd_eq]
        cases b with
        | true => exact iha _ _ _
        | false => exact ihb _ _ _
  | block id b ih =>
    intro tm h nx
    simp only [codeK, evalC, ih]; rfl
  | loop b ih =>
    intro tm h nx
    exact iterK_eq _ _ ih L tm h nx
  | scope b ih => intro tm h nx; exact ih tm h nx
  | _ => intro tm h nx; rfl

theorem resK_eq (tm : T AV) (h : Hp) : ∀ l : List ResultVar, (resK P l).run tm h = resOf P tm h l := by
  intro l
  induction l with
  | nil => rfl
  | cons x l ih =>
    cases x with
    | cell a t => rfl
    | tmp t =>
      simp only [resK, resOf, getP_eq, ih]
      cases tm.get t with
      | none => rfl
      | some v =>
        cases v with
        | «at» a => cases resOf P tm h l <;> rfl
        | agg q => cases resOf P tm h l <;> rfl
        | tup q => rfl

theorem funK_eq (call : CallT) (L f : Nat) (args : List AV) (h : Hp) (nx : Nat) : (funK P L f).run call args h nx = callC P call L f args h nx := by
  unfold funK callC
  cases P.funcs[f]? with
  | none => rfl
  | some fn =>
    simp only
    cases fn.body with
    | none => rfl
    | some c =>
      simp only [codeK_eq, resK_eq]
      cases evalC P call fn.ntmps L c ⟨T.ofList args 0 .leaf, h, nx⟩ with
      | none => rfl
      | some x => obtain ⟨e, s⟩ := x; cases e <;> rfl

theorem callK_eq (prim : PrimT) (L : Nat) : ∀ d : Nat, callK P prim L d = callF P prim L d := by
  intro d
  induction d with
  | zero => rfl
  | succ d ih =>
    funext f args h nx
    have e : callK P prim L (d + 1) f args h nx = match prim f with | some q => q (callK P prim L d) args h nx | none => (funK P L f).run (callK P prim L d) args h nx := rfl
    rw [e, ih]
    unfold callF
    cases prim f with
    | some q => rfl
    | none => exact funK_eq _ _ _ _ _ _

end Go.Proofs.YtljkldmjakabdaaGreat.Ev

