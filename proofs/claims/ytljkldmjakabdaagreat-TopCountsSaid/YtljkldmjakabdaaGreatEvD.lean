/- TopCounts by reckoning: calls, as reckoned, of this very program; what is looked at, of a reckoning's end. -/
import Derived.Test.YtljkldmjakabdaaGreatEvA
import Derived.Test.YtljkldmjakabdaaGreatEvY
namespace Go.Proofs.YtljkldmjakabdaaGreat.Ev
open Go

set_option maxRecDepth 100000 in
theorem codes_ok : ∀ (f : Nat) (fn : Func) (code : Code), Tryz.prog.funcs[f]? = some fn → fn.body = some code → codeOk code = true := by
  intro f fn code hf hb
  have hall : (Tryz.prog.funcs.toList.all fun fn => match fn.body with | some c => codeOk c | none => true) = true := by kernel_rfl
  have := List.all_eq_true.1 hall fn (List.mem_of_getElem? (i := f) (by simpa using hf))
  simpa [hb] using this

theorem call_ok (L d : Nat) : CallOk Tryz.prog (callF Tryz.prog prims L d) :=
  callF_sound plainly (draw_sound (by kernel_rfl)) codes_ok prims_ok L d

/-- What a call does, of which all is known. -/
def Entry (f : Nat) (args : List AV) (h : Hp) (nx : Nat) (v : AV) (h' : Hp) (nx' : Nat) : Prop :=
  (∃ fn, Tryz.prog.funcs[f]? = some fn ∧ fn.body.isSome = true) ∧
  ∀ (c : Cx) (w : World) (vs : Array Value), R c h.get w → Bd c nx → All2 (AvR c) args vs.toList →
    Calls Tryz.prog f vs w fun e w' => ∃ x c', e = .returned x ∧ Mv c h.get w c' h'.get w' ∧ Gr c nx c' nx' ∧ AvR c' v x

theorem callOk_of {call : CallT} (h : ∀ f args h nx v h' nx', call f args h nx = some (v, h', nx') → Entry f args h nx v h' nx') : CallOk Tryz.prog call := h
theorem CallOk.entry {call : CallT} (h : CallOk Tryz.prog call) {f : Nat} {args : List AV} {hp : Hp} {nx : Nat} {v : AV} {h' : Hp} {nx' : Nat} (he : call f args hp nx = some (v, h', nx')) : Entry f args hp nx v h' nx' := h _ _ _ _ _ _ _ he

/-! ### Less of a memory -/
def T.leq {α : Type} (f : α → α → Bool) : T α → T α → Bool
  | .leaf, _ => true
  | .node l v r, t => match t with
    | .leaf => false
    | .node l' v' r' => match v, v' with
      | none, _ => bif T.leq f l l' then T.leq f r r' else false
      | some a, some b => bif f a b then (bif T.leq f l l' then T.leq f r r' else false) else false
      | some _, none => false

theorem T.leq_get {α : Type} {f : α → α → Bool} : ∀ (t t' : T α), T.leq f t t' = true → ∀ n a, t.get n = some a → ∃ b, t'.get n = some b ∧ f a b = true := by
  intro t
  induction t with
  | leaf => intro t' _ n a h; cases h
  | node l v r ihl ihr =>
    intro t' hle n a h
    cases t' with
    | leaf => simp [T.leq] at hle
    | node l' v' r' =>
      have parts : T.leq f l l' = true ∧ T.leq f r r' = true ∧ ∀ x, v = some x → ∃ y, v' = some y ∧ f x y = true := by
        unfold T.leq at hle
        cases v with
        | none =>
          simp only at hle
          cases h1 : T.leq f l l' with
          | false => simp [h1] at hle
          | true => simp only [h1, cond_true] at hle; exact ⟨rfl, hle, fun x hx => by cases hx⟩
        | some x =>
          cases v' with
          | none => simp at hle
          | some y =>
            simp only at hle
            cases h0 : f x y with
            | false => simp [h0] at hle
            | true =>
              cases h1 : T.leq f l l' with
              | false => simp [h0, h1] at hle
              | true => simp only [h0, h1, cond_true] at hle; exact ⟨rfl, hle, fun z hz => by cases hz; exact ⟨y, rfl, h0⟩⟩
      rw [T.get_node] at h ⊢
      cases h0 : Nat.beq n 0 with
      | true => simp only [h0, cond_true] at h ⊢; exact parts.2.2 a h
      | false =>
        simp only [h0, cond_false] at h ⊢
        cases h1 : Nat.beq (n % 2) 1 with
        | true => simp only [h1, cond_true] at h ⊢; exact ihl l' parts.1 _ a h
        | false => simp only [h1, cond_false] at h ⊢; exact ihr r' parts.2.1 _ a h

def tyLe : Ty → Ty → Bool
  | .no, _ => true
  | .row a, .row b => Nat.beq a b
  | .row a, .var b => Nat.beq a b
  | .var a, .var b => Nat.beq a b
  | _, _ => false

def entsEq : List (List At × Bool × At) → List (List At × Bool × At) → Bool
  | [], [] => true
  | (k, g, v) :: l, (k', g', v') :: r => bif atsEq k k' then (bif bEq g g' then (bif atEq v v' then entsEq l r else false) else false) else false
  | _, _ => false

def blkLe : Blk → Blk → Bool
  | .cells t n y, .cells t' n' y' => bif Nat.beq n n' then (bif tyLe y y' then T.leq atEq t t' else false) else false
  | .map l, .map l' => entsEq l l'
  | _, _ => false

theorem TyR.le {y y' : Ty} {o e sz n : Nat} {fr : Nat × Nat} (h : tyLe y y' = true) (r : TyR y' o e sz n fr) : TyR y o e sz n fr := by
  cases y with
  | no => exact trivial
  | row a => cases y' with
    | no => cases h
    | row b => have := beq_true (show Nat.beq a b = true from h); subst this; exact r
    | var b => have := beq_true (show Nat.beq a b = true from h); subst this; exact ⟨r.1, r.2.1⟩
  | var a => cases y' with
    | no => cases h
    | row b => cases h
    | var b => have := beq_true (show Nat.beq a b = true from h); subst this; exact r

theorem entsEq_eq : ∀ {l r : List (List At × Bool × At)}, entsEq l r = true → l = r := by
  intro l
  induction l with
  | nil => intro r h; cases r <;> simp [entsEq] at h ⊢
  | cons x l ih =>
    intro r h
    cases r with
    | nil => simp [entsEq] at h
    | cons y r =>
      obtain ⟨k, g, v⟩ := x
      obtain ⟨k', g', v'⟩ := y
      unfold entsEq at h
      cases h1 : atsEq k k' with
      | false => simp [h1] at h
      | true =>
        cases h2 : bEq g g' with
        | false => simp [h1, h2] at h
        | true =>
          cases h3 : atEq v v' with
          | false => simp [h1, h2, h3] at h
          | true =>
            simp only [h1, h2, h3, cond_true] at h
            rw [atsEq_eq h1, bEq_eq h2, atEq_eq h3, ih h]

theorem ObjR.le {c : Cx} {p : Pl} {b b' : Blk} {x : Option Obj} (h : blkLe b b' = true) (r : ObjR c p b' x) : ObjR c p b x := by
  cases b with
  | cells t n y =>
    cases b' with
    | map l => cases h
    | cells t' n' y' =>
      unfold blkLe at h
      cases h1 : Nat.beq n n' with
      | false => simp [h1] at h
      | true =>
        cases h2 : tyLe y y' with
        | false => simp [h1, h2] at h
        | true =>
          simp only [h1, h2, cond_true] at h
          have := beq_true h1
          subst this
          obtain ⟨cs, el, fr, g1, g2, g3, g4, g5, g6⟩ := r
          refine ⟨cs, el, fr, g1, g2, g3, g4, fun i a hi => ?_, g6.le h2⟩
          obtain ⟨a', ha', he⟩ := T.leq_get _ _ h i a hi
          rw [atEq_eq he]
          exact g5 i a' ha'
  | map l =>
    cases b' with
    | cells t' n' y' => cases h
    | map l' =>
      have := entsEq_eq (show entsEq l l' = true from h)
      subst this; exact r

def hpLe (h h' : Hp) : Bool := T.leq blkLe h h'

/-- Less is known of memory. -/
theorem R.le {c : Cx} {h h' : Hp} {w : World} (hl : hpLe h h' = true) (r : R c h'.get w) : R c h.get w := by
  refine ⟨fun id b hb => ?_, fun i j b b' p q hi hj hij hp hq => ?_⟩
  · obtain ⟨b', hb', he⟩ := T.leq_get _ _ hl id b hb
    obtain ⟨p, hp, ho⟩ := r.blk id b' hb'
    exact ⟨p, hp, ho.le he⟩
  · obtain ⟨x, hx, _⟩ := T.leq_get _ _ hl i b hi
    obtain ⟨y, hy, _⟩ := T.leq_get _ _ hl j b' hj
    exact r.inj i j x y p q hx hy hij hp hq

theorem Mv.lessOf {c c' : Cx} {h : HF} {h' h'' : Hp} {w w' : World} (m : Mv c h w c' h''.get w') (hl : hpLe h' h'' = true) : Mv c h w c' h'.get w' := by
  refine ⟨m.le, m.r.le hl, fun id b p hb hp => ?_, fun id b p hb hn hp => ?_, m.frm, m.grow, m.out⟩
  · obtain ⟨x, hx, _⟩ := T.leq_get _ _ hl id b hb
    exact m.own id x p hx hp
  · obtain ⟨x, hx, _⟩ := T.leq_get _ _ hl id b hb
    exact m.new id x p hx hn hp

/-- The same step, out of a greater memory; what is told behind it is what the step told. -/
theorem Mv.from {c c' : Cx} {h H : Hp} {h' : HF} {w w' : World} (m : Mv c h.get w c' h' w') (r : R c H.get w) (hl : hpLe h H = true) : Mv c H.get w c' h' w' :=
  m.frame r (fun id b hb => let ⟨b', h1, _⟩ := T.leq_get _ _ hl id b hb; ⟨b', h1⟩) (fun id b hb => .inl hb)

def avsEq : List AV → List AV → Bool
  | [], [] => true
  | a :: l, b :: r => bif avEq a b then avsEq l r else false
  | _, _ => false
theorem avsEq_eq : ∀ {l r : List AV}, avsEq l r = true → l = r := by
  intro l
  induction l with
  | nil => intro r h; cases r <;> simp [avsEq] at h ⊢
  | cons a l ih =>
    intro r h
    cases r with
    | nil => simp [avsEq] at h
    | cons b r =>
      unfold avsEq at h
      cases h1 : avEq a b with
      | false => simp [h1] at h
      | true => simp only [h1, cond_true] at h; rw [avEq_eq h1, ih h]

def cpsEq : List (List At × Bool) → List (List At × Bool) → Bool
  | [], [] => true
  | (k, g) :: l, (k', g') :: r => bif atsEq k k' then (bif bEq g g' then cpsEq l r else false) else false
  | _, _ => false
theorem cpsEq_eq : ∀ {l r : List (List At × Bool)}, cpsEq l r = true → l = r := by
  intro l
  induction l with
  | nil => intro r h; cases r <;> simp [cpsEq] at h ⊢
  | cons x l ih =>
    intro r h
    cases r with
    | nil => simp [cpsEq] at h
    | cons y r =>
      obtain ⟨k, g⟩ := x
      obtain ⟨k', g'⟩ := y
      unfold cpsEq at h
      cases h1 : atsEq k k' with
      | false => simp [h1] at h
      | true =>
        cases h2 : bEq g g' with
        | false => simp [h1, h2] at h
        | true => simp only [h1, h2, cond_true] at h; rw [atsEq_eq h1, bEq_eq h2, ih h]

/-- The result too may be a tuple. -/
def resEq : AV → AV → Bool
  | .tup l, .tup r => cpsEq l r
  | a, b => avEq a b
theorem resEq_eq {a b : AV} (h : resEq a b = true) : a = b := by
  cases a with
  | tup l => cases b with
    | tup r => rw [cpsEq_eq (show cpsEq l r = true from h)]
    | «at» y => exact avEq_eq h
    | agg r => exact avEq_eq h
  | «at» x => exact avEq_eq (by cases b <;> exact h)
  | agg l => exact avEq_eq (by cases b <;> exact h)

/-- Whether a reckoning comes to such an end. -/
def ends (r : Option (AV × Hp × Nat)) (v : AV) (h : Hp) (nx : Nat) : Bool := match r with
  | some (v', h', nx') => bif resEq v v' then (bif hpLe h h' then Nat.beq nx nx' else false) else false
  | none => false

theorem entry_of {L d f : Nat} {args : List AV} {h : Hp} {nx : Nat} {v : AV} {h' : Hp} {nx' : Nat} (he : ends (callK Tryz.prog prims L d f args h nx) v h' nx' = true) : Entry f args h nx v h' nx' := by
  unfold ends at he
  split at he
  · rename_i v2 h2 nx2 hc
    rw [callK_eq] at hc
    obtain ⟨hg, hs⟩ := (call_ok L d).entry hc
    cases h1 : resEq v v2 with
    | false => simp [h1] at he
    | true =>
      cases h3 : hpLe h' h2 with
      | false => simp [h1, h3] at he
      | true =>
        simp only [h1, h3, cond_true] at he
        have e1 := resEq_eq h1
        have e2 := beq_true he
        subst e1 e2
        refine ⟨hg, fun c w vs r hbd hargs => (hs c w vs r hbd hargs).mono ?_⟩
        rintro e w' ⟨x, c', rfl, m, g, hv⟩
        exact ⟨x, c', rfl, m.lessOf h3, g, hv⟩
  · cases he

/-- The same call where more of memory is known: what stands behind it is what the call told. -/
theorem Entry.grow {f : Nat} {args : List AV} {h H : Hp} {nx : Nat} {v : AV} {h' : Hp} {nx' : Nat} (e : Entry f args h nx v h' nx') (hl : hpLe h H = true) : Entry f args H nx v h' nx' := by
  refine ⟨e.1, fun c w vs r hbd hargs => (e.2 c w vs (r.le hl) hbd hargs).mono ?_⟩
  rintro en w' ⟨x, c', rfl, m, g, hv⟩
  exact ⟨x, c', rfl, m.from r hl, g, hv⟩

/-- A row of a table of calls. -/
structure Row where
  f : Nat
  args : List AV
  h : Hp
  nx : Nat
  v : AV
  h' : Hp
  nx' : Nat

def Row.ok (r : Row) : Prop := Entry r.f r.args r.h r.nx r.v r.h' r.nx'

/-- Calls out of a table. -/
def tabC : List Row → CallT
  | [], _, _, _, _ => none
  | r :: l, f, args, h, nx => bif Nat.beq f r.f then (bif avsEq args r.args then (bif Nat.beq nx r.nx then (bif hpLe r.h h then some (r.v, r.h', r.nx') else tabC l f args h nx) else tabC l f args h nx) else tabC l f args h nx) else tabC l f args h nx

theorem tabC_ok : ∀ (l : List Row), (∀ r, r ∈ l → r.ok) → CallOk Tryz.prog (tabC l) := by
  intro l
  induction l with
  | nil => intro _ f args h nx v h' nx' he; cases he
  | cons r l ih =>
    intro hall f args h nx v h' nx' he
    have rest : tabC l f args h nx = some (v, h', nx') → Entry f args h nx v h' nx' := ih (fun x hx => hall x (by simp [hx])) f args h nx v h' nx'
    unfold tabC at he
    cases h1 : Nat.beq f r.f with
    | false => simp only [h1, cond_false] at he; exact rest he
    | true =>
      cases h2 : avsEq args r.args with
      | false => simp only [h1, h2, cond_true, cond_false] at he; exact rest he
      | true =>
        cases h3 : Nat.beq nx r.nx with
        | false => simp only [h1, h2, h3, cond_true, cond_false] at he; exact rest he
        | true =>
          cases h4 : hpLe r.h h with
          | false => simp only [h1, h2, h3, h4, cond_true, cond_false] at he; exact rest he
          | true =>
            simp only [h1, h2, h3, h4, cond_true, Option.some.injEq, Prod.mk.injEq] at he
            obtain ⟨rfl, rfl, rfl⟩ := he
            have e1 := beq_true h1
            have e2 := avsEq_eq h2
            have e3 := beq_true h3
            subst e1 e2 e3
            exact (Entry.grow (hall r (by simp)) h4 : Entry r.f r.args h r.nx r.v r.h' r.nx')

theorem callC_ok {call : CallT} (h : CallOk Tryz.prog call) (L : Nat) : CallOk Tryz.prog (callC Tryz.prog call L) :=
  call_sound plainly (draw_sound (by kernel_rfl)) codes_ok h L

theorem entry_tab {l : List Row} (hl : ∀ r, r ∈ l → r.ok) {L f : Nat} {args : List AV} {h : Hp} {nx : Nat} {v : AV} {h' : Hp} {nx' : Nat} (he : ends ((funK Tryz.prog L f).run (tabC l) args h nx) v h' nx' = true) : Entry f args h nx v h' nx' := by
  unfold ends at he
  split at he
  · rename_i v2 h2 nx2 hc
    rw [funK_eq] at hc
    obtain ⟨hg, hs⟩ := (callC_ok (tabC_ok l hl) L).entry hc
    cases h1 : resEq v v2 with
    | false => simp [h1] at he
    | true =>
      cases h3 : hpLe h' h2 with
      | false => simp [h1, h3] at he
      | true =>
        simp only [h1, h3, cond_true] at he
        have e1 := resEq_eq h1
        have e2 := beq_true he
        subst e1 e2
        refine ⟨hg, fun c w vs r hbd hargs => (hs c w vs r hbd hargs).mono ?_⟩
        rintro e w' ⟨x, c', rfl, m, g, hv⟩
        exact ⟨x, c', rfl, m.lessOf h3, g, hv⟩
  · cases he

end Go.Proofs.YtljkldmjakabdaaGreat.Ev

