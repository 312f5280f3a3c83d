/- TopCounts by reckoning: pieces of code on parts of memory; slots and blocks as lists. -/
import Derived.Test.YtljkldmjakabdaaGreatEvD
namespace Go.Proofs.YtljkldmjakabdaaGreat.Ev
open Go

noncomputable section

/-- A tree, out of a list. -/
def T.of {α : Type} : List (Nat × α) → T α
  | [] => .leaf
  | (t, v) :: l => (T.of l).set t v

theorem T.of_get {α : Type} : ∀ (l : List (Nat × α)) (t : Nat) (v : α), (T.of l).get t = some v → (t, v) ∈ l := by
  intro l
  induction l with
  | nil => intro t v h; cases h
  | cons p l ih =>
    intro t v h
    obtain ⟨u, x⟩ := p
    rcases T.get_set _ _ _ _ _ h with ⟨rfl, rfl⟩ | ⟨_, h2⟩
    · simp
    · simp [ih t v h2]

/-- What is known of slots. -/
def Kn (c : Cx) (L : List (Nat × AV)) (a : Array Value) : Prop := ∀ t v, (t, v) ∈ L → ∃ x, a[t]? = some x ∧ AvR c v x

theorem Kn.tm {c : Cx} {L : List (Nat × AV)} {a : Array Value} (h : Kn c L a) : TmR c (T.of L) a := fun t v hv => h t v (T.of_get L t v hv)

theorem R.sub {c : Cx} {h H : HF} {w : World} (r : R c H w) (hs : ∀ id b, h id = some b → H id = some b) : R c h w :=
  ⟨fun id b hb => r.blk id b (hs id b hb), fun i j b b' p q hi hj => r.inj i j b b' p q (hs i b hi) (hs j b' hj)⟩

/-- What is asked of a state. -/
def view (ts bs : List Nat) (s : S) : List (Option AV) × List (Option Blk) × Nat := (ts.map s.tm.get, bs.map s.hp.get, s.nx)
def viewC (ts bs : List Nat) (r : Option (Fl × S)) : Option (Fl × List (Option AV) × List (Option Blk) × Nat) := match r with
  | some (fl, s) => some (fl, view ts bs s)
  | none => none
def viewS (ts bs : List Nat) (r : Option S) : Option (List (Option AV) × List (Option Blk) × Nat) := match r with
  | some s => some (view ts bs s)
  | none => none

theorem map_some {α β : Type} (f : α → Option β) : ∀ (ts : List α) (vs : List β), ts.map f = vs.map some → ∀ t v, (t, v) ∈ ts.zip vs → f t = some v := by
  intro ts
  induction ts with
  | nil => intro vs _ t v h; simp at h
  | cons x ts ih =>
    intro vs he t v h
    cases vs with
    | nil => simp at h
    | cons y vs =>
      simp only [List.map_cons, List.cons.injEq] at he
      rcases List.mem_cons.1 h with hh | hh
      · cases hh; exact he.1
      · exact ih vs he.2 t v hh

/-- What stands behind a piece. -/
def After (N : Nat) (c : Cx) (h : HF) (nx : Nat) (w : World) (D : List Deferred) (ts bs : List Nat) (vs : List AV) (blks : List Blk) (nx' : Nat) (a' : Act) (w' : World) : Prop :=
  a'.defers = D ∧ a'.tmps.size = N ∧ ∃ c', Mv c h w c' (T.of (bs.zip blks)).get w' ∧ Gr c nx c' nx' ∧ Kn c' (ts.zip vs) a'.tmps

theorem after_of {N : Nat} {c : Cx} {s s' : S} {w : World} {D : List Deferred} {ts bs : List Nat} {vs : List AV} {blks : List Blk} {nx' : Nat} {a' : Act} {w' : World} (hv : view ts bs s' = (vs.map some, blks.map some, nx')) (h : Post N c s w D s' a' w') : After N c s.hp.get s.nx w D ts bs vs blks nx' a' w' := by
  simp only [view, Prod.mk.injEq] at hv
  obtain ⟨h1, h2, h3⟩ := hv
  obtain ⟨g1, g2, c', g3, g4, g5⟩ := h
  refine ⟨g1, g2, c', g3.less fun id b hb => map_some _ _ _ h2 id b (T.of_get _ _ _ hb), by rw [← h3]; exact g4, fun t v htv => ?_⟩
  exact g5 t v (map_some _ _ _ h1 t v htv)

/-- A piece of code, reckoned. -/
theorem piece {call : CallT} (hc : CallOk Tryz.prog call) {N L : Nat} {code : Code} (hok : codeOk code = true) {Ls : List (Nat × AV)} {Bs : List (Nat × Blk)} {nx : Nat} {fl : Fl} {ts bs : List Nat} {vs : List AV} {blks : List Blk} {nx' : Nat}
    (he : viewC ts bs ((codeK Tryz.prog N L code).run call (T.of Ls) (T.of Bs) nx) = some (fl, vs.map some, blks.map some, nx')) {c : Cx} {a : Act} {w : World} (r : R c (T.of Bs).get w) (hbd : Bd c nx) (hk : Kn c Ls a.tmps) (hN : a.tmps.size = N) :
    code.wp Tryz.prog (fun e a' w' => e = fl.to ∧ After N c (T.of Bs).get nx w a.defers ts bs vs blks nx' a' w') a w := by
  rw [codeK_eq] at he
  unfold viewC at he
  split at he
  · rename_i fl' s' hev
    simp only [Option.some.injEq, Prod.mk.injEq] at he
    obtain ⟨rfl, hv⟩ := he
    refine wp_mono (eval_sound plainly (draw_sound (by kernel_rfl)) hc N L code hok _ fl' s' hev c a w r hbd hk.tm hN) ?_
    rintro e a' w' ⟨rfl, hp⟩
    exact ⟨rfl, after_of (by rw [hv]) hp⟩
  · cases he

/-- A stretch of operations in a region. -/
theorem ops_seg {call : CallT} {N : Nat} {ops : Array Oper} (hc : CallOk Tryz.prog call) {Q : Exit → Act → World → Prop} {rest : List Nat} : ∀ (l tail : List Oper) (i : Nat), ops.toList.drop i = l ++ tail → ∀ (s s' : S), opsRun Tryz.prog call N ops l s = some s' → ∀ (c : Cx) (a : Act) (w : World),
    R c s.hp.get w → Bd c s.nx → TmR c s.tm a.tmps → a.tmps.size = N → (∀ a' w', Post N c s w a.defers s' a' w' → wpOps Tryz.prog ops Q rest a' w') → wpOps Tryz.prog ops Q (List.range' i l.length ++ rest) a w := by
  intro l
  induction l with
  | nil =>
    intro tail i hi s s' he c a w r hbd ht hN hQ
    simp [opsRun] at he; subst he
    exact hQ a w ⟨rfl, hN, c, Mv.refl r, .refl c _, ht⟩
  | cons o l ih =>
    intro tail i hi s s' he c a w r hbd ht hN hQ
    have hio : ops[i]? = some o := by
      have : (ops.toList.drop i)[0]? = some o := by rw [hi]; rfl
      rw [List.getElem?_drop] at this
      simpa using this
    have hdrop : ops.toList.drop (i + 1) = l ++ tail := by rw [← List.drop_drop, hi]; rfl
    rw [List.length_cons, List.range'_succ, List.cons_append]
    simp only [wpOps, hio]
    unfold opsRun at he
    split at he
    · rename_i hg
      rw [if_pos (guard_sound ht hg)]
      split at he
      · rename_i v h nx hst
        split at he
        · rename_i tm hp
          refine .inl (step_wp plainly hc ht r hbd hst ?_)
          intro c' w' x hmv hgr hv
          obtain ⟨h1, h2, h3⟩ := put_sound hp (ht.mono hmv.le) hN hv
          refine ih tail (i + 1) hdrop _ _ he c' _ w' hmv.r (hgr.bd hbd) h1 h2 ?_
          rintro a' w'' ⟨g1, g2, c'', g3, g4, g5⟩
          exact hQ _ _ ⟨g1.trans h3, g2, c'', hmv.trans g3, hgr.trans g4, g5⟩
        · cases he
      · cases he
    · rename_i hg
      have hw : ¬ (Region.wanted o (yielded ops a.tmps) = true) := by rw [guard_sound ht hg]; decide
      rw [if_neg hw]
      split at he
      · rename_i tm hp
        obtain ⟨h1, h2, h3⟩ := put_sound hp ht hN (undef_av c)
        refine ih tail (i + 1) hdrop _ _ he c _ w r hbd h1 h2 ?_
        rintro a' w'' ⟨g1, g2, c'', g3, g4, g5⟩
        exact hQ _ _ ⟨g1.trans h3, g2, c'', g3, g4, g5⟩
      · cases he
    · cases he

theorem seg {call : CallT} (hc : CallOk Tryz.prog call) {N : Nat} {ops : Array Oper} {Q : Exit → Act → World → Prop} {rest : List Nat} (l tail : List Oper) (i : Nat) (hi : ops.toList.drop i = l ++ tail) {Ls : List (Nat × AV)} {Bs : List (Nat × Blk)} {nx : Nat} {ts bs : List Nat} {vs : List AV} {blks : List Blk} {nx' : Nat}
    (he : viewS ts bs ((runK Tryz.prog N ops l).run call (T.of Ls) (T.of Bs) nx) = some (vs.map some, blks.map some, nx')) {c : Cx} {a : Act} {w : World} (r : R c (T.of Bs).get w) (hbd : Bd c nx) (hk : Kn c Ls a.tmps) (hN : a.tmps.size = N)
    (hQ : ∀ a' w', After N c (T.of Bs).get nx w a.defers ts bs vs blks nx' a' w' → wpOps Tryz.prog ops Q rest a' w') : wpOps Tryz.prog ops Q (List.range' i l.length ++ rest) a w := by
  rw [runK_eq] at he
  unfold viewS at he
  split at he
  · rename_i s' hev
    simp only [Option.some.injEq] at he
    exact ops_seg hc l tail i hi _ s' hev c a w r hbd hk.tm hN fun a' w' hp => hQ a' w' (after_of he hp)
  · cases he

/-! ### Back to what was known -/
def flatA : At → Bool
  | .bool _ | .int .. | .str _ | .nilp | .nils | .nilm | .fn0 _ | .nilf | .nili => true
  | _ => false

theorem AtR.flat {c : Cx} {a : At} (h : flatA a = true) (c' : Cx) {v : Value} (r : AtR c a v) : AtR c' a v := by
  cases a <;> first | exact r | cases h

def FlatB (b : Blk) : Prop := ∀ (c c' : Cx) (p : Pl) (x : Option Obj), ObjR c p b x → ObjR c' p b x

def T.every {α : Type} (f : α → Bool) : T α → Bool
  | .leaf => true
  | .node l v r => bif (match v with | some x => f x | none => true) then (bif T.every f l then T.every f r else false) else false

theorem T.every_get {α : Type} {f : α → Bool} : ∀ (t : T α), T.every f t = true → ∀ n a, t.get n = some a → f a = true := by
  intro t
  induction t with
  | leaf => intro _ n a h; cases h
  | node l v r ihl ihr =>
    intro he n a h
    unfold T.every at he
    cases h1 : (match v with | some x => f x | none => true) with
    | false => simp [h1] at he
    | true =>
      cases h2 : T.every f l with
      | false => simp [h1, h2] at he
      | true =>
        simp only [h1, h2, cond_true] at he
        rw [T.get_node] at h
        cases h0 : Nat.beq n 0 with
        | true =>
          simp only [h0, cond_true] at h
          subst h; exact h1
        | false =>
          simp only [h0, cond_false] at h
          cases h3 : Nat.beq (n % 2) 1 with
          | true => simp only [h3, cond_true] at h; exact ihl h2 _ a h
          | false => simp only [h3, cond_false] at h; exact ihr he _ a h

theorem flat_cells {t : T At} {n : Nat} {y : Ty} (h : T.every flatA t = true) : FlatB (.cells t n y) := by
  rintro c c' p x ⟨cs, e, fr, h1, h2, h3, h4, h5, h6⟩
  refine ⟨cs, e, fr, h1, h2, h3, h4, fun i a hi => ?_, h6⟩
  obtain ⟨g1, v, g2, g3⟩ := h5 i a hi
  exact ⟨g1, v, g2, g3.flat (T.every_get t h i a hi) c'⟩

theorem All2.imp {α β : Type} {r s : α → β → Prop} : ∀ {l : List α} {m : List β}, All2 r l m → (∀ a b, a ∈ l → r a b → s a b) → All2 s l m
  | _, _, .nil, _ => .nil
  | _, _, .cons x y, h => .cons (h _ _ (by simp) x) (y.imp fun a b ha hr => h a b (by simp [ha]) hr)

theorem flat_map {l : List (List At × Bool × At)} (h : ∀ e, e ∈ l → (∀ a, a ∈ e.1 → flatA a = true) ∧ flatA e.2.2 = true) : FlatB (.map l) := by
  rintro c c' p x ⟨es, ck, h1, h2, h3, h4⟩
  refine ⟨es, ck, h1, h2.imp ?_, h3, h4⟩
  intro e m he ⟨hk, hv⟩
  obtain ⟨g1, g2⟩ := h e he
  refine ⟨⟨fun hg => ?_, fun hg => ?_⟩, hv.flat g2 c'⟩
  · obtain ⟨cs, k1, k2⟩ := hk.1 hg
    exact ⟨cs, k1, k2.imp fun a b ha hr => hr.flat (g1 a ha) c'⟩
  · obtain ⟨a, k1, k2⟩ := hk.2 hg
    exact ⟨a, k1, k2.flat (g1 a (by have k1' : e.1 = [a] := k1; rw [k1']; simp)) c'⟩

/-- A step that saw a part: the rest stays; the new names are given up. -/
theorem Mv.back {c c2 : Cx} {h1 h2 H H' : HF} {w w2 : World} (m : Mv c h1 w c2 h2 w2) (r : R c H w) (hB1 : ∀ id b, h1 id = some b → H id = some b) (hB2 : ∀ id b, h2 id = some b → (∃ b1, h1 id = some b1) ∧ FlatB b)
    (hH : ∀ id b, H' id = some b → h2 id = some b ∨ (H id = some b ∧ h1 id = none)) : Mv c H w c H' w2 := by
  have old : ∀ id b, H' id = some b → ∃ b', H id = some b' := by
    intro id b hb
    rcases hH id b hb with g | ⟨g, _⟩
    · obtain ⟨⟨b1, hb1⟩, _⟩ := hB2 id b g
      exact ⟨b1, hB1 id b1 hb1⟩
    · exact ⟨b, g⟩
  refine ⟨.refl c, ⟨?_, ?_⟩, fun id b p hb _ => old id b hb, fun id b p _ hn hp => (by rw [hn] at hp; cases hp), ?_, m.grow, m.out⟩
  · intro id b hb
    rcases hH id b hb with g | ⟨g1, g2⟩
    · obtain ⟨⟨b1, hb1⟩, hf⟩ := hB2 id b g
      obtain ⟨p, hp, _⟩ := r.blk id b1 (hB1 id b1 hb1)
      obtain ⟨q, hq, ho⟩ := m.r.blk id b g
      have := m.le _ _ hp
      rw [hq] at this; cases this
      exact ⟨_, hp, hf _ _ _ _ ho⟩
    · obtain ⟨p, hp, ho⟩ := r.blk id b g1
      refine ⟨p, hp, ?_⟩
      have away : w2.heap[p.b]? = w.heap[p.b]? := by
        refine m.frm p.b (r.lt g1 hp) fun j y q hy hq e => ?_
        by_cases hj : j = id
        · subst hj; rw [g2] at hy; cases hy
        · exact r.inj j id y b q p (hB1 j y hy) g1 hj hq hp e
      rw [away]; exact ho
  · intro i j b b' p q hi hj hij hp hq
    obtain ⟨x, hx⟩ := old i b hi
    obtain ⟨y, hy⟩ := old j b' hj
    exact r.inj i j x y p q hx hy hij hp hq
  · intro x hx hn
    refine m.frm x hx fun j y q hy hq => hn j y q (hB1 j y hy) hq

/-- Values whose blocks had names before. -/
def oldA (n : Nat) : At → Bool
  | .ptr b _ | .slc b .. | .mp b | .fn _ b _ => Nat.blt b n
  | _ => true

theorem AtR.old {c c' : Cx} {n m : Nat} (g : Gr c n c' m) {a : At} (h : oldA n a = true) {v : Value} (r : AtR c' a v) : AtR c a v := by
  have key : ∀ b p, Nat.blt b n = true → c' b = some p → c b = some p := by
    intro b p hb hp
    rcases g.2 b p hp with h1 | ⟨h1, _⟩
    · exact h1
    · rw [blt_dec] at hb; have := of_decide_eq_true hb; omega
  cases a <;> first
    | exact r
    | (obtain ⟨p, hp, r⟩ := r
       exact ⟨p, key _ p h hp, r⟩)

def oldV (n : Nat) : AV → Bool
  | .at a => oldA n a
  | _ => false

theorem Kn.old {c c' : Cx} {n m : Nat} (g : Gr c n c' m) {L L' : List (Nat × AV)} {a : Array Value} (h : Kn c' L a) (hs : ∀ t v, (t, v) ∈ L' → (t, v) ∈ L ∧ oldV n v = true) : Kn c L' a := by
  intro t v htv
  obtain ⟨h1, h2⟩ := hs t v htv
  obtain ⟨x, hx, hr⟩ := h t v h1
  cases v with
  | «at» y => exact ⟨x, hx, AtR.old g h2 hr⟩
  | agg l => cases h2
  | tup l => cases h2

theorem Kn.mono {c c' : Cx} (hl : c.le c') {L : List (Nat × AV)} {a : Array Value} (h : Kn c L a) : Kn c' L a := fun t v htv => let ⟨x, h1, h2⟩ := h t v htv; ⟨x, h1, h2.mono hl⟩
theorem Kn.of {c : Cx} {L L' : List (Nat × AV)} {a : Array Value} (h : Kn c L a) (hs : ∀ t v, (t, v) ∈ L' → (t, v) ∈ L) : Kn c L' a := fun t v htv => h t v (hs t v htv)

/-- A call that is given nothing of memory and leaves nothing known. -/
theorem Entry.pure_ {f : Nat} {args : List AV} {n : Nat} {a : At} (e : Entry f args .leaf 0 (.at a) .leaf n) (hargs : ∀ v, v ∈ args → ∃ x, v = .at x ∧ flatA x = true) (ha : flatA a = true) (h : Hp) (nx : Nat) : Entry f args h nx (.at a) h nx := by
  refine ⟨e.1, fun c w vs r hbd hv => ?_⟩
  have r0 : R (fun _ => none) (T.leaf : Hp).get w := ⟨fun id b hb => (by cases hb), fun i j b b' p q hi => (by cases hi)⟩
  have hv0 : All2 (AvR (fun _ => none)) args vs.toList := hv.imp fun x y hx hr => by
    obtain ⟨z, rfl, hz⟩ := hargs x hx
    exact AtR.flat hz _ hr
  refine (e.2 _ w vs r0 (fun i p hi => (by cases hi)) hv0).mono ?_
  rintro en w' ⟨x, c', rfl, m, g, hx⟩
  refine ⟨x, c, rfl, ⟨.refl c, ⟨?_, r.inj⟩, fun id b p hb _ => ⟨b, hb⟩, fun id b p _ hn hp => (by rw [hn] at hp; cases hp), fun y hy _ => m.frm y hy (fun j b q hb => (by cases hb)), m.grow, m.out⟩, .refl c nx, AtR.flat ha _ hx⟩
  intro id b hb
  obtain ⟨p, hp, ho⟩ := r.blk id b hb
  refine ⟨p, hp, ?_⟩
  rw [m.frm p.b (r.lt hb hp) (fun j b q hb => (by cases hb))]
  exact ho

end
end Go.Proofs.YtljkldmjakabdaaGreat.Ev

