/- TopCounts by reckoning: pieces of code that keep the slots that they do not write. -/
import Derived.Test.YtljkldmjakabdaaGreatEtA
namespace Go.Proofs.YtljkldmjakabdaaGreat.Ev
open Go

noncomputable section

def wrL : List Oper → Nat → Bool
  | [], _ => false
  | o :: l, t => bif dstIs o t then true else wrL l t

/-- Whether code writes a slot (or draws an order: then it is said to write all). -/
def wrC : Code → Nat → Bool
  | .region _ ops draw, t => bif draw then true else wrL ops.toList t
  | .seq a b, t => bif wrC a t then true else wrC b t
  | .cond _ a b, t => bif wrC a t then true else wrC b t
  | .block _ b, t => wrC b t
  | .loop b, t => wrC b t
  | .scope b, t => wrC b t
  | _, _ => false

def noDraw : Code → Bool
  | .region _ _ draw => !draw
  | .seq a b => bif noDraw a then noDraw b else false
  | .cond _ a b => bif noDraw a then noDraw b else false
  | .block _ b => noDraw b
  | .loop b => noDraw b
  | .scope b => noDraw b
  | _ => true

/-- What stands behind, and what was kept. -/
def PostK (N : Nat) (c : Cx) (s : S) (w : World) (a : Act) (W : Nat → Bool) (s' : S) (a' : Act) (w' : World) : Prop :=
  Post N c s w a.defers s' a' w' ∧ ∀ t, W t = false → a'.tmps[t]? = a.tmps[t]?

theorem put_keep {a : Act} {dst : Option Nat} {x : Value} {t : Nat} (h : dst ≠ some t) : (a.put dst x).tmps[t]? = a.tmps[t]? := by
  cases dst with
  | none => rfl
  | some d =>
    simp only [Act.put]
    exact Array.getElem?_setIfInBounds_ne (fun e => h (by rw [e]))

theorem dst_ne {o : Oper} {t : Nat} (h : dstIs o t = false) : o.dst ≠ some t := by
  intro e
  unfold dstIs at h
  rw [e] at h
  simp [beq_dec] at h

theorem ops_keep {call : CallT} {N : Nat} {ops : Array Oper} (hc : CallOk Tryz.prog call) {Q : Exit → Act → World → Prop} {rest : List Nat} : ∀ (l tail : List Oper) (i : Nat), ops.toList.drop i = l ++ tail → ∀ (s s' : S), opsRun Tryz.prog call N ops l s = some s' → ∀ (c : Cx) (a : Act) (w : World),
    R c s.hp.get w → Bd c s.nx → TmR c s.tm a.tmps → a.tmps.size = N → (∀ a' w', PostK N c s w a (wrL l) s' a' w' → wpOps Tryz.prog ops Q rest a' w') → wpOps Tryz.prog ops Q (List.range' i l.length ++ rest) a w := by
  intro l
  induction l with
  | nil =>
    intro tail i hi s s' he c a w r hbd ht hN hQ
    simp [opsRun] at he; subst he
    exact hQ a w ⟨⟨rfl, hN, c, Mv.refl r, .refl c _, ht⟩, fun _ _ => rfl⟩
  | cons o l ih =>
    intro tail i hi s s' he c a w r hbd ht hN hQ
    have hio : ops[i]? = some o := by
      have : (ops.toList.drop i)[0]? = some o := by rw [hi]; rfl
      rw [List.getElem?_drop] at this
      simpa using this
    have hdrop : ops.toList.drop (i + 1) = l ++ tail := by rw [← List.drop_drop, hi]; rfl
    have hW : ∀ t, wrL (o :: l) t = false → dstIs o t = false ∧ wrL l t = false := by
      intro t h
      unfold wrL at h
      cases h1 : dstIs o t with
      | true => simp [h1] at h
      | false => simp only [h1, cond_false] at h; exact ⟨rfl, h⟩
    rw [List.length_cons, List.range'_succ, List.cons_append]
    simp only [wpOps, hio]
    unfold opsRun at he
    split at he
    · rename_i hg
      rw [if_pos (guard_sound ht hg)]
      split at he
      · rename_i v h nx hst
        split at he
        · rename_i tm hp
          refine .inl (step_wp plainly hc ht r hbd hst ?_)
          intro c' w' x hmv hgr hv
          obtain ⟨h1, h2, h3⟩ := put_sound hp (ht.mono hmv.le) hN hv
          refine ih tail (i + 1) hdrop _ _ he c' _ w' hmv.r (hgr.bd hbd) h1 h2 ?_
          rintro a' w'' ⟨⟨g1, g2, c'', g3, g4, g5⟩, g6⟩
          exact hQ _ _ ⟨⟨g1.trans h3, g2, c'', hmv.trans g3, hgr.trans g4, g5⟩, fun t ht => by rw [g6 t (hW t ht).2]; exact put_keep (dst_ne (hW t ht).1)⟩
        · cases he
      · cases he
    · rename_i hg
      have hw : ¬ (Region.wanted o (yielded ops a.tmps) = true) := by rw [guard_sound ht hg]; decide
      rw [if_neg hw]
      split at he
      · rename_i tm hp
        obtain ⟨h1, h2, h3⟩ := put_sound hp ht hN (undef_av c)
        refine ih tail (i + 1) hdrop _ _ he c _ w r hbd h1 h2 ?_
        rintro a' w'' ⟨⟨g1, g2, c'', g3, g4, g5⟩, g6⟩
        exact hQ _ _ ⟨⟨g1.trans h3, g2, c'', g3, g4, g5⟩, fun t ht => by rw [g6 t (hW t ht).2]; exact put_keep (dst_ne (hW t ht).1)⟩
      · cases he
    · cases he

def EPostK (N : Nat) (c : Cx) (s : S) (w : World) (a : Act) (W : Nat → Bool) (fl : Fl) (s' : S) : Exit → Act → World → Prop := fun e a' w' => e = fl.to ∧ PostK N c s w a W s' a' w'

theorem eval_keep {call : CallT} (hc : CallOk Tryz.prog call) (N L : Nat) : ∀ (code : Code), noDraw code = true → ∀ (s : S) (fl : Fl) (s' : S), evalC Tryz.prog call N L code s = some (fl, s') → ∀ (c : Cx) (a : Act) (w : World),
    R c s.hp.get w → Bd c s.nx → TmR c s.tm a.tmps → a.tmps.size = N → code.wp Tryz.prog (EPostK N c s w a (wrC code) fl s') a w := by
  intro code
  induction code with
  | skip =>
    intro _ s fl s' he c a w r hbd ht hN
    simp [evalC] at he; obtain ⟨rfl, rfl⟩ := he
    exact wp_skip ⟨rfl, ⟨rfl, hN, c, Mv.refl r, .refl c _, ht⟩, fun _ _ => rfl⟩
  | label l =>
    intro _ s fl s' he c a w r hbd ht hN
    simp [evalC] at he; obtain ⟨rfl, rfl⟩ := he
    exact wp_label ⟨rfl, ⟨rfl, hN, c, Mv.refl r, .refl c _, ht⟩, fun _ _ => rfl⟩
  | exit id =>
    intro _ s fl s' he c a w r hbd ht hN
    simp [evalC] at he; obtain ⟨rfl, rfl⟩ := he
    exact wp_exit ⟨rfl, ⟨rfl, hN, c, Mv.refl r, .refl c _, ht⟩, fun _ _ => rfl⟩
  | ret =>
    intro _ s fl s' he c a w r hbd ht hN
    simp [evalC] at he; obtain ⟨rfl, rfl⟩ := he
    exact wp_ret ⟨rfl, ⟨rfl, hN, c, Mv.refl r, .refl c _, ht⟩, fun _ _ => rfl⟩
  | goto l => intro _ s fl s' he; simp [evalC] at he
  | refuse y => intro _ s fl s' he; simp [evalC] at he
  | rangeFunc f p x y => intro _ s fl s' he; simp [evalC] at he
  | region id ops draw =>
    intro hok s fl s' he c a w r hbd ht hN
    cases draw with
    | true => cases hok
    | false =>
      simp only [evalC, cond_false] at he
      split at he
      · rename_i s1 hs
        simp at he; obtain ⟨rfl, rfl⟩ := he
        refine wp_region ?_
        rw [List.range_eq_range']
        have hwr : wrC (.region id ops false) = wrL ops.toList := by funext t; simp [wrC]
        rw [hwr]
        have := ops_keep hc (Q := EPostK N c s w a (wrL ops.toList) .norm s1) (rest := []) ops.toList [] 0 (by simp) s s1 hs c a w r hbd ht hN (fun a' w' hp => ⟨rfl, hp⟩)
        simpa using this
      · cases he
  | seq x y ihx ihy =>
    intro hok s fl s' he c a w r hbd ht hN
    simp only [noDraw] at hok
    cases hokx : noDraw x with
    | false => simp [hokx] at hok
    | true =>
      simp only [hokx, cond_true] at hok
      have hW : ∀ t, wrC (.seq x y) t = false → wrC x t = false ∧ wrC y t = false := by
        intro t h
        unfold wrC at h
        cases h1 : wrC x t with
        | true => simp [h1] at h
        | false => simp only [h1, cond_false] at h; exact ⟨rfl, h⟩
      simp only [evalC] at he
      split at he
      · rename_i s1 h1
        refine wp_seq (wp_mono (ihx hokx s .norm s1 h1 c a w r hbd ht hN) ?_)
        rintro e a1 w1 ⟨rfl, ⟨g1, g2, c1, g3, g4, g5⟩, g6⟩
        refine wp_mono (ihy hok s1 fl s' he c1 a1 w1 g3.r (g4.bd hbd) g5 g2) ?_
        rintro e a2 w2 ⟨rfl, hp, k⟩
        exact ⟨rfl, Post.trans g1 g3 g4 hp, fun t ht => by rw [k t (hW t ht).2]; exact g6 t (hW t ht).1⟩
      · rename_i hne
        refine wp_seq (wp_mono (ihx hokx s fl s' he c a w r hbd ht hN) ?_)
        rintro e a1 w1 ⟨rfl, hp, k⟩
        have k' : ∀ t, wrC (.seq x y) t = false → a1.tmps[t]? = a.tmps[t]? := fun t ht => k t (hW t ht).1
        cases fl with
        | norm => exact absurd he (hne s')
        | exit id => exact ⟨rfl, hp, k'⟩
        | ret => exact ⟨rfl, hp, k'⟩
  | cond q x y ihx ihy =>
    intro hok s fl s' he c a w r hbd ht hN
    simp only [noDraw] at hok
    cases hokx : noDraw x with
    | false => simp [hokx] at hok
    | true =>
      simp only [hokx, cond_true] at hok
      have hW : ∀ t, wrC (.cond q x y) t = false → wrC x t = false ∧ wrC y t = false := by
        intro t h
        unfold wrC at h
        cases h1 : wrC x t with
        | true => simp [h1] at h
        | false => simp only [h1, cond_false] at h; exact ⟨rfl, h⟩
      simp only [evalC] at he
      split at he
      · rename_i hq
        exact wp_cond_true (opnd_sound ht hq) (wp_mono (ihx hokx s fl s' he c a w r hbd ht hN) fun e a' w' h => ⟨h.1, h.2.1, fun t ht => h.2.2 t (hW t ht).1⟩)
      · rename_i hq
        exact wp_cond_false (opnd_sound ht hq) (wp_mono (ihy hok s fl s' he c a w r hbd ht hN) fun e a' w' h => ⟨h.1, h.2.1, fun t ht => h.2.2 t (hW t ht).2⟩)
      · cases he
  | block id b ih =>
    intro hok s fl s' he c a w r hbd ht hN
    simp only [noDraw] at hok
    simp only [evalC] at he
    split at he
    · rename_i i s1 h1
      refine wp_block (wp_mono (ih hok s (.exit i) s1 h1 c a w r hbd ht hN) ?_)
      rintro e a1 w1 ⟨rfl, hp⟩
      simp only [Fl.to, Exit.inBlock]
      simp only [beq_dec] at he
      by_cases hi : i = id
      · simp [hi] at he; obtain ⟨rfl, rfl⟩ := he
        rw [if_pos hi]; exact ⟨rfl, hp⟩
      · simp [hi] at he; obtain ⟨rfl, rfl⟩ := he
        rw [if_neg hi]; exact ⟨rfl, hp⟩
    · rename_i hne
      refine wp_block (wp_mono (ih hok s fl s' he c a w r hbd ht hN) ?_)
      rintro e a1 w1 ⟨rfl, hp⟩
      cases fl with
      | norm => exact ⟨rfl, hp⟩
      | exit i => exact absurd he (hne i s')
      | ret => exact ⟨rfl, hp⟩
  | loop b ih =>
    intro hok s fl s' he c a w r hbd ht hN
    simp only [noDraw] at hok
    simp only [evalC] at he
    refine wp_loop_ghost (fun n a1 w1 => ∃ s1 c1, iter (evalC Tryz.prog call N L b) n s1 = some (fl, s') ∧ a1.defers = a.defers ∧ a1.tmps.size = N ∧ Mv c s.hp.get w c1 s1.hp.get w1 ∧ Gr c s.nx c1 s1.nx ∧ TmR c1 s1.tm a1.tmps ∧ ∀ t, wrC b t = false → a1.tmps[t]? = a.tmps[t]?) L ⟨s, c, he, rfl, hN, Mv.refl r, .refl c _, ht, fun _ _ => rfl⟩ ?_
    rintro n a1 w1 ⟨s1, c1, hit, g1, g2, g3, g4, g5, g6⟩
    cases n with
    | zero => simp [iter] at hit
    | succ n =>
      simp only [iter] at hit
      split at hit
      · rename_i s2 h2
        refine wp_mono (ih hok s1 .norm s2 h2 c1 a1 w1 g3.r (g4.bd hbd) g5 g2) ?_
        rintro e a2 w2 ⟨rfl, ⟨k1, k2, c2, k3, k4, k5⟩, k6⟩
        exact ⟨n, Nat.lt_succ_self n, s2, c2, hit, k1.trans g1, k2, g3.trans k3, g4.trans k4, k5, fun t ht => (k6 t ht).trans (g6 t ht)⟩
      · rename_i hne
        refine wp_mono (ih hok s1 fl s' hit c1 a1 w1 g3.r (g4.bd hbd) g5 g2) ?_
        rintro e a2 w2 ⟨rfl, hp, k6⟩
        have hp' := Post.trans g1 g3 g4 hp
        have k' : ∀ t, wrC (.loop b) t = false → a2.tmps[t]? = a.tmps[t]? := fun t ht => (k6 t ht).trans (g6 t ht)
        cases fl with
        | norm => exact absurd hit (hne s')
        | exit id => exact ⟨rfl, hp', k'⟩
        | ret => exact ⟨rfl, hp', k'⟩
  | scope b ih =>
    intro hok s fl s' he c a w r hbd ht hN
    simp only [noDraw] at hok
    simp only [evalC] at he
    refine wp_scope_straight (wp_mono (ih hok s fl s' he c a w r hbd ht hN) ?_)
    rintro e a1 w1 ⟨rfl, hp⟩
    cases fl <;> exact ⟨rfl, hp⟩

/-! ### Pieces in a row -/
def seqs : List Code → Code → Code
  | [], y => y
  | x :: l, y => .seq x (seqs l y)

def wrS : List Code → Nat → Bool
  | [], _ => false
  | x :: l, t => bif wrC x t then true else wrS l t

def noDraws : List Code → Bool
  | [] => true
  | x :: l => bif noDraw x then noDraws l else false

def evalL (call : CallT) (N L : Nat) : List Code → T AV → Hp → Nat → Option S
  | [], tm, h, nx => some ⟨tm, h, nx⟩
  | x :: l, tm, h, nx => match (codeK Tryz.prog N L x).run call tm h nx with
    | some (.norm, ⟨tm, h, nx⟩) => evalL call N L l tm h nx
    | _ => none

theorem seqs_keep {call : CallT} (hc : CallOk Tryz.prog call) (N L : Nat) {y : Code} {Q : Exit → Act → World → Prop} : ∀ (l : List Code), noDraws l = true → ∀ (s s' : S), evalL call N L l s.tm s.hp s.nx = some s' → ∀ (c : Cx) (a : Act) (w : World),
    R c s.hp.get w → Bd c s.nx → TmR c s.tm a.tmps → a.tmps.size = N → (∀ a' w', PostK N c s w a (wrS l) s' a' w' → y.wp Tryz.prog Q a' w') → (seqs l y).wp Tryz.prog Q a w := by
  intro l
  induction l with
  | nil =>
    intro _ s s' he c a w r hbd ht hN hQ
    simp [evalL] at he; subst he
    exact hQ a w ⟨⟨rfl, hN, c, Mv.refl r, .refl c _, ht⟩, fun _ _ => rfl⟩
  | cons x l ih =>
    intro hok s s' he c a w r hbd ht hN hQ
    unfold noDraws at hok
    cases hokx : noDraw x with
    | false => simp [hokx] at hok
    | true =>
      simp only [hokx, cond_true] at hok
      have hW : ∀ t, wrS (x :: l) t = false → wrC x t = false ∧ wrS l t = false := by
        intro t h
        unfold wrS at h
        cases h1 : wrC x t with
        | true => simp [h1] at h
        | false => simp only [h1, cond_false] at h; exact ⟨rfl, h⟩
      unfold evalL at he
      rw [codeK_eq] at he
      split at he
      · rename_i tm h nx hev
        refine wp_seq (wp_mono (eval_keep hc N L x hokx s .norm ⟨tm, h, nx⟩ hev c a w r hbd ht hN) ?_)
        rintro e a1 w1 ⟨rfl, ⟨g1, g2, c1, g3, g4, g5⟩, g6⟩
        refine ih hok ⟨tm, h, nx⟩ s' he c1 a1 w1 g3.r (g4.bd hbd) g5 g2 ?_
        rintro a2 w2 ⟨hp, k⟩
        exact hQ a2 w2 ⟨Post.trans g1 g3 g4 hp, fun t ht => by rw [k t (hW t ht).2]; exact g6 t (hW t ht).1⟩
      · cases he

/-! ### The same, looked at -/
def allEq : List (Nat × AV) → T AV → Bool
  | [], _ => true
  | (t, v) :: l, tm => match tm.get t with
    | some u => bif resEq v u then allEq l tm else false
    | none => false

theorem allEq_get : ∀ (l : List (Nat × AV)) (tm : T AV), allEq l tm = true → ∀ t v, (t, v) ∈ l → tm.get t = some v := by
  intro l
  induction l with
  | nil => intro tm _ t v h; cases h
  | cons p l ih =>
    intro tm he t v h
    obtain ⟨u, x⟩ := p
    unfold allEq at he
    split at he
    · rename_i y hy
      cases h1 : resEq x y with
      | false => simp [h1] at he
      | true =>
        simp only [h1, cond_true] at he
        rcases List.mem_cons.1 h with hh | hh
        · cases hh; rw [hy, resEq_eq h1]
        · exact ih tm he t v hh
    · cases he

/-- A state is such as is told. -/
def isS (L : List (Nat × AV)) (h : Hp) (nx : Nat) (r : Option S) : Bool := match r with
  | some s => bif allEq L s.tm then (bif hpLe h s.hp then Nat.beq nx s.nx else false) else false
  | none => false

def flEq : Fl → Fl → Bool
  | .norm, .norm => true
  | .exit i, .exit j => Nat.beq i j
  | .ret, .ret => true
  | _, _ => false
theorem flEq_eq {a b : Fl} (h : flEq a b = true) : a = b := by
  cases a <;> cases b <;> first | rfl | cases h | (rw [beq_true h])

def isC (fl : Fl) (L : List (Nat × AV)) (h : Hp) (nx : Nat) (r : Option (Fl × S)) : Bool := match r with
  | some (f, s) => bif flEq fl f then isS L h nx (some s) else false
  | none => false

/-- What stands behind a piece, as told; what it does not write is kept. -/
def AfterK (N : Nat) (c : Cx) (h : Hp) (nx : Nat) (w : World) (a : Act) (W : Nat → Bool) (L : List (Nat × AV)) (h' : Hp) (nx' : Nat) (a' : Act) (w' : World) : Prop :=
  a'.defers = a.defers ∧ a'.tmps.size = N ∧ (∃ c', Mv c h.get w c' h'.get w' ∧ Gr c nx c' nx' ∧ Kn c' L a'.tmps) ∧ ∀ t, W t = false → a'.tmps[t]? = a.tmps[t]?

theorem afterK_of {N : Nat} {c : Cx} {s s' : S} {w : World} {a : Act} {W : Nat → Bool} {L : List (Nat × AV)} {h' : Hp} {nx' : Nat} {a' : Act} {w' : World} (hv : isS L h' nx' (some s') = true) (h : PostK N c s w a W s' a' w') : AfterK N c s.hp s.nx w a W L h' nx' a' w' := by
  unfold isS at hv
  simp only at hv
  cases h1 : allEq L s'.tm with
  | false => simp [h1] at hv
  | true =>
    cases h2 : hpLe h' s'.hp with
    | false => simp [h1, h2] at hv
    | true =>
      simp only [h1, h2, cond_true] at hv
      have e := beq_true hv
      subst e
      obtain ⟨⟨g1, g2, c', g3, g4, g5⟩, g6⟩ := h
      exact ⟨g1, g2, ⟨c', g3.lessOf h2, g4, fun t v htv => g5 t v (allEq_get L s'.tm h1 t v htv)⟩, g6⟩

theorem pieces {call : CallT} (hc : CallOk Tryz.prog call) {N L : Nat} (l : List Code) (hok : noDraws l = true) {Ls L' : List (Nat × AV)} {h h' : Hp} {nx nx' : Nat} (he : isS L' h' nx' (evalL call N L l (T.of Ls) h nx) = true)
    {y : Code} {Q : Exit → Act → World → Prop} {c : Cx} {a : Act} {w : World} (r : R c h.get w) (hbd : Bd c nx) (hk : Kn c Ls a.tmps) (hN : a.tmps.size = N)
    (hQ : ∀ a' w', AfterK N c h nx w a (wrS l) L' h' nx' a' w' → y.wp Tryz.prog Q a' w') : (seqs l y).wp Tryz.prog Q a w := by
  cases hev : evalL call N L l (T.of Ls) h nx with
  | none => rw [hev] at he; cases he
  | some s' =>
    rw [hev] at he
    exact seqs_keep hc N L l hok ⟨T.of Ls, h, nx⟩ s' hev c a w r hbd hk.tm hN fun a' w' hp => hQ a' w' (afterK_of he hp)

theorem pieceC {call : CallT} (hc : CallOk Tryz.prog call) {N L : Nat} (code : Code) (hok : noDraw code = true) {fl : Fl} {Ls L' : List (Nat × AV)} {h h' : Hp} {nx nx' : Nat} (he : isC fl L' h' nx' ((codeK Tryz.prog N L code).run call (T.of Ls) h nx) = true)
    {c : Cx} {a : Act} {w : World} (r : R c h.get w) (hbd : Bd c nx) (hk : Kn c Ls a.tmps) (hN : a.tmps.size = N) :
    code.wp Tryz.prog (fun e a' w' => e = fl.to ∧ AfterK N c h nx w a (wrC code) L' h' nx' a' w') a w := by
  rw [codeK_eq] at he
  unfold isC at he
  split at he
  · rename_i f s' hev
    cases h1 : flEq fl f with
    | false => simp [h1] at he
    | true =>
      simp only [h1, cond_true] at he
      have e := flEq_eq h1
      subst e
      refine wp_mono (eval_keep hc N L code hok ⟨T.of Ls, h, nx⟩ fl s' hev c a w r hbd hk.tm hN) ?_
      rintro e a' w' ⟨rfl, hp⟩
      exact ⟨rfl, afterK_of he hp⟩
  · cases he

theorem segK {call : CallT} (hc : CallOk Tryz.prog call) {N : Nat} {ops : Array Oper} {Q : Exit → Act → World → Prop} {rest : List Nat} (l tail : List Oper) (i : Nat) (hi : ops.toList.drop i = l ++ tail) {Ls L' : List (Nat × AV)} {h h' : Hp} {nx nx' : Nat}
    (he : isS L' h' nx' ((runK Tryz.prog N ops l).run call (T.of Ls) h nx) = true) {c : Cx} {a : Act} {w : World} (r : R c h.get w) (hbd : Bd c nx) (hk : Kn c Ls a.tmps) (hN : a.tmps.size = N)
    (hQ : ∀ a' w', AfterK N c h nx w a (wrL l) L' h' nx' a' w' → wpOps Tryz.prog ops Q rest a' w') : wpOps Tryz.prog ops Q (List.range' i l.length ++ rest) a w := by
  rw [runK_eq] at he
  cases hev : opsRun Tryz.prog call N ops l ⟨T.of Ls, h, nx⟩ with
  | none => rw [hev] at he; cases he
  | some s' =>
    rw [hev] at he
    exact ops_keep hc l tail i hi _ s' hev c a w r hbd hk.tm hN fun a' w' hp => hQ a' w' (afterK_of he hp)

/-- What was known of slots that were kept. -/
theorem Kn.keep {c c' : Cx} (hl : c.le c') {L : List (Nat × AV)} {a a' : Array Value} {W : Nat → Bool} (h : Kn c L a) (hk : ∀ t, W t = false → a'[t]? = a[t]?) (hW : ∀ t v, (t, v) ∈ L → W t = false) : Kn c' L a' := by
  intro t v htv
  obtain ⟨x, hx, hr⟩ := h t v htv
  exact ⟨x, by rw [hk t (hW t v htv)]; exact hx, hr.mono hl⟩
theorem Kn.and {c : Cx} {L L' : List (Nat × AV)} {a : Array Value} (h : Kn c L a) (h' : Kn c L' a) : Kn c (L ++ L') a := fun t v htv => (List.mem_append.1 htv).elim (h t v) (h' t v)

end
end Go.Proofs.YtljkldmjakabdaaGreat.Ev

