/- TopCounts by reckoning: code and calls do as reckoned. -/
import Derived.Test.YtljkldmjakabdaaGreatEvG
namespace Go.Proofs.YtljkldmjakabdaaGreat.Ev
open Go

variable {P : Program}

def DrawOk (P : Program) : Prop := ∀ (call : CallT) (N : Nat) (ops : Array Oper) (s s' : S), statOk ops = true → Plainly P → CallOk P call → drawRun P call N ops s = some s' → ∀ (c : Cx) (a : Act) (w : World) (Q : Exit → Act → World → Prop),
    R c s.hp.get w → Bd c s.nx → TmR c s.tm a.tmps → a.tmps.size = N → (∀ a' w', Post N c s w a.defers s' a' w' → Q .normal a' w') → ∀ id, (Code.region id ops true).wp P Q a w

theorem Post.trans {N : Nat} {c c' : Cx} {s s' s'' : S} {w w' w'' : World} {D : List Deferred} {a' a'' : Act} (h1 : a'.defers = D) (hmv : Mv c s.hp.get w c' s'.hp.get w') (hgr : Gr c s.nx c' s'.nx) (h2 : Post N c' s' w' a'.defers s'' a'' w'') : Post N c s w D s'' a'' w'' := by
  obtain ⟨g1, g2, c'', g3, g4, g5⟩ := h2
  exact ⟨g1.trans h1, g2, c'', hmv.trans g3, hgr.trans g4, g5⟩

/-- The post of a piece of code. -/
def EPost (N : Nat) (c : Cx) (s : S) (w : World) (D : List Deferred) (fl : Fl) (s' : S) : Exit → Act → World → Prop := fun e a' w' => e = fl.to ∧ Post N c s w D s' a' w'

theorem eval_sound (hP : Plainly P) (hD : DrawOk P) {call : CallT} (hc : CallOk P call) (N L : Nat) : ∀ (code : Code), codeOk code = true → ∀ (s : S) (fl : Fl) (s' : S), evalC P call N L code s = some (fl, s') → ∀ (c : Cx) (a : Act) (w : World),
    R c s.hp.get w → Bd c s.nx → TmR c s.tm a.tmps → a.tmps.size = N → code.wp P (EPost N c s w a.defers fl s') a w := by
  intro code
  induction code with
  | skip =>
    intro _ s fl s' he c a w r hbd ht hN
    simp [evalC] at he; obtain ⟨rfl, rfl⟩ := he
    exact wp_skip ⟨rfl, rfl, hN, c, Mv.refl r, .refl c _, ht⟩
  | label l =>
    intro _ s fl s' he c a w r hbd ht hN
    simp [evalC] at he; obtain ⟨rfl, rfl⟩ := he
    exact wp_label ⟨rfl, rfl, hN, c, Mv.refl r, .refl c _, ht⟩
  | exit id =>
    intro _ s fl s' he c a w r hbd ht hN
    simp [evalC] at he; obtain ⟨rfl, rfl⟩ := he
    exact wp_exit ⟨rfl, rfl, hN, c, Mv.refl r, .refl c _, ht⟩
  | ret =>
    intro _ s fl s' he c a w r hbd ht hN
    simp [evalC] at he; obtain ⟨rfl, rfl⟩ := he
    exact wp_ret ⟨rfl, rfl, hN, c, Mv.refl r, .refl c _, ht⟩
  | goto l => intro _ s fl s' he; simp [evalC] at he
  | refuse y => intro _ s fl s' he; simp [evalC] at he
  | rangeFunc f p x y => intro _ s fl s' he; simp [evalC] at he
  | region id ops draw =>
    intro hok s fl s' he c a w r hbd ht hN
    cases draw with
    | true =>
      simp only [evalC, cond_true] at he
      simp only [codeOk, cond_true] at hok
      split at he
      · rename_i s1 hs
        simp at he; obtain ⟨rfl, rfl⟩ := he
        exact hD call N ops s s1 hok hP hc hs c a w _ r hbd ht hN (fun a' w' hp => ⟨rfl, hp⟩) id
      · cases he
    | false =>
      simp only [evalC, cond_false] at he
      split at he
      · rename_i s1 hs
        simp at he; obtain ⟨rfl, rfl⟩ := he
        refine wp_region ?_
        rw [List.range_eq_range']
        have := ops_sound hP hc (Q := EPost N c s w a.defers .norm s1) ops.toList 0 rfl s s1 hs c a w r hbd ht hN (fun a' w' hp => ⟨rfl, hp⟩)
        simpa using this
      · cases he
  | seq x y ihx ihy =>
    intro hok s fl s' he c a w r hbd ht hN
    simp only [codeOk] at hok
    cases hokx : codeOk x with
    | false => simp [hokx] at hok
    | true =>
      simp only [hokx, cond_true] at hok
      simp only [evalC] at he
      split at he
      · rename_i s1 h1
        refine wp_seq (wp_mono (ihx hokx s .norm s1 h1 c a w r hbd ht hN) ?_)
        rintro e a1 w1 ⟨rfl, g1, g2, c1, g3, g4, g5⟩
        refine wp_mono (ihy hok s1 fl s' he c1 a1 w1 g3.r (g4.bd hbd) g5 g2) ?_
        rintro e a2 w2 ⟨rfl, hp⟩
        exact ⟨rfl, Post.trans g1 g3 g4 hp⟩
      · rename_i hne
        refine wp_seq (wp_mono (ihx hokx s fl s' he c a w r hbd ht hN) ?_)
        rintro e a1 w1 ⟨rfl, hp⟩
        cases fl with
        | norm => exact absurd he (hne s')
        | exit id => exact ⟨rfl, hp⟩
        | ret => exact ⟨rfl, hp⟩
  | cond q x y ihx ihy =>
    intro hok s fl s' he c a w r hbd ht hN
    simp only [codeOk] at hok
    cases hokx : codeOk x with
    | false => simp [hokx] at hok
    | true =>
      simp only [hokx, cond_true] at hok
      simp only [evalC] at he
      split at he
      · rename_i hq
        exact wp_cond_true (opnd_sound ht hq) (ihx hokx s fl s' he c a w r hbd ht hN)
      · rename_i hq
        exact wp_cond_false (opnd_sound ht hq) (ihy hok s fl s' he c a w r hbd ht hN)
      · cases he
  | block id b ih =>
    intro hok s fl s' he c a w r hbd ht hN
    simp only [codeOk] at hok
    simp only [evalC] at he
    split at he
    · rename_i i s1 h1
      refine wp_block (wp_mono (ih hok s (.exit i) s1 h1 c a w r hbd ht hN) ?_)
      rintro e a1 w1 ⟨rfl, hp⟩
      simp only [Fl.to, Exit.inBlock]
      simp only [beq_dec] at he
      by_cases hi : i = id
      · simp [hi] at he; obtain ⟨rfl, rfl⟩ := he
        rw [if_pos hi]; exact ⟨rfl, hp⟩
      · simp [hi] at he; obtain ⟨rfl, rfl⟩ := he
        rw [if_neg hi]; exact ⟨rfl, hp⟩
    · rename_i hne
      refine wp_block (wp_mono (ih hok s fl s' he c a w r hbd ht hN) ?_)
      rintro e a1 w1 ⟨rfl, hp⟩
      cases fl with
      | norm => exact ⟨rfl, hp⟩
      | exit i => exact absurd he (hne i s')
      | ret => exact ⟨rfl, hp⟩
  | loop b ih =>
    intro hok s fl s' he c a w r hbd ht hN
    simp only [codeOk] at hok
    simp only [evalC] at he
    refine wp_loop_ghost (fun n a1 w1 => ∃ s1 c1, iter (evalC P call N L b) n s1 = some (fl, s') ∧ a1.defers = a.defers ∧ a1.tmps.size = N ∧ Mv c s.hp.get w c1 s1.hp.get w1 ∧ Gr c s.nx c1 s1.nx ∧ TmR c1 s1.tm a1.tmps) L ⟨s, c, he, rfl, hN, Mv.refl r, .refl c _, ht⟩ ?_
    rintro n a1 w1 ⟨s1, c1, hit, g1, g2, g3, g4, g5⟩
    cases n with
    | zero => simp [iter] at hit
    | succ n =>
      simp only [iter] at hit
      split at hit
      · rename_i s2 h2
        refine wp_mono (ih hok s1 .norm s2 h2 c1 a1 w1 g3.r (g4.bd hbd) g5 g2) ?_
        rintro e a2 w2 ⟨rfl, k1, k2, c2, k3, k4, k5⟩
        exact ⟨n, Nat.lt_succ_self n, s2, c2, hit, k1.trans g1, k2, g3.trans k3, g4.trans k4, k5⟩
      · rename_i hne
        refine wp_mono (ih hok s1 fl s' hit c1 a1 w1 g3.r (g4.bd hbd) g5 g2) ?_
        rintro e a2 w2 ⟨rfl, hp⟩
        have hp' := Post.trans g1 g3 g4 hp
        cases fl with
        | norm => exact absurd hit (hne s')
        | exit id => exact ⟨rfl, hp'⟩
        | ret => exact ⟨rfl, hp'⟩
  | scope b ih =>
    intro hok s fl s' he c a w r hbd ht hN
    simp only [codeOk] at hok
    simp only [evalC] at he
    refine wp_scope_straight (wp_mono (ih hok s fl s' he c a w r hbd ht hN) ?_)
    rintro e a1 w1 ⟨rfl, hp⟩
    cases fl <;> exact ⟨rfl, hp⟩

/-- One result. -/
def resG (a : Array Value) : ResultVar → Sem Value
  | .tmp t => pure (a.getD t undef)
  | .cell b t => do loadVar t (← asAddr (a.getD b undef))

theorem results_eq (fn : Func) (a : Array Value) : results fn a = (do let vs ← fn.results.mapM (resG a); pure (if h : vs.size = 1 then vs[0] else .tuple vs)) := by
  unfold results
  congr 1

theorem results_sound {tm : T AV} {h : Hp} {c : Cx} {a : Array Value} {w : World} (r : R c h.get w) (ht : TmR c tm a) : ∀ (l : List ResultVar) (q : List (List At × Bool)), resOf P tm h l = some q →
    ∃ vs : List Value, (l.mapM (resG a)).run P w = .ok vs w ∧ All2 (CpR c) q vs := by
  intro l
  induction l with
  | nil => intro q h; simp [resOf] at h; subst h; exact ⟨[], rfl, .nil⟩
  | cons x l ih =>
    intro q hq
    cases x with
    | tmp t =>
      simp only [resOf] at hq
      split at hq
      · rename_i y l' hy hl
        simp at hq; subst hq
        obtain ⟨vs, h1, h2⟩ := ih _ hl
        obtain ⟨v, hv, hr⟩ := ht _ _ hy
        exact ⟨v :: vs, by simp [resG, hv, h1, Result.andThen], .cons ⟨fun h => (by cases h), fun _ => ⟨y, rfl, hr⟩⟩ h2⟩
      · rename_i y l' hy hl
        simp at hq; subst hq
        obtain ⟨vs, h1, h2⟩ := ih _ hl
        obtain ⟨v, hv, hr⟩ := ht _ _ hy
        exact ⟨v :: vs, by simp [resG, hv, h1, Result.andThen], .cons ⟨fun _ => hr, fun h => (by cases h)⟩ h2⟩
      · cases hq
    | cell b t =>
      simp only [resOf] at hq
      split at hq
      · rename_i id off n l' hy hg hn hl
        split at hq
        · rename_i y hrd
          simp at hq; subst hq
          obtain ⟨vs, h1, h2⟩ := ih _ hl
          obtain ⟨v, hv, hr⟩ := ht _ _ hy
          obtain ⟨p, hp, rfl⟩ : ∃ p, c id = some p ∧ v = .pointer (some ⟨p.b, p.o + off, none⟩) := hr
          obtain ⟨us, k1, k2, k3⟩ := rdN_sound r hrd hp
          have h4 := run_loadCells_list (P := P) (w := w) ⟨p.b, p.o + off, none⟩ us k2
          rw [k1] at h4
          exact ⟨.agg us.toArray :: vs, by simp [resG, hv, asAddr, loadVar, run_isAgg hg, run_size hn, h4, h1, Result.andThen], .cons ⟨fun _ => ⟨us.toArray, rfl, by simpa using k3⟩, fun h => (by cases h)⟩ h2⟩
        · cases hq
      · rename_i id off n l' hy hg hn hl
        split at hq
        · rename_i y hrd
          simp at hq; subst hq
          obtain ⟨vs, h1, h2⟩ := ih _ hl
          obtain ⟨v, hv, hr⟩ := ht _ _ hy
          obtain ⟨p, hp, rfl⟩ : ∃ p, c id = some p ∧ v = .pointer (some ⟨p.b, p.o + off, none⟩) := hr
          obtain ⟨u, k1, k2⟩ := rd_sound r hrd hp
          exact ⟨u :: vs, by simp [resG, hv, asAddr, loadVar, run_isAgg hg, k1, h1, Result.andThen], .cons ⟨fun h => (by cases h), fun _ => ⟨y, rfl, k2⟩⟩ h2⟩
        · cases hq
      · cases hq

theorem resV_sound {c : Cx} {q : List (List At × Bool)} {v : AV} {vs : List Value} (hq : resV q = some v) (h : All2 (CpR c) q vs) : AvR c v (if hs : vs.toArray.size = 1 then vs.toArray[0] else .tuple vs.toArray) := by
  have hlen := h.length
  unfold resV at hq
  split at hq
  · rename_i l g
    cases h with
    | cons r h =>
      cases h
      rw [dif_pos (by simp)]
      exact back_sound hq r
  · rename_i hne
    simp at hq; subst hq
    have : vs.length ≠ 1 := by
      intro h1
      cases h with
      | nil => simp at h1
      | cons r h =>
        cases h with
        | nil => exact hne _ _ rfl
        | cons _ _ => simp at h1
    rw [dif_neg (by simpa using this)]
    exact ⟨vs.toArray, rfl, by simpa using h⟩

theorem call_sound (hP : Plainly P) (hD : DrawOk P) (hF : ∀ (f : Nat) (fn : Func) (code : Code), P.funcs[f]? = some fn → fn.body = some code → codeOk code = true) {call : CallT} (hc : CallOk P call) (L : Nat) : CallOk P (callC P call L) := by
  intro f args h nx v h' nx' he
  unfold callC at he
  split at he
  · cases he
  rename_i fn hfn
  split at he
  · cases he
  rename_i code hbody
  simp only [ble_dec] at he
  by_cases hle : args.length ≤ fn.ntmps
  case neg => simp [hle] at he
  simp only [hle, decide_true, cond_true] at he
  refine ⟨⟨fn, hfn, by simp [hbody]⟩, fun c w vs r hbd hargs => ?_⟩
  have hlen := hargs.length
  simp only [Array.length_toList] at hlen
  have ht : TmR c (T.ofList args 0 .leaf) (vs ++ Array.replicate (fn.ntmps - vs.size) undef) := by
    intro t u hu
    rcases T.get_ofList _ _ _ _ _ hu with ⟨_, h2⟩ | ⟨_, h2⟩
    · simp only [Nat.sub_zero] at h2
      obtain ⟨x, hx, hr⟩ := hargs.get t u h2
      refine ⟨x, ?_, hr⟩
      have hlt := (List.getElem?_eq_some_iff.1 hx).1
      rw [Array.getElem?_append_left (by simpa using hlt)]
      simpa using hx
    · cases h2
  have hN : (vs ++ Array.replicate (fn.ntmps - vs.size) undef).size = fn.ntmps := by simp; omega
  refine calls_of_wp hfn hbody ?_
  split at he
  · cases he
  · rename_i fl s hne hev
    split at he
    · rename_i q hq
      split at he
      · rename_i v1 hv1
        simp only [Option.some.injEq, Prod.mk.injEq] at he
        obtain ⟨rfl, rfl, rfl⟩ := he
        refine wp_mono (eval_sound hP hD hc fn.ntmps L code (hF f fn code hfn hbody) _ fl s hev c { tmps := vs ++ Array.replicate (fn.ntmps - vs.size) undef, defers := [] } w r hbd ht hN) ?_
        rintro e a1 w1 ⟨rfl, g1, g2, c1, g3, g4, g5⟩
        obtain ⟨us, k1, k2⟩ := results_sound (P := P) g3.r g5 _ _ hq
        have hres : (results fn a1.tmps).run P w1 = .ok (if hs : us.toArray.size = 1 then us.toArray[0] else .tuple us.toArray) w1 := by
          have : (fn.results.mapM (resG a1.tmps)).run P w1 = .ok us.toArray w1 := by
            rw [Array.mapM_eq_mapM_toList]
            rw [map_eq_pure_bind]
            simp [k1, Result.andThen]
          rw [results_eq]
          simp only [Sem.run_bind, this, Result.andThen_ok, Sem.run_pure]
        have fin : bodyPost P fn (fun e w' => ∃ x c', e = .returned x ∧ Mv c h.get w c' s.hp.get w' ∧ Gr c nx c' s.nx ∧ AvR c' v1 x) .ret a1 w1 := ⟨g1, _, hres, _, c1, rfl, g3, g4, resV_sound hv1 k2⟩
        cases fl with
        | norm => exact fin
        | ret => exact fin
        | exit id => exact absurd hev (by intro hh; exact hne id rfl)
      · cases he
    · cases he
  · cases he

/-- The functions told by hand. -/
def PrimOk (P : Program) (prim : PrimT) : Prop := ∀ (f : Nat) (q : CallT → List AV → Hp → Nat → Option (AV × Hp × Nat)), prim f = some q → ∀ (call : CallT), CallOk P call → ∀ (args : List AV) (h : Hp) (nx : Nat) (v : AV) (h' : Hp) (nx' : Nat), q call args h nx = some (v, h', nx') →
  (∃ fn, P.funcs[f]? = some fn ∧ fn.body.isSome = true) ∧
  ∀ (c : Cx) (w : World) (vs : Array Value), R c h.get w → Bd c nx → All2 (AvR c) args vs.toList →
    Calls P f vs w fun e w' => ∃ x c', e = .returned x ∧ Mv c h.get w c' h'.get w' ∧ Gr c nx c' nx' ∧ AvR c' v x

theorem callF_sound (hP : Plainly P) (hD : DrawOk P) (hF : ∀ (f : Nat) (fn : Func) (code : Code), P.funcs[f]? = some fn → fn.body = some code → codeOk code = true) {prim : PrimT} (hq : PrimOk P prim) (L : Nat) : ∀ d, CallOk P (callF P prim L d) := by
  intro d
  induction d with
  | zero => intro f args h nx v h' nx' he; simp [callF] at he
  | succ d ih =>
    intro f args h nx v h' nx' he
    unfold callF at he
    split at he
    · rename_i q hfq
      exact hq f q hfq _ ih args h nx v h' nx' he
    · exact call_sound hP hD hF ih L f args h nx v h' nx' he

end Go.Proofs.YtljkldmjakabdaaGreat.Ev

