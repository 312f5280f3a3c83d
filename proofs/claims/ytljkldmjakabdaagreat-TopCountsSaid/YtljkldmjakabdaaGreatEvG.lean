/- TopCounts by reckoning: operations in their order do as reckoned. -/
import Derived.Test.YtljkldmjakabdaaGreatEvC
import Derived.Test.YtljkldmjakabdaaGreatEvF
namespace Go.Proofs.YtljkldmjakabdaaGreat.Ev
open Go

variable {P : Program}

theorem step_wp {call : CallT} {c : Cx} {tm : T AV} {a : Act} {o : Oper} {v : AV} {h h' : Hp} {w : World} {nx nx' : Nat} {K : Act → World → Prop} {Q : Exit → Act → World → Prop} (hP : Plainly P) (hc : CallOk P call) (ht : TmR c tm a.tmps) (r : R c h.get w) (hbd : Bd c nx)
    (he : stepOp P call o tm h nx = some (v, h', nx')) (hK : Next1 c h nx w v h' nx' o a K) : o.wp P a w K Q := by
  unfold stepOp at he
  split at he
  · split at he
    · rename_i u hu
      simp only [Option.some.injEq, Prod.mk.injEq] at he
      obtain ⟨rfl, rfl, rfl⟩ := he
      exact read_wp r hbd (read_sound ht r hu) hK
    · cases he
  · split at he
    · rename_i u b hu
      simp only [Option.some.injEq, Prod.mk.injEq] at he
      obtain ⟨rfl, rfl, rfl⟩ := he
      exact alloc_wp r hbd (alloc_sound hbd.none ht hu) hK
    · cases he
  · exact eff_wp hP hc ht r hbd he hK

theorem av_bool {c : Cx} {v : AV} {x : Value} (h : AvR c v x) {b : Bool} (hx : x = .bool b) : v = .at (.bool b) := by
  subst hx
  cases v with
  | «at» a =>
    have : AtR c a (.bool b) := h
    cases a <;> simp [AtR] at this
    subst this; rfl
  | agg l => obtain ⟨cs, h1, _⟩ := h; cases h1
  | tup l => obtain ⟨cs, h1, _⟩ := h; cases h1

theorem guard_sound {ops : Array Oper} {tm : T AV} {c : Cx} {a : Array Value} {o : Oper} {b : Bool} (ht : TmR c tm a) (hg : guardOk ops tm o = some b) : Region.wanted o (yielded ops a) = b := by
  unfold guardOk at hg
  unfold Region.wanted
  split at hg
  · rename_i h; simp at hg; subst hg; simp [h]
  · rename_i j want h
    simp only [h]
    unfold yielded
    split at hg
    · rename_i hd
      simp at hg; subst hg
      simp [hd]
    · rename_i d hd
      simp only [hd, Option.bind_some]
      split at hg
      · rename_i b' hb
        obtain ⟨x, hx, hr⟩ := ht _ _ hb
        have : x = .bool b' := hr
        subst this
        simp only [Option.some.injEq] at hg
        simp only [hx]
        rw [← hg]
        cases b' <;> cases want <;> rfl
      · rename_i v hv hne
        obtain ⟨x, hx, hr⟩ := ht _ _ hne
        simp only [Option.some.injEq] at hg
        subst hg
        simp only [hx]
        cases x <;> first
          | rfl
          | (rename_i b'; exact absurd (av_bool hr rfl) (fun e => by subst e; exact hv _ rfl))
      · cases hg

theorem put_sound {N : Nat} {dst : Option Nat} {v : AV} {tm tm' : T AV} {c : Cx} {a : Act} {x : Value} (hp : putD N dst v tm = some tm') (ht : TmR c tm a.tmps) (hN : a.tmps.size = N) (hv : AvR c v x) : TmR c tm' (a.put dst x).tmps ∧ (a.put dst x).tmps.size = N ∧ (a.put dst x).defers = a.defers := by
  unfold putD at hp
  split at hp
  · simp at hp; subst hp; exact ⟨ht, hN, rfl⟩
  · rename_i d
    simp only [blt_dec] at hp
    by_cases hd : d < N
    case neg => simp [hd] at hp
    simp only [hd, decide_true, cond_true, Option.some.injEq] at hp
    subst hp
    refine ⟨fun t u hu => ?_, by simp [Act.put, hN], rfl⟩
    rcases T.get_set _ _ _ _ _ hu with ⟨rfl, rfl⟩ | ⟨hne, h2⟩
    · exact ⟨x, by simp [Act.put, hN, hd], hv⟩
    · obtain ⟨y, hy, hr⟩ := ht t u h2
      exact ⟨y, by simp only [Act.put]; rw [Array.getElem?_setIfInBounds_ne (fun e => hne e.symm)]; exact hy, hr⟩

/-- What stands behind a stretch of code. -/
def Post (N : Nat) (c : Cx) (s : S) (w : World) (D : List Deferred) (s' : S) (a' : Act) (w' : World) : Prop :=
  a'.defers = D ∧ a'.tmps.size = N ∧ ∃ c', Mv c s.hp.get w c' s'.hp.get w' ∧ Gr c s.nx c' s'.nx ∧ TmR c' s'.tm a'.tmps

theorem ops_sound {call : CallT} {N : Nat} {ops : Array Oper} (hP : Plainly P) (hc : CallOk P call) {Q : Exit → Act → World → Prop} : ∀ (l : List Oper) (i : Nat), ops.toList.drop i = l → ∀ (s s' : S), opsRun P call N ops l s = some s' → ∀ (c : Cx) (a : Act) (w : World),
    R c s.hp.get w → Bd c s.nx → TmR c s.tm a.tmps → a.tmps.size = N → (∀ a' w', Post N c s w a.defers s' a' w' → Q .normal a' w') → wpOps P ops Q (List.range' i l.length) a w := by
  intro l
  induction l with
  | nil =>
    intro i hi s s' he c a w r hbd ht hN hQ
    simp [opsRun] at he; subst he
    exact hQ a w ⟨rfl, hN, c, Mv.refl r, .refl c _, ht⟩
  | cons o l ih =>
    intro i hi s s' he c a w r hbd ht hN hQ
    have hio : ops[i]? = some o := by
      have : (ops.toList.drop i)[0]? = some o := by rw [hi]; rfl
      rw [List.getElem?_drop] at this
      simpa using this
    have hdrop : ops.toList.drop (i + 1) = l := by rw [← List.drop_drop, hi]; rfl
    rw [List.length_cons, List.range'_succ]
    simp only [wpOps, hio]
    unfold opsRun at he
    split at he
    · rename_i hg
      rw [if_pos (guard_sound ht hg)]
      split at he
      · rename_i v h nx hst
        split at he
        · rename_i tm hp
          refine .inl (step_wp hP hc ht r hbd hst ?_)
          intro c' w' x hmv hgr hv
          obtain ⟨h1, h2, h3⟩ := put_sound hp (ht.mono hmv.le) hN hv
          refine ih (i + 1) hdrop _ _ he c' _ w' hmv.r (hgr.bd hbd) h1 h2 ?_
          rintro a' w'' ⟨g1, g2, c'', g3, g4, g5⟩
          exact hQ _ _ ⟨g1.trans h3, g2, c'', hmv.trans g3, hgr.trans g4, g5⟩
        · cases he
      · cases he
    · rename_i hg
      have hw : ¬ (Region.wanted o (yielded ops a.tmps) = true) := by rw [guard_sound ht hg]; decide
      rw [if_neg hw]
      split at he
      · rename_i tm hp
        obtain ⟨h1, h2, h3⟩ := put_sound hp ht hN (undef_av c)
        refine ih (i + 1) hdrop _ _ he c _ w r hbd h1 h2 ?_
        rintro a' w'' ⟨g1, g2, c'', g3, g4, g5⟩
        exact hQ _ _ ⟨g1.trans h3, g2, c'', g3, g4, g5⟩
      · cases he
    · cases he

/-- How code ends. -/
def Fl.to : Fl → Exit
  | .norm => .normal
  | .exit id => .exit id
  | .ret => .ret

end Go.Proofs.YtljkldmjakabdaaGreat.Ev

