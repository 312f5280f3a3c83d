/- TopCounts by reckoning: regions that draw their order: the run in one order, told. -/
import Derived.Test.YtljkldmjakabdaaGreatEvH
namespace Go.Proofs.YtljkldmjakabdaaGreat.Ev
open Go

variable {P : Program}

/-- One operation of the run that is told: what it is, what came of it, what it looked at. -/
structure Rc where
  o : Oper
  e : Evt
  tm : T AV
  v : AV

/-- The operations that acted, in their order. -/
def efs : List Rc → Nat → List (Nat × Oper × Hp × Nat)
  | [], _ => []
  | r :: l, i => match r.e with
    | .eff _ _ _ ha na => (i, r.o, ha, na) :: efs l (i + 1)
    | _ => efs l (i + 1)

theorem efs_append : ∀ (l m : List Rc) (i : Nat), efs (l ++ m) i = efs l i ++ efs m (i + l.length) := by
  intro l
  induction l with
  | nil => intro m i; rfl
  | cons r l ih =>
    intro m i
    simp only [List.cons_append, efs, List.length_cons]
    have e : i + (l.length + 1) = i + 1 + l.length := by omega
    cases r.e <;> simp only [ih, List.cons_append, e]

theorem efs_mem : ∀ (l : List Rc) (i : Nat) (x : Nat × Oper × Hp × Nat), x ∈ efs l i → ∃ r v hb nb, i ≤ x.1 ∧ l[x.1 - i]? = some r ∧ r.o = x.2.1 ∧ r.e = .eff v hb nb x.2.2.1 x.2.2.2 := by
  intro l
  induction l with
  | nil => intro i x h; cases h
  | cons r l ih =>
    intro i x h
    have step : x ∈ efs l (i + 1) → ∃ r' v hb nb, i ≤ x.1 ∧ (r :: l)[x.1 - i]? = some r' ∧ r'.o = x.2.1 ∧ r'.e = .eff v hb nb x.2.2.1 x.2.2.2 := by
      intro h
      obtain ⟨r', v, hb, nb, h1, h2, h3, h4⟩ := ih _ _ h
      exact ⟨r', v, hb, nb, by omega, by rw [show x.1 - i = (x.1 - (i + 1)) + 1 from by omega]; simpa using h2, h3, h4⟩
    unfold efs at h
    split at h
    · rename_i v hb nb ha na he
      rcases List.mem_cons.1 h with rfl | h
      · exact ⟨r, v, hb, nb, Nat.le_refl _, by simp, rfl, he⟩
      · exact step h
    · exact step h

def lastH (h : Hp) : List (Nat × Oper × Hp × Nat) → Hp
  | [] => h
  | x :: l => lastH x.2.2.1 l
def lastN (n : Nat) : List (Nat × Oper × Hp × Nat) → Nat
  | [] => n
  | x :: l => lastN x.2.2.2 l
theorem lastH_snoc (x : Nat × Oper × Hp × Nat) : ∀ (l : List (Nat × Oper × Hp × Nat)) (h : Hp), lastH h (l ++ [x]) = x.2.2.1
  | [], _ => rfl
  | _ :: l, _ => lastH_snoc x l _
theorem lastN_snoc (x : Nat × Oper × Hp × Nat) : ∀ (l : List (Nat × Oper × Hp × Nat)) (n : Nat), lastN n (l ++ [x]) = x.2.2.2
  | [], _ => rfl
  | _ :: l, _ => lastN_snoc x l _

/-- What the temporaries hold, by those who wrote them. -/
def EnvR (T0 : T AV) (hist : List Rc) (t : Nat) (x : AV) : Prop := (∃ (j : Nat) (rj : Rc), hist[j]? = some rj ∧ rj.o.dst = some t ∧ rj.v = x) ∨ ((∀ (j : Nat) (rj : Rc), hist[j]? = some rj → rj.o.dst ≠ some t) ∧ T0.get t = some x)

section
variable (P) (call : CallT) (all : Array Oper) (N nx0 : Nat) (T0 : T AV) (S0 : Hp) (n1 : Nat)

/-- What is known of each operation. -/
structure RcOk (hist : List Rc) (i : Nat) (r : Rc) : Prop where
  env : ∀ t x, r.tm.get t = some x → t ∈ r.o.looksAt all ∧ EnvR T0 (hist.take i) t x
  dst : ∀ d, r.o.dst = some d → d < N
  spec : match r.e with
    | .no => guardOk all r.tm r.o = some false ∧ r.v = .tup []
    | .pure v => guardOk all r.tm r.o = some true ∧ r.v = v ∧ pureOp P r.o r.tm = some v
    | .read v tm => guardOk all r.tm r.o = some true ∧ r.v = v ∧ tm = r.tm
    | .alloc v id b => guardOk all r.tm r.o = some true ∧ r.v = v ∧ id = nx0 + i ∧ allocOp P r.o r.tm id = some (v, b)
    | .eff v hb nb ha na => guardOk all r.tm r.o = some true ∧ r.v = v ∧ kdOf r.o = .eff ∧ effOp P call r.o r.tm hb nb = some (v, ha, na) ∧ nb = lastN n1 (efs (hist.take i) 0) ∧
        ∀ id b, hb.get id = some b → (lastH S0 (efs (hist.take i) 0)).get id = some b ∨
          ∃ (p : Nat) (rp : Rc) (vp : AV), hist[p]? = some rp ∧ p < i ∧ rp.e = .alloc vp id b ∧ edgeTo r.o p = true ∧ ∀ x, x ∈ efs (hist.take i) 0 → edgeTo x.2.1 p = false

/-- What is known of a run so far. -/
structure Tld (hist : List Rc) (st : Dr) : Prop where
  rcs : ∀ (i : Nat) (r : Rc), hist[i]? = some r → RcOk P call all N nx0 T0 S0 n1 hist i r
  env : ∀ t x, st.tm.get t = some x → EnvR T0 hist t x
  hp : st.hp = lastH S0 (efs hist 0)
  nx : st.nx = lastN n1 (efs hist 0)
  pend : ∀ p id b, (p, id, b) ∈ st.pend → ∃ (rp : Rc) (vp : AV), hist[p]? = some rp ∧ rp.e = .alloc vp id b ∧ ∀ x, x ∈ efs hist 0 → edgeTo x.2.1 p = false

end

theorem resT_get {tm : T AV} : ∀ (l : List Nat) (acc : T AV) (t : Nat) (x : AV), (resT tm l acc).get t = some x → (t ∈ l ∧ tm.get t = some x) ∨ acc.get t = some x := by
  intro l
  induction l with
  | nil => intro acc t x h; exact .inr h
  | cons y l ih =>
    intro acc t x h
    unfold resT at h
    split at h
    · rename_i v hv
      rcases ih _ _ _ h with ⟨h1, h2⟩ | h1
      · exact .inl ⟨by simp [h1], h2⟩
      · rcases T.get_set _ _ _ _ _ h1 with ⟨rfl, rfl⟩ | ⟨_, h2⟩
        · exact .inl ⟨by simp, hv⟩
        · exact .inr h2
    · rcases ih _ _ _ h with ⟨h1, h2⟩ | h1
      · exact .inl ⟨by simp [h1], h2⟩
      · exact .inr h1

theorem absorb_get {o : Oper} : ∀ (l : List (Nat × Nat × Blk)) (h : Hp) (id : Nat) (b : Blk), (absorb o l h).get id = some b → h.get id = some b ∨ ∃ p, (p, id, b) ∈ l ∧ edgeTo o p = true := by
  intro l
  induction l with
  | nil => intro h id b hb; exact .inl hb
  | cons y l ih =>
    intro h id b hb
    obtain ⟨p, i, q⟩ := y
    unfold absorb at hb
    cases he : edgeTo o p with
    | false =>
      simp only [he, cond_false] at hb
      rcases ih _ _ _ hb with h1 | ⟨p', h1, h2⟩
      · exact .inl h1
      · exact .inr ⟨p', by simp [h1], h2⟩
    | true =>
      simp only [he, cond_true] at hb
      rcases T.get_set _ _ _ _ _ hb with ⟨rfl, rfl⟩ | ⟨_, h2⟩
      · exact .inr ⟨p, by simp, he⟩
      · rcases ih _ _ _ h2 with h1 | ⟨p', h1, h2⟩
        · exact .inl h1
        · exact .inr ⟨p', by simp [h1], h2⟩

theorem leave_mem {o : Oper} : ∀ (l : List (Nat × Nat × Blk)) (x : Nat × Nat × Blk), x ∈ leave o l → x ∈ l ∧ edgeTo o x.1 = false := by
  intro l
  induction l with
  | nil => intro x h; cases h
  | cons y l ih =>
    intro x h
    obtain ⟨p, i, q⟩ := y
    unfold leave at h
    cases he : edgeTo o p with
    | true =>
      simp only [he, cond_true] at h
      obtain ⟨h1, h2⟩ := ih x h
      exact ⟨by simp [h1], h2⟩
    | false =>
      simp only [he, cond_false] at h
      rcases List.mem_cons.1 h with rfl | h
      · exact ⟨by simp, he⟩
      · obtain ⟨h1, h2⟩ := ih x h
        exact ⟨by simp [h1], h2⟩

theorem setAll_get : ∀ (l : List (Nat × Nat × Blk)) (h : Hp) (id : Nat) (b : Blk), (setAll l h).get id = some b → h.get id = some b ∨ ∃ p, (p, id, b) ∈ l := by
  intro l
  induction l with
  | nil => intro h id b hb; exact .inl hb
  | cons y l ih =>
    intro h id b hb
    obtain ⟨p, i, q⟩ := y
    unfold setAll at hb
    rcases T.get_set _ _ _ _ _ hb with ⟨rfl, rfl⟩ | ⟨_, h2⟩
    · exact .inr ⟨p, by simp⟩
    · rcases ih _ _ _ h2 with h1 | ⟨p', h1⟩
      · exact .inl h1
      · exact .inr ⟨p', by simp [h1]⟩

section
variable {call : CallT} {all : Array Oper} {N nx0 : Nat} {T0 : T AV} {S0 : Hp} {n1 : Nat}

theorem RcOk.more {hist : List Rc} {i : Nat} {r : Rc} (h : RcOk P call all N nx0 T0 S0 n1 hist i r) (hi : i < hist.length) (m : List Rc) : RcOk P call all N nx0 T0 S0 n1 (hist ++ m) i r := by
  have et : (hist ++ m).take i = hist.take i := List.take_append_of_le_length (Nat.le_of_lt hi)
  refine ⟨by rw [et]; exact h.env, h.dst, ?_⟩
  have hs := h.spec
  cases he : r.e with
  | no => rw [he] at hs; exact hs
  | pure v => rw [he] at hs; exact hs
  | read v tm => rw [he] at hs; exact hs
  | alloc v id b => rw [he] at hs; exact hs
  | eff v hb nb ha na =>
    rw [he] at hs
    obtain ⟨h1, h2, h3, h4, h5, h6⟩ := hs
    refine ⟨h1, h2, h3, h4, by rw [et]; exact h5, ?_⟩
    rw [et]
    intro id b hg
    rcases h6 id b hg with h7 | ⟨p, rp, vp, g1, g2, g3, g4, g5⟩
    · exact .inl h7
    · refine .inr ⟨p, rp, vp, ?_, g2, g3, g4, g5⟩
      rw [List.getElem?_append_left (Nat.lt_trans g2 hi)]; exact g1

theorem EnvR.put {hist : List Rc} {t : Nat} {x : AV} {tm tm' : T AV} {o : Oper} {v : AV} {r : Rc} (hro : r.o = o) (hrv : r.v = v) (henv : ∀ t x, tm.get t = some x → EnvR T0 hist t x) (hp : putD N o.dst v tm = some tm') (h : tm'.get t = some x) : EnvR T0 (hist ++ [r]) t x := by
  have old : tm.get t = some x → o.dst ≠ some t → EnvR T0 (hist ++ [r]) t x := by
    intro h1 h2
    rcases henv t x h1 with ⟨j, rj, g1, g2, g3⟩ | ⟨g1, g2⟩
    · exact .inl ⟨j, rj, by rw [List.getElem?_append_left (List.getElem?_eq_some_iff.1 g1).1]; exact g1, g2, g3⟩
    · refine .inr ⟨fun j rj hj => ?_, g2⟩
      rcases Nat.lt_or_ge j hist.length with hl | hl
      · rw [List.getElem?_append_left hl] at hj; exact g1 j rj hj
      · rw [List.getElem?_append_right hl] at hj
        have hm := List.mem_of_getElem? hj
        simp at hm
        subst hm; rw [hro]; exact h2
  unfold putD at hp
  split at hp
  · rename_i hd
    simp at hp; subst hp
    exact old h (by rw [hd]; simp)
  · rename_i d hd
    simp only [blt_dec] at hp
    by_cases hlt : d < N
    case neg => simp [hlt] at hp
    simp only [hlt, decide_true, cond_true, Option.some.injEq] at hp
    subst hp
    rcases T.get_set _ _ _ _ _ h with ⟨rfl, rfl⟩ | ⟨hne, h2⟩
    · exact .inl ⟨hist.length, r, by simp, by rw [hro]; exact hd, hrv⟩
    · exact old h2 (by rw [hd]; intro e; exact hne (by simpa using e.symm))

theorem put_lt {o : Oper} {v : AV} {tm tm' : T AV} (hp : putD N o.dst v tm = some tm') : ∀ d, o.dst = some d → d < N := by
  intro d hd
  unfold putD at hp
  rw [hd] at hp
  simp only [blt_dec] at hp
  by_cases h : d < N
  · exact h
  · simp [h] at hp

/-- One step more is told. -/
theorem Tld.step {hist : List Rc} {st s' : Dr} {o : Oper} {e : Evt} {v : AV} {tm : T AV} (hord : ∀ (k : Nat) (r : Rc), hist[k]? = some r → ∀ j, edgeTo r.o j = true → j < k) (h : Tld P call all N nx0 T0 S0 n1 hist st) (hst : drawStep P call all nx0 hist.length o st = some (e, v, s')) (hp : putD N o.dst v s'.tm = some tm) :
    Tld P call all N nx0 T0 S0 n1 (hist ++ [⟨o, e, resT st.tm (o.looksAt all) .leaf, v⟩]) ⟨tm, s'.hp, s'.nx, s'.pend⟩ := by
  have hself : (hist ++ [(⟨o, e, resT st.tm (o.looksAt all) .leaf, v⟩ : Rc)])[hist.length]? = some ⟨o, e, resT st.tm (o.looksAt all) .leaf, v⟩ := by simp
  have htake : (hist ++ [(⟨o, e, resT st.tm (o.looksAt all) .leaf, v⟩ : Rc)]).take hist.length = hist := by simp
  have henvR : ∀ t x, (resT st.tm (o.looksAt all) .leaf).get t = some x → t ∈ o.looksAt all ∧ EnvR T0 hist t x := by
    intro t x ht
    rcases resT_get _ _ _ _ ht with ⟨h1, h2⟩ | h1
    · exact ⟨h1, h.env t x h2⟩
    · cases h1
  -- each kind of step
  have key : RcOk P call all N nx0 T0 S0 n1 (hist ++ [⟨o, e, resT st.tm (o.looksAt all) .leaf, v⟩]) hist.length ⟨o, e, resT st.tm (o.looksAt all) .leaf, v⟩ ∧ s'.tm = st.tm ∧
      s'.hp = lastH S0 (efs (hist ++ [⟨o, e, resT st.tm (o.looksAt all) .leaf, v⟩]) 0) ∧ s'.nx = lastN n1 (efs (hist ++ [⟨o, e, resT st.tm (o.looksAt all) .leaf, v⟩]) 0) ∧
      (∀ p id b, (p, id, b) ∈ s'.pend → ∃ (rp : Rc) (vp : AV), (hist ++ [(⟨o, e, resT st.tm (o.looksAt all) .leaf, v⟩ : Rc)])[p]? = some rp ∧ rp.e = .alloc vp id b ∧ ∀ x, x ∈ efs (hist ++ [⟨o, e, resT st.tm (o.looksAt all) .leaf, v⟩]) 0 → edgeTo x.2.1 p = false) := by
    have hdst := put_lt hp
    have oldp : ∀ p id b, (p, id, b) ∈ st.pend → ∃ (rp : Rc) (vp : AV), (hist ++ [(⟨o, e, resT st.tm (o.looksAt all) .leaf, v⟩ : Rc)])[p]? = some rp ∧ rp.e = .alloc vp id b ∧ ∀ x, x ∈ efs hist 0 → edgeTo x.2.1 p = false := by
      intro p id b hm
      obtain ⟨rp, vp, g1, g2, g3⟩ := h.pend p id b hm
      exact ⟨rp, vp, by rw [List.getElem?_append_left (List.getElem?_eq_some_iff.1 g1).1]; exact g1, g2, g3⟩
    have env' : ∀ t x, (resT st.tm (o.looksAt all) .leaf).get t = some x → t ∈ o.looksAt all ∧ EnvR T0 ((hist ++ [(⟨o, e, resT st.tm (o.looksAt all) .leaf, v⟩ : Rc)]).take hist.length) t x := by rw [htake]; exact henvR
    unfold drawStep at hst
    split at hst
    · rename_i hg
      simp only [Option.some.injEq, Prod.mk.injEq] at hst
      obtain ⟨rfl, rfl, rfl⟩ := hst
      have ee : efs (hist ++ [⟨o, Evt.no, resT st.tm (o.looksAt all) .leaf, AV.tup []⟩]) 0 = efs hist 0 := by rw [efs_append]; simp [efs]
      refine ⟨?_, rfl, by rw [ee]; exact h.hp, by rw [ee]; exact h.nx, by rw [ee]; exact oldp⟩
      exact ⟨env', hdst, hg, rfl⟩
    · rename_i hg
      split at hst
      · split at hst
        · rename_i u hu
          simp only [Option.some.injEq, Prod.mk.injEq] at hst
          obtain ⟨rfl, rfl, rfl⟩ := hst
          have ee : efs (hist ++ [⟨o, Evt.pure u, resT st.tm (o.looksAt all) .leaf, u⟩]) 0 = efs hist 0 := by rw [efs_append]; simp [efs]
          refine ⟨?_, rfl, by rw [ee]; exact h.hp, by rw [ee]; exact h.nx, by rw [ee]; exact oldp⟩
          exact ⟨env', hdst, hg, rfl, hu⟩
        · split at hst
          · rename_i u hu
            simp only [Option.some.injEq, Prod.mk.injEq] at hst
            obtain ⟨rfl, rfl, rfl⟩ := hst
            have ee : efs (hist ++ [⟨o, Evt.read u (resT st.tm (o.looksAt all) .leaf), resT st.tm (o.looksAt all) .leaf, u⟩]) 0 = efs hist 0 := by rw [efs_append]; simp [efs]
            refine ⟨?_, rfl, by rw [ee]; exact h.hp, by rw [ee]; exact h.nx, by rw [ee]; exact oldp⟩
            exact ⟨env', hdst, hg, rfl, rfl⟩
          · cases hst
      · split at hst
        · rename_i u b hu
          simp only [Option.some.injEq, Prod.mk.injEq] at hst
          obtain ⟨rfl, rfl, rfl⟩ := hst
          have ee : efs (hist ++ [⟨o, Evt.alloc u (nx0 + hist.length) b, resT st.tm (o.looksAt all) .leaf, u⟩]) 0 = efs hist 0 := by rw [efs_append]; simp [efs]
          refine ⟨?_, rfl, by rw [ee]; exact h.hp, by rw [ee]; exact h.nx, ?_⟩
          · exact ⟨env', hdst, hg, rfl, rfl, hu⟩
          · rw [ee]
            intro p id b' hm
            rcases List.mem_cons.1 hm with hh | hm
            · simp only [Prod.mk.injEq] at hh
              obtain ⟨rfl, rfl, rfl⟩ := hh
              refine ⟨_, u, hself, rfl, fun x hx => ?_⟩
              obtain ⟨r, v', hb', nb', k1, k2, k3, k4⟩ := efs_mem _ _ _ hx
              cases hed : edgeTo x.2.1 hist.length with
              | false => rfl
              | true =>
                rw [Nat.sub_zero] at k2
                have h1 := hord _ _ k2 hist.length (by rw [k3]; exact hed)
                have h2 := (List.getElem?_eq_some_iff.1 k2).1
                omega
            · exact oldp p id b' hm
        · cases hst
      · rename_i hk
        split at hst
        · rename_i u ha na hu
          simp only [Option.some.injEq, Prod.mk.injEq] at hst
          obtain ⟨rfl, rfl, rfl⟩ := hst
          have ee : efs (hist ++ [⟨o, Evt.eff u (absorb o st.pend st.hp) st.nx ha na, resT st.tm (o.looksAt all) .leaf, u⟩]) 0 = efs hist 0 ++ [(hist.length, o, ha, na)] := by rw [efs_append]; simp [efs]
          refine ⟨?_, rfl, by rw [ee, lastH_snoc], by rw [ee, lastN_snoc], ?_⟩
          · refine ⟨env', hdst, hg, rfl, hk, hu, by rw [htake]; exact h.nx, ?_⟩
            rw [htake]
            intro id b hb
            rcases absorb_get _ _ _ _ hb with h1 | ⟨p, h1, h2⟩
            · left; rw [← h.hp]; exact h1
            · right
              obtain ⟨rp, vp, g1, g2, g3⟩ := h.pend p id b h1
              exact ⟨p, rp, vp, by rw [List.getElem?_append_left (List.getElem?_eq_some_iff.1 g1).1]; exact g1, (List.getElem?_eq_some_iff.1 g1).1, g2, h2, g3⟩
          · rw [ee]
            intro p id b hm
            obtain ⟨h1, h2⟩ := leave_mem _ _ hm
            obtain ⟨rp, vp, g1, g2, g3⟩ := oldp p id b h1
            refine ⟨rp, vp, g1, g2, fun x hx => ?_⟩
            rcases List.mem_append.1 hx with hx | hx
            · exact g3 x hx
            · simp at hx; subst hx; exact h2
        · cases hst
    · cases hst
  obtain ⟨k1, k2, k3, k4, k5⟩ := key
  refine ⟨?_, ?_, k3, k4, k5⟩
  · intro i r hr
    rcases Nat.lt_or_ge i hist.length with hl | hl
    · rw [List.getElem?_append_left hl] at hr
      exact (h.rcs i r hr).more hl _
    · rw [List.getElem?_append_right hl] at hr
      have hi : i = hist.length := by
        have := (List.getElem?_eq_some_iff.1 hr).1
        simp at this; omega
      subst hi
      simp at hr
      subst hr; exact k1
  · intro t x ht
    exact EnvR.put (tm := s'.tm) rfl rfl (by rw [k2]; exact h.env) hp ht

end

end Go.Proofs.YtljkldmjakabdaaGreat.Ev

