/- TopCounts by reckoning: regions that draw their order: the whole run told; what is read again. -/
import Derived.Test.YtljkldmjakabdaaGreatEvJ
namespace Go.Proofs.YtljkldmjakabdaaGreat.Ev
open Go

variable {P : Program}

theorem atEq_eq {a b : At} (h : atEq a b = true) : a = b := by
  cases a <;> cases b <;> simp only [atEq, reduceCtorEq, Bool.false_eq_true] at h <;> try rfl
  case bool.bool => rw [bEq_eq h]
  case int.int k n k' n' =>
    cases hk : kEq k k' with
    | false => simp [hk] at h
    | true => simp only [hk, cond_true, iEq_eq, beq_iff_eq] at h; rw [kEq_eq hk, h]
  case str.str => rw [strEq_eq] at h; simp at h; rw [h]
  case ptr.ptr b o b' o' =>
    simp only [beq_dec] at h
    by_cases h1 : b = b'
    · simp [h1] at h; rw [h1, h]
    · simp [h1] at h
  case slc.slc b o l k z e b' o' l' k' z' e' =>
    simp only [beq_dec] at h
    by_cases h1 : b = b'
    case neg => simp [h1] at h
    by_cases h2 : o = o'
    case neg => simp [h1, h2] at h
    by_cases h3 : l = l'
    case neg => simp [h1, h2, h3] at h
    by_cases h4 : k = k'
    case neg => simp [h1, h2, h3, h4] at h
    by_cases h5 : z = z'
    case neg => simp [h1, h2, h3, h4, h5] at h
    simp [h1, h2, h3, h4, h5] at h
    rw [h1, h2, h3, h4, h5, bEq_eq h]
  case mp.mp => rw [beq_dec] at h; simp at h; rw [h]
  case fn.fn f b o f' b' o' =>
    simp only [beq_dec] at h
    by_cases h1 : f = f'
    case neg => simp [h1] at h
    by_cases h2 : b = b'
    case neg => simp [h1, h2] at h
    simp [h1, h2] at h; rw [h1, h2, h]
  case fn0.fn0 => rw [beq_dec] at h; simp at h; rw [h]

theorem atsEq_eq : ∀ {l r : List At}, atsEq l r = true → l = r := by
  intro l
  induction l with
  | nil => intro r h; cases r with
    | nil => rfl
    | cons b r => simp [atsEq] at h
  | cons a l ih =>
    intro r h
    cases r with
    | nil => simp [atsEq] at h
    | cons b r =>
      simp only [atsEq] at h
      cases hb : atEq a b with
      | false => simp [hb] at h
      | true => simp only [hb, cond_true] at h; rw [atEq_eq hb, ih h]

theorem avEq_eq {a b : AV} (h : avEq a b = true) : a = b := by
  cases a <;> cases b <;> simp only [avEq, Bool.false_eq_true] at h
  · rw [atEq_eq h]
  · rw [atsEq_eq h]

theorem reads_eq {o : Oper} {tm : T AV} {v : AV} {h : Hp} (hr : reads P o tm v h = true) : readOp P o tm h = some v := by
  unfold reads at hr
  split at hr
  · rename_i u hu; rw [hu, avEq_eq hr]
  · cases hr

theorem winGo_spec {i : Nat} {o : Oper} {tm : T AV} {v : AV} : ∀ (el : List (Nat × Oper × Hp × Nat)) (h : Hp), winGo P i o tm v h el = true → ∀ (done rest : List (Nat × Oper × Hp × Nat)), el = done ++ rest →
    (∀ y, y ∈ rest → edgeTo o y.1 = false) → (∀ x, x ∈ done → edgeTo x.2.1 i = false) → readOp P o tm (lastH h done) = some v := by
  intro el
  induction el with
  | nil =>
    intro h hw done rest he _ _
    have : done = [] := by
      cases done with
      | nil => rfl
      | cons x d => cases he
    subst this
    exact reads_eq hw
  | cons x el ih =>
    intro h hw done rest he hr hd
    unfold winGo at hw
    cases done with
    | nil =>
      simp only [List.nil_append] at he
      subst he
      have hn : ((x :: el).any fun y => edgeTo o y.1) = false := by
        rw [List.any_eq_false]
        intro y hy
        rw [hr y hy]; decide
      rw [hn] at hw
      simp only [cond_false] at hw
      cases hrd : reads P o tm v h with
      | false => rw [hrd] at hw; cases hw
      | true => exact reads_eq hrd
    | cons y d =>
      simp only [List.cons_append, List.cons.injEq] at he
      obtain ⟨rfl, rfl⟩ := he
      have hx := hd x (by simp)
      rw [hx] at hw
      simp only [cond_false] at hw
      have hw2 : winGo P i o tm v x.2.2.1 (d ++ rest) = true := by
        revert hw
        cases (bif ((x :: (d ++ rest)).any fun y => edgeTo o y.1) then true else reads P o tm v h) with
        | false => intro hw; cases hw
        | true => exact fun hw => hw
      exact ih _ hw2 d rest rfl hr fun z hz => hd z (by simp [hz])

section
variable {call : CallT} {all : Array Oper} {N nx0 : Nat} {T0 : T AV} {S0 : Hp} {n1 : Nat}

theorem edgeTo_mem {o : Oper} {j : Nat} (h : edgeTo o j = true) : ∃ e, e ∈ o.after.toList ∧ Region.binds .any e = true ∧ e.on = j := by
  unfold edgeTo at h
  rw [List.any_eq_true] at h
  obtain ⟨e, he, hb⟩ := h
  cases hx : Region.binds .any e with
  | false => simp [hx] at hb
  | true => simp only [hx, cond_true] at hb; exact ⟨e, he, hx, beq_true hb⟩

/-- The whole run is told. -/
theorem told (hord : ordered all.toList 0 = true) (Sw : Hp) (el : List (Nat × Oper × Hp × Nat)) : ∀ (l : List Oper) (i : Nat) (st : Dr) (hist : List Rc) (es : List (Evt × T AV)) (sf : Dr), hist.length = i → (∀ (k : Nat) (r : Rc), hist[k]? = some r → all[k]? = some r.o) → all.toList.drop i = l →
    Tld P call all N nx0 T0 S0 n1 hist st → drawGo P call all N nx0 l i st = some (es, sf) →
    ∃ hist' : List Rc, hist'.length = l.length ∧ Tld P call all N nx0 T0 S0 n1 (hist ++ hist') sf ∧ (∀ (k : Nat) (r : Rc), (hist ++ hist')[k]? = some r → all[k]? = some r.o) ∧ effs l i es = efs hist' i ∧
      (winsOk P Sw el l i es = true → ∀ (k : Nat) (r : Rc) (v : AV) (tm' : T AV), hist'[k]? = some r → r.e = .read v tm' → winGo P (i + k) r.o tm' v Sw el = true) := by
  intro l
  induction l with
  | nil =>
    intro i st hist es sf hi hall hd ht hg
    simp [drawGo] at hg
    obtain ⟨rfl, rfl⟩ := hg
    exact ⟨[], rfl, by simpa using ht, by simpa using hall, rfl, fun _ k r v tm' h => by simp at h⟩
  | cons o l ih =>
    intro i st hist es sf hi hall hd ht hg
    subst hi
    have hio : all[hist.length]? = some o := by
      have : (all.toList.drop hist.length)[0]? = some o := by rw [hd]; rfl
      rw [List.getElem?_drop] at this
      simpa using this
    unfold drawGo at hg
    split at hg
    · rename_i e v s' hst
      split at hg
      · rename_i tm hp
        split at hg
        · rename_i es' sf' hg'
          simp only [Option.some.injEq, Prod.mk.injEq] at hg
          obtain ⟨rfl, rfl⟩ := hg
          have hord' : ∀ (k : Nat) (r : Rc), hist[k]? = some r → ∀ j, edgeTo r.o j = true → j < k := by
            intro k r hk j hj
            obtain ⟨e', he, hb, rfl⟩ := edgeTo_mem hj
            have := ordered_spec all.toList 0 hord k r.o (by simpa using hall k r hk) e' he hb
            omega
          have ht' := ht.step hord' hst hp
          have hall' : ∀ (k : Nat) (r : Rc), (hist ++ [(⟨o, e, resT st.tm (o.looksAt all) .leaf, v⟩ : Rc)])[k]? = some r → all[k]? = some r.o := by
            intro k r hk
            rcases Nat.lt_or_ge k hist.length with hl | hl
            · rw [List.getElem?_append_left hl] at hk; exact hall k r hk
            · have hk2 : k = hist.length := by
                have := (List.getElem?_eq_some_iff.1 hk).1
                simp at this; omega
              subst hk2
              simp at hk; subst hk; exact hio
          obtain ⟨hist', h1, h2, h3, h4, h5⟩ := ih (hist.length + 1) _ (hist ++ [⟨o, e, resT st.tm (o.looksAt all) .leaf, v⟩]) es' sf' (by simp) hall' (by rw [← List.drop_drop, hd]; rfl) ht' hg'
          refine ⟨⟨o, e, resT st.tm (o.looksAt all) .leaf, v⟩ :: hist', by simp [h1], by simpa using h2, by simpa using h3, ?_, ?_⟩
          · cases e <;> simp only [effs, efs, h4]
          · intro hw k r v' tm' hk he
            cases k with
            | zero =>
              simp at hk; subst hk
              simp only at he; subst he
              simp only [winsOk] at hw
              cases hwg : winGo P hist.length o tm' v' Sw el with
              | false => simp [hwg] at hw
              | true => rfl
            | succ k =>
              have hw' : winsOk P Sw el l (hist.length + 1) es' = true := by
                revert hw
                cases e with
                | read v tm2 =>
                  simp only [winsOk]
                  cases winGo P hist.length o tm2 v Sw el with
                  | false => intro hw; cases hw
                  | true => exact fun hw => hw
                | _ => exact fun hw => hw
              have := h5 hw' k r v' tm' (by simpa using hk) he
              rw [show hist.length + (k + 1) = hist.length + 1 + k from by omega]
              exact this
        · cases hg
      · cases hg
    · cases hg

end

end Go.Proofs.YtljkldmjakabdaaGreat.Ev

