/- TopCounts by reckoning: the loops, over what is reckoned of each map. -/
import Derived.Test.YtljkldmjakabdaaGreatEtC
namespace Go.Proofs.YtljkldmjakabdaaGreat.Ev
open Go

noncomputable section

abbrev iI (n : Nat) : AV := .at (.int .i64 (.ofNat n))

/-! ### Words that were seen -/
theorem bump_keys (p : List (List Nat × Nat)) (k : List Nat) : (k ∈ p.map Prod.fst ∧ (bump p k).map Prod.fst = p.map Prod.fst) ∨ (k ∉ p.map Prod.fst ∧ (bump p k).map Prod.fst = p.map Prod.fst ++ [k]) := by
  unfold bump
  rcases posOf_spec k p 0 with ⟨h1, h2⟩ | ⟨q, m, h1, h2, h3⟩
  · rw [h1]; exact .inr ⟨h2, by simp⟩
  · rw [h1]
    rw [Nat.sub_zero] at h3
    refine .inl ⟨List.mem_map.2 ⟨_, List.mem_of_getElem? h3, rfl⟩, ?_⟩
    simp only [List.map_set]
    apply List.ext_getElem?
    intro j
    by_cases hj : q = j
    · subst hj
      rw [List.getElem?_set_self (by simpa using (List.getElem?_eq_some_iff.1 h3).1)]
      simp [h3]
    · rw [List.getElem?_set_ne hj]

theorem bump_mem (p : List (List Nat × Nat)) (k s : List Nat) : s ∈ (bump p k).map Prod.fst ↔ s ∈ p.map Prod.fst ∨ s = k := by
  rcases bump_keys p k with ⟨h1, h2⟩ | ⟨h1, h2⟩
  · rw [h2]
    exact ⟨.inl, fun h => h.elim id fun e => by rw [e]; exact h1⟩
  · rw [h2]; simp

theorem bump_nodup (p : List (List Nat × Nat)) (k : List Nat) (h : (p.map Prod.fst).Nodup) : ((bump p k).map Prod.fst).Nodup := by
  rcases bump_keys p k with ⟨h1, h2⟩ | ⟨h1, h2⟩
  · rw [h2]; exact h
  · rw [h2]
    refine List.nodup_append.2 ⟨h, by simp, ?_⟩
    intro a ha b hb
    simp at hb; subst hb
    intro e; subst e; exact h1 ha

theorem bump_count (p : List (List Nat × Nat)) (k : List Nat) (M : Nat) (h : ∀ x, x ∈ p → x.2 ≤ M) : ∀ x, x ∈ bump p k → x.2 ≤ M + 1 := by
  intro x hx
  unfold bump at hx
  rcases posOf_spec k p 0 with ⟨h1, h2⟩ | ⟨q, m, h1, h2, h3⟩
  · rw [h1] at hx
    rcases List.mem_append.1 hx with hx | hx
    · have := h x hx; omega
    · simp at hx; subst hx; simp
  · rw [h1] at hx
    rw [Nat.sub_zero] at h3
    have hm := h _ (List.mem_of_getElem? h3)
    rcases List.mem_or_eq_of_mem_set hx with hx | rfl
    · have := h x hx; omega
    · simp at hm ⊢; omega

theorem len_le {α : Type} [BEq α] [LawfulBEq α] : ∀ (l m : List α), l.Nodup → (∀ x, x ∈ l → x ∈ m) → l.length ≤ m.length := by
  intro l
  induction l with
  | nil => intro m _ _; simp
  | cons a l ih =>
    intro m hn hs
    obtain ⟨h1, h2⟩ := List.nodup_cons.1 hn
    have ha := hs a (by simp)
    have := ih (m.erase a) h2 fun x hx => by
      refine (List.mem_erase_of_ne ?_).2 (hs x (by simp [hx]))
      intro e; subst e; exact h1 hx
    rw [List.length_erase_of_mem ha] at this
    have hp : 0 < m.length := List.length_pos_of_mem ha
    simp only [List.length_cons]
    omega

/-! ### The state -/
def HS (hP : Hp) (p : List (List Nat × Nat)) : HF := fun id => if id = 0 then some (.map (enc p)) else hP.get id

structure St (w0 : World) (c : Cx) (hP : Hp) (p : List (List Nat × Nat)) (L : List (Nat × AV)) (a : Act) (w : World) : Prop where
  mv : Mv (fun _ => none) (fun _ => none) w0 c (HS hP p) w
  kn : Kn c L a.tmps
  sz : a.tmps.size = 72
  df : a.defers = []

theorem gr_same {c c' : Cx} {n : Nat} (hl : c.le c') (g : Gr c n c' n) : c' = c := by
  funext i
  cases h : c' i with
  | none => exact (Cx.none_of_le hl h).symm
  | some p =>
    rcases g.2 i p h with h1 | ⟨h1, h2⟩
    · exact h1.symm
    · omega

theorem St.of {w0 : World} {c : Cx} {hP : Hp} {p : List (List Nat × Nat)} {L L' : List (Nat × AV)} {a : Act} {w : World} (s : St w0 c hP p L a w) (h : ∀ t v, (t, v) ∈ L' → (t, v) ∈ L) : St w0 c hP p L' a w := ⟨s.mv, s.kn.of h, s.sz, s.df⟩

/-- A step that leaves memory. -/
theorem St.quiet {w0 : World} {c : Cx} {hP : Hp} {p : List (List Nat × Nat)} {L L' M : List (Nat × AV)} {a a' : Act} {w w' : World} {h : Hp} {nx : Nat} {W : Nat → Bool} (s : St w0 c hP p L a w) (hs : ∀ id b, h.get id = some b → HS hP p id = some b) (af : AfterK 72 c h nx w a W L' h nx a' w')
    (hM : ∀ t v, (t, v) ∈ M → (t, v) ∈ L' ∨ ((t, v) ∈ L ∧ W t = false)) : St w0 c hP p M a' w' := by
  obtain ⟨h1, h2, ⟨c', m, g, k⟩, h4⟩ := af
  have e := gr_same m.le g
  subst e
  have m2 : Mv c' (HS hP p) w c' (HS hP p) w' := m.frame s.mv.r (fun id b hb => ⟨b, hs id b hb⟩) fun id b hb => by
    cases hq : h.get id with
    | none => exact .inr ⟨hb, rfl⟩
    | some b' =>
      have := hs id b' hq
      rw [hb] at this; cases this
      exact .inl rfl
  refine ⟨s.mv.trans m2, ?_, h2, h1.trans s.df⟩
  intro t v htv
  rcases hM t v htv with hh | ⟨hh, hw⟩
  · exact k t v hh
  · obtain ⟨x, hx, hr⟩ := s.kn t v hh
    exact ⟨x, by rw [h4 t hw]; exact hx, hr⟩

/-- A step that made blocks: they are given up. -/
theorem St.back {w0 : World} {c c3 : Cx} {hP : Hp} {p : List (List Nat × Nat)} {L L3 M : List (Nat × AV)} {a a3 : Act} {w w3 : World} {B : Nat} {blk : Blk} {nx n3 : Nat} {W : Nat → Bool} (s : St w0 c hP p L a w) (hB : hP.get B = some blk) (hB0 : B ≠ 0) (hf : FlatB blk) (hg : (T.of [(B, blk)]).get B = some blk)
    (m : Mv c (T.of [(B, blk)]).get w c3 (T.of [(B, blk)]).get w3) (g : Gr c nx c3 n3) (k : Kn c3 L3 a3.tmps) (hN : a3.tmps.size = 72) (hd : a3.defers = a.defers) (keep : ∀ t, W t = false → a3.tmps[t]? = a.tmps[t]?)
    (hM : ∀ t v, (t, v) ∈ M → ((t, v) ∈ L3 ∧ oldV nx v = true) ∨ ((t, v) ∈ L ∧ W t = false)) : St w0 c hP p M a3 w3 := by
  have only : ∀ id b, (T.of [(B, blk)]).get id = some b → id = B ∧ b = blk := by
    intro id b h
    have := T.of_get _ _ _ h
    simpa using this
  have hHS : HS hP p B = some blk := by unfold HS; rw [if_neg hB0]; exact hB
  have m2 : Mv c (HS hP p) w c (HS hP p) w3 := m.back s.mv.r (fun id b h => by obtain ⟨rfl, rfl⟩ := only id b h; exact hHS) (fun id b h => by obtain ⟨rfl, rfl⟩ := only id b h; exact ⟨⟨_, h⟩, hf⟩) fun id b hb => by
    by_cases hid : id = B
    · subst hid
      rw [hHS] at hb; cases hb
      exact .inl hg
    · refine .inr ⟨hb, ?_⟩
      cases hq : (T.of [(B, blk)]).get id with
      | none => rfl
      | some b' => exact absurd (only id b' hq).1 hid
  refine ⟨s.mv.trans m2, ?_, hN, hd.trans s.df⟩
  intro t v htv
  rcases hM t v htv with ⟨hh, ho⟩ | ⟨hh, hw⟩
  · exact (Kn.old g k (L' := [(t, v)]) (fun t' v' h' => by simp at h'; obtain ⟨rfl, rfl⟩ := h'; exact ⟨hh, ho⟩)) t v (by simp)
  · obtain ⟨x, hx, hr⟩ := s.kn t v hh
    exact ⟨x, by rw [keep t hw]; exact hx, hr⟩

/-! ### One operation -/
theorem one_op {ops : Array Oper} {i : Nat} {o : Oper} {rest : List Nat} {Q : Exit → Act → World → Prop} (hio : ops[i]? = some o) (hg : o.guard = none) {Ls : List (Nat × AV)} {h h' : Hp} {nx nx' : Nat} {v : AV} (he : stepOp Tryz.prog noCall o (T.of Ls) h nx = some (v, h', nx'))
    {c : Cx} {a : Act} {w : World} (r : R c h.get w) (hbd : Bd c nx) (hk : Kn c Ls a.tmps) (hQ : ∀ c' w' x, Mv c h.get w c' h'.get w' → Gr c nx c' nx' → AvR c' v x → wpOps Tryz.prog ops Q rest (a.put o.dst x) w') : wpOps Tryz.prog ops Q (i :: rest) a w := by
  simp only [wpOps, hio]
  have hw : Region.wanted o (yielded ops a.tmps) = true := by simp [Region.wanted, hg]
  rw [if_pos hw]
  exact .inl (step_wp plainly noCall_ok hk.tm r hbd he hQ)

theorem put_new {a : Act} {d : Nat} {x : Value} {n : Nat} (hN : a.tmps.size = n) (hd : d < n) : (a.put (some d) x).tmps[d]? = some x ∧ (a.put (some d) x).tmps.size = n ∧ (a.put (some d) x).defers = a.defers := by
  refine ⟨by simp [Act.put, hN, hd], by simp [Act.put, hN], rfl⟩

theorem hM_sub {hP : Hp} {p : List (List Nat × Nat)} : ∀ id b, (hM p).get id = some b → HS hP p id = some b := by
  intro id b h
  have := T.of_get _ _ _ h
  simp at this
  obtain ⟨rfl, rfl⟩ := this
  simp [HS]

noncomputable def o18 (n : Nat) : Oper := match ops18[n]? with
  | some o => o
  | none => { dst := none, op := .move (.tmp 0), type := 0, pos := "", after := #[], guard := none }

set_option maxRecDepth 100000 in
theorem op18_3 : ∃ o, ops18[3]? = some o ∧ o.guard = none ∧ o.dst = some 63 ∧ o.op = .lookup 23 (.tmp 60) (.tmp 62) false := ⟨o18 3, by kernel_rfl, by kernel_rfl, by kernel_rfl, by kernel_rfl⟩
set_option maxRecDepth 100000 in
theorem op18_4 : ∃ o, ops18[4]? = some o ∧ o.guard = none ∧ o.dst = some 64 ∧ o.op = .binOp .add 3 (.tmp 63) (.const (.int .i64 1)) 3 := ⟨o18 4, by kernel_rfl, by kernel_rfl, by kernel_rfl, by kernel_rfl⟩
set_option maxRecDepth 100000 in
theorem op18_5 : ∃ o, ops18[5]? = some o ∧ o.guard = none ∧ o.dst = none ∧ o.op = .mapUpdate 23 (.tmp 60) (.tmp 62) (.tmp 64) := ⟨o18 5, by kernel_rfl, by kernel_rfl, by kernel_rfl, by kernel_rfl⟩

set_option maxRecDepth 100000 in
/-- 'seen[k]++': the last three operations. -/
theorem map18 {w0 : World} {c : Cx} {hP : Hp} {p : List (List Nat × Nat)} {L : List (Nat × AV)} {a : Act} {w : World} {nx : Nat} {Q : Exit → Act → World → Prop} (hbd : Bd c nx) {k : List Nat} (hp : ∀ x, x ∈ p → x.2 < 99999) (s : St w0 c hP p ((60, .at (.mp 0)) :: (62, .at (.str k)) :: L) a w) (hL : ∀ t v, (t, v) ∈ L → t ≠ 63 ∧ t ≠ 64)
    (hQ : ∀ a' w', St w0 c hP (bump p k) L a' w' → Q .normal a' w') : wpOps Tryz.prog ops18 Q (List.range' 3 3) a w := by
  obtain ⟨x3, i3, g3, d3, e3⟩ := op18_3
  obtain ⟨x4, i4, g4, d4, e4⟩ := op18_4
  obtain ⟨x5, i5, g5, d5, e5⟩ := op18_5
  show wpOps Tryz.prog ops18 Q [3, 4, 5] a w
  have r1 : R c (hM p).get w := s.mv.r.sub hM_sub
  have k1 : Kn c [(60, .at (.mp 0)), (62, .at (.str k))] a.tmps := s.kn.of fun t v h => by simp at h ⊢; rcases h with h | h <;> simp [h]
  refine one_op i3 g3 (look18 p k nx e3) r1 hbd k1 ?_
  intro c1 w1 x mv1 gr1 hx
  have e := gr_same mv1.le gr1
  subst e
  rw [d3]
  obtain ⟨n1, n2, n3⟩ := put_new (x := x) s.sz (show 63 < 72 by decide)
  have keep1 : ∀ t, t ≠ 63 → (a.put (some 63) x).tmps[t]? = a.tmps[t]? := fun t ht => put_keep (fun e => ht (by simpa using e.symm))
  -- the number, and one more
  have hmm : ∃ m, m < 99999 ∧ x = .int .i64 (.ofNat m) ∧ oneMore p k = .int .i64 (.ofNat (m + 1)) := by
    unfold oneMore
    rcases posOf_spec k p 0 with ⟨h1, h2⟩ | ⟨q, m, h1, h2, h3⟩
    · rw [h1] at hx ⊢
      exact ⟨0, by decide, hx, rfl⟩
    · rw [h1] at hx ⊢
      have := hp _ (List.mem_of_getElem? h3)
      exact ⟨m, this, hx, rfl⟩
  obtain ⟨m, hm, rfl, hmv⟩ := hmm
  refine one_op i4 g4 (add18 m (by omega) (hM p) nx e4) mv1.r hbd (fun t v h => by simp at h; obtain ⟨rfl, rfl⟩ := h; exact ⟨_, n1, rfl⟩) ?_
  intro c2 w2 y mv2 gr2 hy
  have e := gr_same mv2.le gr2
  subst e
  rw [d4]
  obtain ⟨q1, q2, q3⟩ := put_new (x := y) n2 (show 64 < 72 by decide)
  have keep2 : ∀ t, t ≠ 64 → ((a.put (some 63) (.int .i64 (.ofNat m))).put (some 64) y).tmps[t]? = (a.put (some 63) (.int .i64 (.ofNat m))).tmps[t]? := fun t ht => put_keep (fun e => ht (by simpa using e.symm))
  refine one_op i5 g5 (upd18 p k nx e5) mv2.r hbd ?_ ?_
  · intro t v h
    simp only [List.mem_cons, Prod.mk.injEq, List.not_mem_nil, or_false] at h
    rcases h with ⟨rfl, rfl⟩ | ⟨rfl, rfl⟩ | ⟨rfl, rfl⟩
    · obtain ⟨z, hz, hr⟩ := k1 60 (.at (.mp 0)) (by simp)
      exact ⟨z, by rw [keep2 _ (by decide), keep1 _ (by decide)]; exact hz, hr⟩
    · obtain ⟨z, hz, hr⟩ := k1 62 (.at (.str k)) (by simp)
      exact ⟨z, by rw [keep2 _ (by decide), keep1 _ (by decide)]; exact hz, hr⟩
    · exact ⟨y, q1, by rw [hmv]; exact hy⟩
  intro c3 w3 z mv3 gr3 _
  have e := gr_same mv3.le gr3
  subst e
  rw [d5]
  refine hQ _ _ ⟨?_, ?_, q2, (q3.trans n3).trans s.df⟩
  · have mvA := mv1.trans (mv2.trans mv3)
    refine s.mv.trans (mvA.frame s.mv.r (fun id b hb => ⟨b, hM_sub id b hb⟩) fun id b hb => ?_)
    unfold HS at hb
    split at hb
    · rename_i h0
      subst h0
      exact .inl hb
    · rename_i h0
      refine .inr ⟨by unfold HS; rw [if_neg h0]; exact hb, ?_⟩
      cases hq : (hM p).get id with
      | none => rfl
      | some b' =>
        have := T.of_get _ _ _ hq
        simp at this
        exact absurd this.1 h0
  · intro t v htv
    obtain ⟨h63, h64⟩ := hL t v htv
    obtain ⟨u, hu, hr⟩ := s.kn t v (by simp [htv])
    refine ⟨u, ?_, hr⟩
    show ((a.put (some 63) (.int .i64 (.ofNat m))).put (some 64) y).tmps[t]? = _
    rw [keep2 t h64, keep1 t h63]; exact hu

end
end Go.Proofs.YtljkldmjakabdaaGreat.Ev

