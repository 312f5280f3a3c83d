/- TopCounts by reckoning: the loops over roots, over permutations. -/
import Derived.Test.YtljkldmjakabdaaGreatEtE
namespace Go.Proofs.YtljkldmjakabdaaGreat.Ev
open Go

noncomputable section

/-- What is reckoned, for one count of edges. -/
structure Env where
  n : Nat
  D : Nat
  F : Nat
  NX : Nat
  v : At
  hP : Hp
  hO : Hp
  sl : Nat → At
  rb : Nat → Nat
  blk : Nat → Blk
  Wd : Nat → Nat → Option (List Nat)

structure EnvOk (E : Env) : Prop where
  F0 : 0 < E.F
  small : E.F * E.D + E.D < 90000
  it : ∀ j r, j < E.F → r < E.D → ItOk E.NX (E.sl j) (E.rb j) (E.blk j) r (E.Wd j r)
  row : ∀ j, j < E.F → E.hP.get (E.rb j) = some (E.blk j) ∧ E.rb j ≠ 0 ∧ FlatB (E.blk j) ∧ (T.of [(E.rb j, E.blk j)]).get (E.rb j) = some (E.blk j)
  out : ∀ id b, E.hO.get id = some b → id ≠ 0 ∧ E.hP.get id = some b
  r7 : ∀ i, i < E.F → isS [] .leaf E.NX (evalL noCall 72 1 [kR7, kIf7] (T.of [(27, iI i), (26, iI E.F)]) .leaf E.NX) = true
  r7x : isC (.exit 0) [] .leaf E.NX ((codeK Tryz.prog 72 1 kBody1).run noCall (T.of [(27, iI E.F), (26, iI E.F)]) .leaf E.NX) = true
  r8 : ∀ i f, i < E.F → f < 256 → isS [(9, .at (E.sl ((i + f) % E.F)))] E.hO E.NX (evalL noCall 72 1 [kR8, kR9] (T.of [(27, iI i), (7, .at E.v), (1, .at (.int .u8 (.ofNat f)))]) E.hO E.NX) = true
  r10 : isS [(41, iI E.D), (42, iI 0)] .leaf E.NX (evalL noCall 72 1 [kR10] (T.of [(5, iI E.n)]) .leaf E.NX) = true
  r11 : ∀ r, r < E.D → isS [] .leaf E.NX (evalL noCall 72 1 [kR11, kIf11] (T.of [(42, iI r), (41, iI E.D)]) .leaf E.NX) = true
  r11x : isC (.exit 2) [] .leaf E.NX ((codeK Tryz.prog 72 1 kBody2).run noCall (T.of [(42, iI E.D), (41, iI E.D)]) .leaf E.NX) = true
  r19 : ∀ r, r < E.D → isC .norm [(42, iI (r + 1))] .leaf E.NX ((codeK Tryz.prog 72 1 kR19).run noCall (T.of [(42, iI r)]) .leaf E.NX) = true
  r20 : ∀ i, i < E.F → isC .norm [(27, iI (i + 1))] .leaf E.NX ((codeK Tryz.prog 72 1 kR20).run noCall (T.of [(27, iI i)]) .leaf E.NX) = true

/-- What of code's writing is wanted. -/
def keepAll (W : Nat → Bool) (l : List Nat) : Bool := l.all fun t => !(W t)
theorem keepAll_get {W : Nat → Bool} {l : List Nat} (h : keepAll W l = true) {t : Nat} (ht : t ∈ l) : W t = false := by
  have := List.all_eq_true.1 h t ht
  simpa using this

set_option maxRecDepth 100000 in
theorem keep11 : keepAll (wrS [kR11, kIf11]) keptL = true := by kernel_rfl
set_option maxRecDepth 100000 in
theorem keep19 : keepAll (wrC kR19) [1, 5, 6, 7, 26, 27, 41, 9] = true := by kernel_rfl
set_option maxRecDepth 100000 in
theorem keepB2 : keepAll (wrC kBody2) [1, 5, 6, 7, 26, 27] = true := by kernel_rfl
set_option maxRecDepth 100000 in
theorem keep7 : keepAll (wrS [kR7, kIf7]) [1, 5, 6, 7, 26, 27] = true := by kernel_rfl
set_option maxRecDepth 100000 in
theorem keep8 : keepAll (wrS [kR8, kR9]) [1, 5, 6, 7, 26, 27] = true := by kernel_rfl
set_option maxRecDepth 100000 in
theorem keep10 : keepAll (wrS [kR10]) [1, 5, 6, 7, 26, 27, 9] = true := by kernel_rfl
set_option maxRecDepth 100000 in
theorem keep20 : keepAll (wrC kR20) [1, 5, 6, 7, 26] = true := by kernel_rfl
set_option maxRecDepth 100000 in
theorem keepB1 : keepAll (wrC kBody1) [5, 6] = true := by kernel_rfl
set_option maxRecDepth 100000 in
theorem still11 : noDraws [kR11, kIf11] = true := by kernel_rfl
set_option maxRecDepth 100000 in
theorem still19 : noDraw kR19 = true := by kernel_rfl
set_option maxRecDepth 100000 in
theorem stillB2 : noDraw kBody2 = true := by kernel_rfl
set_option maxRecDepth 100000 in
theorem still7 : noDraws [kR7, kIf7] = true := by kernel_rfl
set_option maxRecDepth 100000 in
theorem still8 : noDraws [kR8, kR9] = true := by kernel_rfl
set_option maxRecDepth 100000 in
theorem still10 : noDraws [kR10] = true := by kernel_rfl
set_option maxRecDepth 100000 in
theorem still20 : noDraw kR20 = true := by kernel_rfl
set_option maxRecDepth 100000 in
theorem stillB1 : noDraw kBody1 = true := by kernel_rfl

/-- Slots in the outer loop. -/
def L1 (f n : Nat) (v : At) (F i : Nat) : List (Nat × AV) := [(1, .at (.int .u8 (.ofNat f))), (5, iI n), (6, .at (.mp 0)), (7, .at v), (26, iI F), (27, iI i)]
theorem L1_kept {f n : Nat} {v : At} {F i : Nat} : ∀ t x, (t, x) ∈ L1 f n v F i → t ∈ [1, 5, 6, 7, 26, 27] := by
  intro t x h
  simp only [L1, List.mem_cons, Prod.mk.injEq, List.not_mem_nil, or_false] at h
  rcases h with ⟨rfl, _⟩ | ⟨rfl, _⟩ | ⟨rfl, _⟩ | ⟨rfl, _⟩ | ⟨rfl, _⟩ | ⟨rfl, _⟩ <;> decide
theorem L1_L2 {f n : Nat} {v : At} {F i D : Nat} {sl : At} {r : Nat} : ∀ t x, (t, x) ∈ L1 f n v F i → (t, x) ∈ L2 f n v F i D sl r := by
  intro t x h
  simp only [L1, L2, List.mem_cons, Prod.mk.injEq, List.not_mem_nil, or_false] at h ⊢
  rcases h with h | h | h | h | h | h <;> simp [h]
theorem L2_mem {f n : Nat} {v : At} {F i D : Nat} {sl : At} {r : Nat} : ∀ t x, (t, x) ∈ L2 f n v F i D sl r → (t, x) ∈ L1 f n v F i ∨ (t, x) = (41, iI D) ∨ (t, x) = (9, .at sl) ∨ (t, x) = (42, iI r) := by
  intro t x h
  simp only [L1, L2, List.mem_cons, List.not_mem_nil, or_false] at h ⊢
  rcases h with h | h | h | h | h | h | h | h | h <;> simp [h]

theorem leaf_sub {H : HF} : ∀ id b, (T.leaf : Hp).get id = some b → H id = some b := by intro id b h; cases h
theorem r_leaf {c : Cx} {H : HF} {w : World} (r : R c H w) : R c (T.leaf : Hp).get w := r.sub leaf_sub

/-- How the words grow, along one row. -/
structure Grew (Wd : Nat → Option (List Nat)) (p p' : List (List Nat × Nat)) (r : Nat) : Prop where
  old : ∀ s, s ∈ p.map Prod.fst → s ∈ p'.map Prod.fst
  new : ∀ q s, q < r → Wd q = some s → s ∈ p'.map Prod.fst
  only : ∀ s, s ∈ p'.map Prod.fst → s ∈ p.map Prod.fst ∨ ∃ q, q < r ∧ Wd q = some s
  nodup : (p.map Prod.fst).Nodup → (p'.map Prod.fst).Nodup
  cnt : ∀ M, (∀ x, x ∈ p → x.2 ≤ M) → ∀ x, x ∈ p' → x.2 ≤ M + r

theorem Grew.zero (Wd : Nat → Option (List Nat)) (p : List (List Nat × Nat)) : Grew Wd p p 0 :=
  ⟨fun _ h => h, fun q s h => by omega, fun s h => .inl h, fun h => h, fun M h x hx => by have := h x hx; omega⟩

theorem Grew.next {Wd : Nat → Option (List Nat)} {p p' : List (List Nat × Nat)} {r : Nat} (g : Grew Wd p p' r) : Grew Wd p (bumpO p' (Wd r)) (r + 1) := by
  cases hk : Wd r with
  | none =>
    refine ⟨g.old, fun q s hq hs => ?_, fun s hs => ?_, g.nodup, fun M h x hx => by have := g.cnt M h x hx; omega⟩
    · rcases Nat.lt_or_ge q r with h | h
      · exact g.new q s h hs
      · have : q = r := by omega
        subst this; rw [hk] at hs; cases hs
    · rcases g.only s hs with h | ⟨q, h1, h2⟩
      · exact .inl h
      · exact .inr ⟨q, by omega, h2⟩
  | some k =>
    have mem := bump_mem p' k
    refine ⟨fun s h => (mem s).2 (.inl (g.old s h)), fun q s hq hs => ?_, fun s hs => ?_, fun h => bump_nodup p' k (g.nodup h), fun M h x hx => ?_⟩
    · rcases Nat.lt_or_ge q r with h | h
      · exact (mem s).2 (.inl (g.new q s h hs))
      · have : q = r := by omega
        subst this; rw [hk] at hs; cases hs; exact (mem _).2 (.inr rfl)
    · rcases (mem s).1 hs with h | rfl
      · rcases g.only s h with h | ⟨q, h1, h2⟩
        · exact .inl h
        · exact .inr ⟨q, by omega, h2⟩
      · exact .inr ⟨r, by omega, hk⟩
    · have := bump_count p' k (M + r) (g.cnt M h) x hx; omega

set_option maxRecDepth 100000 in
/-- The loop over the roots. -/
theorem loop2 {E : Env} (e : EnvOk E) {w0 : World} {c : Cx} {p : List (List Nat × Nat)} {a : Act} {w : World} {f i j : Nat} (hj : j < E.F) (hbd : Bd c E.NX) (hp : ∀ x, x ∈ p → x.2 ≤ E.F * E.D)
    (s : St w0 c E.hP p (L2 f E.n E.v E.F i E.D (E.sl j) 0) a w) : kLoop2.wp Tryz.prog (fun en a' w' => en = .normal ∧ ∃ p', Grew (E.Wd j) p p' E.D ∧ St w0 c E.hP p' (L1 f E.n E.v E.F i) a' w') a w := by
  rw [loop2_is]
  refine wp_block (wp_loop_ghost (fun m a1 w1 => ∃ r p', m + r = E.D ∧ Grew (E.Wd j) p p' r ∧ St w0 c E.hP p' (L2 f E.n E.v E.F i E.D (E.sl j) r) a1 w1) E.D ⟨0, p, by omega, Grew.zero _ _, s⟩ ?_)
  rintro m a1 w1 ⟨r, p', hm, g, s1⟩
  have k42 : Kn c [(42, iI r), (41, iI E.D)] a1.tmps := s1.kn.of fun t x h => by
    simp only [List.mem_cons, Prod.mk.injEq, List.not_mem_nil, or_false] at h
    rcases h with ⟨rfl, rfl⟩ | ⟨rfl, rfl⟩ <;> simp [L2]
  by_cases hr : r < E.D
  · rw [body2_is]
    refine pieces noCall_ok [kR11, kIf11] still11 (e.r11 r hr) (r_leaf s1.mv.r) hbd k42 s1.sz ?_
    intro a2 w2 af
    have s2 : St w0 c E.hP p' (L2 f E.n E.v E.F i E.D (E.sl j) r) a2 w2 := s1.quiet leaf_sub af fun t x h => .inr ⟨h, keepAll_get keep11 (L2_kept t x h)⟩
    obtain ⟨h1, h2, h3, h4⟩ := e.row j hj
    refine wp_seq (wp_mono (inner hbd (e.it j r hj hr) h1 h2 h3 h4 (fun x hx => ?_) s2) ?_)
    · have := g.cnt _ hp x hx
      have := e.small
      omega
    rintro en a3 w3 ⟨rfl, s3⟩
    have k42' : Kn c [(42, iI r)] a3.tmps := s3.kn.of fun t x h => by
      simp only [List.mem_cons, Prod.mk.injEq, List.not_mem_nil, or_false] at h
      obtain ⟨rfl, rfl⟩ := h
      simp [L2]
    refine wp_mono (pieceC noCall_ok kR19 still19 (e.r19 r hr) (r_leaf s3.mv.r) hbd k42' s3.sz) ?_
    rintro en a4 w4 ⟨rfl, af⟩
    refine ⟨m - 1, by omega, r + 1, _, by omega, g.next, s3.quiet leaf_sub af fun t x h => ?_⟩
    rcases L2_mem t x h with h | h | h | h
    · exact .inr ⟨L1_L2 t x h, keepAll_get keep19 (by have := L1_kept t x h; simp at this ⊢; omega)⟩
    · cases h; exact .inr ⟨by simp [L2], keepAll_get keep19 (by decide)⟩
    · cases h; exact .inr ⟨by simp [L2], keepAll_get keep19 (by decide)⟩
    · cases h; exact .inl (by simp)
  · have hre : r = E.D := by omega
    subst hre
    refine wp_mono (pieceC noCall_ok kBody2 stillB2 e.r11x (r_leaf s1.mv.r) hbd k42 s1.sz) ?_
    rintro en a2 w2 ⟨rfl, af⟩
    simp only [Fl.to, Exit.then, Exit.inBlock, if_true]
    exact ⟨trivial, p', g, s1.quiet leaf_sub af fun t x h => .inr ⟨L1_L2 t x h, keepAll_get keepB2 (L1_kept t x h)⟩⟩

/-- All that is known of the words, before the i-th permutation. -/
structure Tot (E : Env) (f i : Nat) (p : List (List Nat × Nat)) : Prop where
  new : ∀ i' r s, i' < i → r < E.D → E.Wd ((i' + f) % E.F) r = some s → s ∈ p.map Prod.fst
  only : ∀ s, s ∈ p.map Prod.fst → ∃ j r, j < E.F ∧ r < E.D ∧ E.Wd j r = some s
  nodup : (p.map Prod.fst).Nodup
  cnt : ∀ x, x ∈ p → x.2 ≤ i * E.D

set_option maxRecDepth 100000 in
/-- The loop over the permutations. -/
theorem loop1 {E : Env} (e : EnvOk E) {w0 : World} {c : Cx} {a : Act} {w : World} {f : Nat} (hf : f < 256) (hbd : Bd c E.NX)
    (s : St w0 c E.hP [] (L1 f E.n E.v E.F 0) a w) : kLoop1.wp Tryz.prog (fun en a' w' => en = .normal ∧ ∃ p', Tot E f E.F p' ∧ St w0 c E.hP p' [(5, iI E.n), (6, .at (.mp 0))] a' w') a w := by
  rw [loop1_is]
  refine wp_block (wp_loop_ghost (fun m a1 w1 => ∃ i p, m + i = E.F ∧ Tot E f i p ∧ St w0 c E.hP p (L1 f E.n E.v E.F i) a1 w1) E.F ⟨0, [], by omega, ⟨fun i' r s h => by omega, fun s h => by simp at h, by simp, fun x h => by simp at h⟩, s⟩ ?_)
  rintro m a1 w1 ⟨i, p, hm, t, s1⟩
  have k27 : Kn c [(27, iI i), (26, iI E.F)] a1.tmps := s1.kn.of fun t x h => by
    simp only [List.mem_cons, Prod.mk.injEq, List.not_mem_nil, or_false] at h
    rcases h with ⟨rfl, rfl⟩ | ⟨rfl, rfl⟩ <;> simp [L1]
  by_cases hi : i < E.F
  · rw [body1_is]
    refine pieces noCall_ok [kR7, kIf7] still7 (e.r7 i hi) (r_leaf s1.mv.r) hbd k27 s1.sz ?_
    intro a2 w2 af
    have s2 : St w0 c E.hP p (L1 f E.n E.v E.F i) a2 w2 := s1.quiet leaf_sub af fun t x h => .inr ⟨h, keepAll_get keep7 (L1_kept t x h)⟩
    refine wp_seq ?_
    rw [blk1_is]
    refine wp_block ?_
    have sub : ∀ id b, E.hO.get id = some b → HS E.hP p id = some b := fun id b h => by
      obtain ⟨h1, h2⟩ := e.out id b h
      unfold HS; rw [if_neg h1]; exact h2
    have k8 : Kn c [(27, iI i), (7, .at E.v), (1, .at (.int .u8 (.ofNat f)))] a2.tmps := s2.kn.of fun t x h => by
      simp only [List.mem_cons, Prod.mk.injEq, List.not_mem_nil, or_false] at h
      rcases h with ⟨rfl, rfl⟩ | ⟨rfl, rfl⟩ | ⟨rfl, rfl⟩ <;> simp [L1]
    show (seqs [kR8, kR9] (seqs [kR10] kLoop2)).wp _ _ _ _
    refine pieces noCall_ok [kR8, kR9] still8 (e.r8 i f hi hf) (s2.mv.r.sub sub) hbd k8 s2.sz ?_
    intro a3 w3 af
    have s3 : St w0 c E.hP p ((9, .at (E.sl ((i + f) % E.F))) :: L1 f E.n E.v E.F i) a3 w3 := s2.quiet sub af fun t x h => by
      rcases List.mem_cons.1 h with h | h
      · exact .inl (by simp [h])
      · exact .inr ⟨h, keepAll_get keep8 (L1_kept t x h)⟩
    have k5 : Kn c [(5, iI E.n)] a3.tmps := s3.kn.of fun t x h => by
      simp only [List.mem_cons, Prod.mk.injEq, List.not_mem_nil, or_false] at h
      obtain ⟨rfl, rfl⟩ := h
      simp [L1]
    refine pieces noCall_ok [kR10] still10 e.r10 (r_leaf s3.mv.r) hbd k5 s3.sz ?_
    intro a4 w4 af
    have s4 : St w0 c E.hP p (L2 f E.n E.v E.F i E.D (E.sl ((i + f) % E.F)) 0) a4 w4 := s3.quiet leaf_sub af fun t x h => by
      rcases L2_mem t x h with h | h | h | h
      · exact .inr ⟨by simp [h], keepAll_get keep10 (by have := L1_kept t x h; simp at this ⊢; omega)⟩
      · cases h; exact .inl (by simp)
      · cases h; exact .inr ⟨by simp, keepAll_get keep10 (by decide)⟩
      · cases h; exact .inl (by simp)
    have hle : i * E.D ≤ E.F * E.D := Nat.mul_le_mul_right _ (Nat.le_of_lt hi)
    refine wp_mono (loop2 e (Nat.mod_lt _ e.F0) hbd (fun x hx => Nat.le_trans (t.cnt x hx) hle) s4) ?_
    rintro en a5 w5 ⟨rfl, p', g, s5⟩
    have k27' : Kn c [(27, iI i)] a5.tmps := s5.kn.of fun t x h => by
      simp only [List.mem_cons, Prod.mk.injEq, List.not_mem_nil, or_false] at h
      obtain ⟨rfl, rfl⟩ := h
      simp [L1]
    refine wp_mono (pieceC noCall_ok kR20 still20 (e.r20 i hi) (r_leaf s5.mv.r) hbd k27' s5.sz) ?_
    rintro en a6 w6 ⟨rfl, af⟩
    refine ⟨m - 1, by omega, i + 1, p', by omega, ⟨fun i' r s h1 h2 h3 => ?_, fun s h => ?_, g.nodup t.nodup, fun x hx => ?_⟩, s5.quiet leaf_sub af fun t x h => ?_⟩
    · rcases Nat.lt_or_ge i' i with h | h
      · exact g.old s (t.new i' r s h h2 h3)
      · have : i' = i := by omega
        subst this
        exact g.new r s h2 h3
    · rcases g.only s h with h | ⟨q, h1, h2⟩
      · exact t.only s h
      · exact ⟨_, q, Nat.mod_lt _ e.F0, h1, h2⟩
    · have := g.cnt _ t.cnt x hx
      rw [Nat.add_mul, Nat.one_mul]; exact this
    · simp only [L1, List.mem_cons, List.not_mem_nil, or_false] at h
      rcases h with h | h | h | h | h | h
      · cases h; exact .inr ⟨by simp [L1], keepAll_get keep20 (by decide)⟩
      · cases h; exact .inr ⟨by simp [L1], keepAll_get keep20 (by decide)⟩
      · cases h; exact .inr ⟨by simp [L1], keepAll_get keep20 (by decide)⟩
      · cases h; exact .inr ⟨by simp [L1], keepAll_get keep20 (by decide)⟩
      · cases h; exact .inr ⟨by simp [L1], keepAll_get keep20 (by decide)⟩
      · cases h; exact .inl (by simp)
  · have hie : i = E.F := by omega
    subst hie
    refine wp_mono (pieceC noCall_ok kBody1 stillB1 e.r7x (r_leaf s1.mv.r) hbd k27 s1.sz) ?_
    rintro en a2 w2 ⟨rfl, af⟩
    simp only [Fl.to, Exit.then, Exit.inBlock, if_true]
    refine ⟨trivial, p, t, s1.quiet leaf_sub af fun t x h => .inr ?_⟩
    simp only [List.mem_cons, Prod.mk.injEq, List.not_mem_nil, or_false] at h
    rcases h with ⟨rfl, rfl⟩ | ⟨rfl, rfl⟩
    · exact ⟨by simp [L1], keepAll_get keepB1 (by decide)⟩
    · exact ⟨by simp [L1], keepAll_get keepB1 (by decide)⟩

end
end Go.Proofs.YtljkldmjakabdaaGreat.Ev

