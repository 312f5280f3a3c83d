/- TopCounts by reckoning: the inner loop. -/
import Derived.Test.YtljkldmjakabdaaGreatEtD
namespace Go.Proofs.YtljkldmjakabdaaGreat.Ev
open Go

noncomputable section

abbrev pcs : List Code := [kR12, kR13, kR14, kR16, kR17]

/-- What is reckoned of one map, from one root: its word, if there is one. -/
def ItOk (NX : Nat) (sl : At) (B : Nat) (blk : Blk) (r : Nat) (k : Option (List Nat)) : Prop := match k with
  | none => ∃ (tab : CallT) (n2 : Nat), CallOk Tryz.prog tab ∧ isS [(59, .at (.bool false))] (T.of [(B, blk)]) n2 (evalL tab 72 100000 pcs (T.of [(42, iI r), (9, .at sl)]) (T.of [(B, blk)]) NX) = true
  | some k => ∃ (tab : CallT) (n2 : Nat) (h2 : Hp) (u : At) (n3 : Nat), CallOk Tryz.prog tab ∧ isS [(59, .at (.bool true)), (13, .at u)] h2 n2 (evalL tab 72 100000 pcs (T.of [(42, iI r), (9, .at sl)]) (T.of [(B, blk)]) NX) = true ∧
      isS [(60, .at (.mp 0)), (62, .at (.str k))] (T.of [(B, blk)]) n3 ((runK Tryz.prog 72 ops18 (ops18.toList.take 3)).run tab (T.of [(6, .at (.mp 0)), (13, .at u)]) h2 n2) = true

def keptL : List Nat := [1, 5, 6, 7, 9, 26, 27, 41, 42]
set_option maxRecDepth 100000 in
theorem kept_in : ∀ t, t ∈ keptL → wrS pcs t = false ∧ wrL (ops18.toList.take 3) t = false := by
  have h : (keptL.all fun t => !(wrS pcs t) && !(wrL (ops18.toList.take 3) t)) = true := by kernel_rfl
  intro t ht
  have := List.all_eq_true.1 h t ht
  simpa using this
set_option maxRecDepth 100000 in
theorem pcs_still : noDraws pcs = true := by kernel_rfl
set_option maxRecDepth 100000 in
theorem range18 : List.range ops18.size = List.range' 0 (ops18.toList.take 3).length ++ List.range' 3 3 := by kernel_rfl

/-- Slots in the inner loop. -/
def L2 (f n : Nat) (v : At) (F i D : Nat) (sl : At) (r : Nat) : List (Nat × AV) := [(1, .at (.int .u8 (.ofNat f))), (5, iI n), (6, .at (.mp 0)), (7, .at v), (26, iI F), (27, iI i), (41, iI D), (9, .at sl), (42, iI r)]

theorem L2_kept {f n : Nat} {v : At} {F i D : Nat} {sl : At} {r : Nat} : ∀ t x, (t, x) ∈ L2 f n v F i D sl r → t ∈ keptL := by
  intro t x h
  simp only [L2, List.mem_cons, Prod.mk.injEq, List.not_mem_nil, or_false] at h
  rcases h with ⟨rfl, _⟩ | ⟨rfl, _⟩ | ⟨rfl, _⟩ | ⟨rfl, _⟩ | ⟨rfl, _⟩ | ⟨rfl, _⟩ | ⟨rfl, _⟩ | ⟨rfl, _⟩ | ⟨rfl, _⟩ <;> decide

theorem Kn.bool {c : Cx} {L : List (Nat × AV)} {a : Act} {t : Nat} {b : Bool} (h : Kn c L a.tmps) (hm : (t, .at (.bool b)) ∈ L) : a.eval (.tmp t) = .bool b := by
  obtain ⟨x, hx, hr⟩ := h t _ hm
  have hr' : x = .bool b := hr
  subst hr'
  simp [Act.eval, Array.getD_eq_getD_getElem?, hx]

/-- Seen, if there is a word. -/
def bumpO (p : List (List Nat × Nat)) : Option (List Nat) → List (List Nat × Nat)
  | none => p
  | some k => bump p k

set_option maxRecDepth 100000 in
theorem inner {w0 : World} {c : Cx} {hP : Hp} {p : List (List Nat × Nat)} {a : Act} {w : World} {NX f n : Nat} {v : At} {F i D : Nat} {sl : At} {r B : Nat} {blk : Blk} {k : Option (List Nat)} (hbd : Bd c NX) (it : ItOk NX sl B blk r k) (hB : hP.get B = some blk) (hB0 : B ≠ 0) (hf : FlatB blk) (hg : (T.of [(B, blk)]).get B = some blk)
    (hp : ∀ x, x ∈ p → x.2 < 99999) (s : St w0 c hP p (L2 f n v F i D sl r) a w) : kBlk3.wp Tryz.prog (fun e a' w' => e = .normal ∧ St w0 c hP (bumpO p k) (L2 f n v F i D sl r) a' w') a w := by
  have only : ∀ id b, (T.of [(B, blk)]).get id = some b → id = B ∧ b = blk := by
    intro id b h
    have := T.of_get _ _ _ h
    simpa using this
  have hHS : HS hP p B = some blk := by unfold HS; rw [if_neg hB0]; exact hB
  have r0 : R c (T.of [(B, blk)]).get w := s.mv.r.sub fun id b h => by obtain ⟨rfl, rfl⟩ := only id b h; exact hHS
  have k0 : Kn c [(42, iI r), (9, .at sl)] a.tmps := s.kn.of fun t x h => by
    simp only [List.mem_cons, Prod.mk.injEq, List.not_mem_nil, or_false] at h
    rcases h with ⟨rfl, rfl⟩ | ⟨rfl, rfl⟩ <;> simp [L2]
  rw [blk3_is]
  refine wp_block ?_
  cases k with
  | none =>
    obtain ⟨tab, n2, hc, he⟩ := it
    refine pieces hc pcs pcs_still he r0 hbd k0 s.sz ?_
    rintro a1 w1 ⟨d1, s1, ⟨c1, m1, g1, k1⟩, keep1⟩
    rw [if18_is]
    refine wp_cond_false (k1.bool (by simp)) (wp_skip ?_)
    exact ⟨rfl, s.back hB hB0 hf hg m1 g1 k1 s1 d1 keep1 fun t x h => .inr ⟨h, (kept_in t (L2_kept t x h)).1⟩⟩
  | some k =>
    obtain ⟨tab, n2, h2, u, n3, hc, he, he2⟩ := it
    refine pieces hc pcs pcs_still he r0 hbd k0 s.sz ?_
    rintro a1 w1 ⟨d1, s1, ⟨c1, m1, g1, k1⟩, keep1⟩
    rw [if18_is]
    refine wp_cond_true (k1.bool (by simp)) (wp_region ?_)
    rw [range18]
    have k6 : Kn c1 [(6, .at (.mp 0)), (13, .at u)] a1.tmps := by
      intro t x h
      simp only [List.mem_cons, Prod.mk.injEq, List.not_mem_nil, or_false] at h
      rcases h with ⟨rfl, rfl⟩ | ⟨rfl, rfl⟩
      · obtain ⟨y, hy, hr⟩ := s.kn 6 (.at (.mp 0)) (by simp [L2])
        exact ⟨y, by rw [keep1 6 (kept_in 6 (by decide)).1]; exact hy, hr.mono m1.le⟩
      · exact k1 13 _ (by simp)
    refine segK hc (ops18.toList.take 3) (ops18.toList.drop 3) 0 (by simp) he2 m1.r (g1.bd hbd) k6 s1 ?_
    rintro a2 w2 ⟨d2, s2, ⟨c2, m2, g2, k2⟩, keep2⟩
    have sb : St w0 c hP p ((60, .at (.mp 0)) :: (62, .at (.str k)) :: L2 f n v F i D sl r) a2 w2 := by
      refine s.back (W := fun t => wrS pcs t || wrL (ops18.toList.take 3) t) hB hB0 hf hg (m1.trans m2) (g1.trans g2) k2 s2 (d2.trans d1) (fun t ht => ?_) fun t x h => ?_
      · simp only [Bool.or_eq_false_iff] at ht
        rw [keep2 t ht.2, keep1 t ht.1]
      · rcases List.mem_cons.1 h with h | h
        · cases h
          refine .inl ⟨by simp, ?_⟩
          show Nat.blt 0 NX = true
          rw [blt_dec]
          obtain ⟨y, hy, q, hq, _⟩ := s.kn 6 (.at (.mp 0)) (by simp [L2])
          exact decide_eq_true (hbd 0 q hq)
        · rcases List.mem_cons.1 h with h | h
          · cases h
            exact .inl ⟨by simp, rfl⟩
          · obtain ⟨h1, h2⟩ := kept_in t (L2_kept t x h)
            exact .inr ⟨h, by simp [h1, h2]⟩
    refine map18 hbd hp sb (fun t x h => ?_) fun a' w' s' => ⟨rfl, s'⟩
    have := L2_kept t x h
    simp only [keptL, List.mem_cons, List.not_mem_nil, or_false] at this
    omega

end
end Go.Proofs.YtljkldmjakabdaaGreat.Ev

