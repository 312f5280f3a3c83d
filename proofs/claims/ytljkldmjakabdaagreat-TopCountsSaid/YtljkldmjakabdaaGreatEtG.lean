/- TopCounts by reckoning: the whole function, over what is reckoned. -/
import Derived.Test.YtljkldmjakabdaaGreatEtF
import Derived.Test.YtljkldmjakabdaaGreatEwD
import Derived.Below
namespace Go.Proofs.YtljkldmjakabdaaGreat.Ev
open Go Go.RowKit

noncomputable section

/-- The end's facts, for one count of edges: the right words, each once. -/
structure EndOk (E : Env) : Prop where
  words : ∃ l : List (List Nat), l.Nodup ∧ (∀ j r s, j < E.F → r < E.D → E.Wd j r = some s → s ∈ l) ∧ (∀ s, s ∈ l → ∃ j r, j < E.F ∧ r < E.D ∧ E.Wd j r = some s) ∧
    ∃ tab, CallOk Tryz.prog tab ∧ isS [(4, .at (.bool true))] .leaf E.NX ((runK Tryz.prog 72 ops21 (ops21.toList.drop 2)).run tab (T.of [(68, iI l.length), (5, iI E.n)]) .leaf E.NX) = true
  p5 : ∃ tab, CallOk Tryz.prog tab ∧ isS [(6, .at (.mp 0)), (7, .at E.v)] E.hP E.NX (evalL tab 72 100000 [kR4, kR5] (T.of [(5, iI E.n)]) .leaf 0) = true
  p6 : isS [(26, iI E.F), (27, iI 0)] .leaf E.NX (evalL noCall 72 1 [kR6] (T.of [(7, .at E.v)]) .leaf E.NX) = true
  h0 : E.hP.get 0 = some (.map [])

theorem callK_ok (L d : Nat) : CallOk Tryz.prog (callK Tryz.prog prims L d) := by rw [callK_eq]; exact call_ok L d

def rowW : Row := ⟨4, [], .leaf, 0, .at (.bool true), .leaf, 0⟩
theorem rowW_ok : rowW.ok := works_entry.pure_ (fun v h => by cases h) rfl .leaf 0
theorem tabW_ok : CallOk Tryz.prog (tabC [rowW]) := tabC_ok [rowW] fun r h => by
  simp only [List.mem_cons, List.not_mem_nil, or_false] at h
  subst h; exact rowW_ok

set_option maxRecDepth 100000 in
theorem pre0 : isS [] .leaf 0 (evalL (tabC [rowW]) 72 1 [kR0, kR1] (T.of []) .leaf 0) = true := by kernel_rfl
set_option maxRecDepth 100000 in
theorem pre3 : ∀ e, e < 256 → isS [(5, iI (1 + e % 2))] .leaf 0 (evalL noCall 72 1 [kR3] (T.of [(0, .at (.int .u8 (.ofNat e)))]) .leaf 0) = true := by
  have h : ((List.range 256).all fun e => isS [(5, iI (1 + e % 2))] .leaf 0 (evalL noCall 72 1 [kR3] (T.of [(0, .at (.int .u8 (.ofNat e)))]) .leaf 0)) = true := by kernel_rfl
  intro e he
  exact List.all_eq_true.1 h e (by simpa using he)

set_option maxRecDepth 100000 in
theorem keepP0 : keepAll (wrS [kR0, kR1]) [0, 1] = true := by kernel_rfl
set_option maxRecDepth 100000 in
theorem keepP3 : keepAll (wrS [kR3]) [1] = true := by kernel_rfl
set_option maxRecDepth 100000 in
theorem keepP5 : keepAll (wrS [kR4, kR5]) [1, 5] = true := by kernel_rfl
set_option maxRecDepth 100000 in
theorem keepP6 : keepAll (wrS [kR6]) [1, 5, 6, 7] = true := by kernel_rfl
set_option maxRecDepth 100000 in
theorem stillP0 : noDraws [kR0, kR1] = true := by kernel_rfl
set_option maxRecDepth 100000 in
theorem stillP3 : noDraws [kR3] = true := by kernel_rfl
set_option maxRecDepth 100000 in
theorem stillP5 : noDraws [kR4, kR5] = true := by kernel_rfl
set_option maxRecDepth 100000 in
theorem stillP6 : noDraws [kR6] = true := by kernel_rfl

noncomputable def o21 (n : Nat) : Oper := match ops21[n]? with
  | some o => o
  | none => { dst := none, op := .move (.tmp 0), type := 0, pos := "", after := #[], guard := none }
set_option maxRecDepth 100000 in
theorem op21_0 : ∃ o, ops21[0]? = some o ∧ o.guard = none ∧ o.dst = some 67 ∧ o.op = .move (.tmp 6) := ⟨o21 0, by kernel_rfl, by kernel_rfl, by kernel_rfl, by kernel_rfl⟩
set_option maxRecDepth 100000 in
theorem op21_1 : ∃ o, ops21[1]? = some o ∧ o.guard = none ∧ o.dst = some 68 ∧ o.op = .call { callee := .builtin .len, args := #[.tmp 67], argTypes := #[23] } := ⟨o21 1, by kernel_rfl, by kernel_rfl, by kernel_rfl, by kernel_rfl⟩
set_option maxRecDepth 100000 in
theorem range21 : List.range ops21.size = 0 :: 1 :: (List.range' 2 (ops21.toList.drop 2).length ++ []) := by kernel_rfl

set_option maxRecDepth 100000 in
theorem len21 (p : List (List Nat × Nat)) (nx : Nat) {o : Oper} (ho : o.op = .call { callee := .builtin .len, args := #[.tmp 67], argTypes := #[23] }) :
    stepOp Tryz.prog noCall o (T.of [(67, .at (.mp 0))]) (hM p) nx = some (iI p.length, hM p, nx) := by
  have h67 : (T.of [(67, AV.at (.mp 0))]).get 67 = some (.at (.mp 0)) := rfl
  have hb : ((#[23] : Array Nat)[0]?).bind Tryz.prog.underlying = some (.map 9 3) := Tryz.underlying23
  simp only [stepOp, kdOf, readOp, ho, hb, opnd, h67, hM_get]
  simp [enc]

set_option maxRecDepth 100000 in
theorem mov21 (h : Hp) (nx : Nat) {o : Oper} (ho : o.op = .move (.tmp 6)) : stepOp Tryz.prog noCall o (T.of [(6, .at (.mp 0))]) h nx = some (.at (.mp 0), h, nx) := by
  have h6 : (T.of [(6, AV.at (.mp 0))]).get 6 = some (.at (.mp 0)) := rfl
  simp only [stepOp, kdOf, readOp, pureOp, ho, opnd, h6]

theorem tot_len {E : Env} {f : Nat} {p : List (List Nat × Nat)} (hF : 0 < E.F) (t : Tot E f E.F p) {l : List (List Nat)} (hn : l.Nodup) (h1 : ∀ j r s, j < E.F → r < E.D → E.Wd j r = some s → s ∈ l) (h2 : ∀ s, s ∈ l → ∃ j r, j < E.F ∧ r < E.D ∧ E.Wd j r = some s) : p.length = l.length := by
  have a : (p.map Prod.fst).length ≤ l.length := len_le _ _ t.nodup fun s hs => by
    obtain ⟨j, r, g1, g2, g3⟩ := t.only s hs
    exact h1 j r s g1 g2 g3
  have b : l.length ≤ (p.map Prod.fst).length := len_le _ _ hn fun s hs => by
    obtain ⟨j, r, g1, g2, g3⟩ := h2 s hs
    have hm : f % E.F < E.F := Nat.mod_lt _ hF
    refine t.new ((j + E.F - f % E.F) % E.F) r s (Nat.mod_lt _ hF) g2 ?_
    have : ((j + E.F - f % E.F) % E.F + f) % E.F = j := by
      rw [Nat.add_mod, Nat.mod_mod, ← Nat.add_mod]
      have h3 : (j + E.F - f % E.F + f) % E.F = (j + E.F - f % E.F + f % E.F) % E.F := by rw [Nat.add_mod, Nat.add_mod (j + E.F - f % E.F) (f % E.F), Nat.mod_mod]
      rw [h3, Nat.sub_add_cancel (by omega), Nat.add_mod_right, Nat.mod_eq_of_lt g1]
    rw [this]; exact g3
  rw [List.length_map] at a b
  omega

set_option maxRecDepth 100000 in
/-- The law's function, called. -/
theorem run_top {e f : Nat} (he : e < 256) (hf : f < 256) {E : Env} (ok : EnvOk E) (eo : EndOk E) (hn : E.n = 1 + e % 2) (w : World) :
    Calls Tryz.prog 3 #[.int .u8 (.ofNat e), .int .u8 (.ofNat f)] w fun en w' => en = .returned (.bool true) ∧ Below w.heap.size w w' := by
  have hbody : Tryz.f3.body = some mainC := by kernel_rfl
  have hres : Tryz.f3.results = #[.tmp 4] := by kernel_rfl
  have hnt : Tryz.f3.ntmps = 72 := by kernel_rfl
  refine calls_of_wp Tryz.func3 hbody ?_
  rw [hnt, main_is]
  generalize ha0 : ({ tmps := #[Value.int .u8 (.ofNat e), .int .u8 (.ofNat f)] ++ Array.replicate (72 - (#[Value.int .u8 (.ofNat e), .int .u8 (.ofNat f)] : Array Value).size) undef, defers := [] } : Act) = a0
  have z0 : a0.tmps.size = 72 := by rw [← ha0]; simp
  have d0 : a0.defers = [] := by rw [← ha0]
  have k0 : Kn (fun _ => none) [(0, .at (.int .u8 (.ofNat e))), (1, .at (.int .u8 (.ofNat f)))] a0.tmps := by
    intro t x h
    simp only [List.mem_cons, Prod.mk.injEq, List.not_mem_nil, or_false] at h
    rw [← ha0]
    rcases h with ⟨rfl, rfl⟩ | ⟨rfl, rfl⟩
    · exact ⟨.int .u8 (.ofNat e), by simp, rfl⟩
    · exact ⟨.int .u8 (.ofNat f), by simp, rfl⟩
  clear ha0
  have r0 : R (fun _ => none) (T.leaf : Hp).get w := ⟨fun id b hb => (by cases hb), fun i j b b' p q hi => (by cases hi)⟩
  have b0 : Bd (fun _ => none) 0 := fun i p hi => (by cases hi)
  show (seqs [kR0, kR1] (seqs [kR3] (seqs [kR4, kR5] _))).wp _ _ _ _
  refine pieces tabW_ok [kR0, kR1] stillP0 pre0 r0 b0 (fun t x h => by cases h) z0 ?_
  rintro a1 w1 ⟨d1, z1, ⟨c1, m1, g1, _⟩, keep1⟩
  have e1 := gr_same m1.le g1
  subst e1
  have k1 := k0.keep (.refl _) keep1 (fun t x h => keepAll_get keepP0 (by
    simp only [List.mem_cons, Prod.mk.injEq, List.not_mem_nil, or_false] at h
    rcases h with ⟨rfl, _⟩ | ⟨rfl, _⟩ <;> decide))
  refine pieces noCall_ok [kR3] stillP3 (pre3 e he) m1.r b0 (k1.of fun t x h => by
    simp only [List.mem_cons, Prod.mk.injEq, List.not_mem_nil, or_false] at h ⊢
    exact .inl h) z1 ?_
  rintro a2 w2 ⟨d2, z2, ⟨c2, m2, g2, k2⟩, keep2⟩
  have e2 := gr_same m2.le g2
  subst e2
  rw [← hn] at k2
  have q2 : Kn (fun _ => none) [(5, iI E.n), (1, .at (.int .u8 (.ofNat f)))] a2.tmps := by
    intro t x h
    simp only [List.mem_cons, Prod.mk.injEq, List.not_mem_nil, or_false] at h
    rcases h with ⟨rfl, rfl⟩ | ⟨rfl, rfl⟩
    · exact k2 5 _ (by simp)
    · obtain ⟨y, hy, hr⟩ := k1 1 (.at (.int .u8 (.ofNat f))) (by simp)
      exact ⟨y, by rw [keep2 1 (keepAll_get keepP3 (by decide))]; exact hy, hr⟩
  obtain ⟨tab5, c5, p5⟩ := eo.p5
  refine pieces c5 [kR4, kR5] stillP5 p5 m2.r b0 (q2.of fun t x h => by
    simp only [List.mem_cons, Prod.mk.injEq, List.not_mem_nil, or_false] at h ⊢
    exact .inl h) z2 ?_
  rintro a3 w3 ⟨d3, z3, ⟨c3, m3, g3, k3⟩, keep3⟩
  have hbd : Bd c3 E.NX := g3.bd b0
  have hs0 : ∀ id b, HS E.hP [] id = some b → E.hP.get id = some b := by
    intro id b h
    unfold HS at h
    split at h
    · rename_i h0
      subst h0
      rw [eo.h0]; exact h
    · exact h
  have m0 : Mv (fun _ => none) (fun _ => none) w c3 (HS E.hP []) w3 := by
    have mA := m1.trans (m2.trans m3)
    have mB : Mv (fun _ => none) (fun _ => none) w c3 E.hP.get w3 := by
      refine ⟨mA.le, mA.r, fun id b p _ hp => (by cases hp), fun id b p hb hn hp => ?_, fun x hx _ => mA.frm x hx fun j b q hb => (by cases hb), mA.grow, mA.out⟩
      rcases mA.new id b p hb rfl hp with h | ⟨j, x, q, hx, _⟩
      · exact .inl h
      · cases hx
    exact mB.less hs0
  have s3 : St w c3 E.hP [] [(1, .at (.int .u8 (.ofNat f))), (5, iI E.n), (6, .at (.mp 0)), (7, .at E.v)] a3 w3 := by
    refine ⟨m0, ?_, z3, d3.trans (d2.trans (d1.trans d0))⟩
    intro t x h
    simp only [List.mem_cons, Prod.mk.injEq, List.not_mem_nil, or_false] at h
    rcases h with ⟨rfl, rfl⟩ | ⟨rfl, rfl⟩ | ⟨rfl, rfl⟩ | ⟨rfl, rfl⟩
    · obtain ⟨y, hy, hr⟩ := q2 1 (.at (.int .u8 (.ofNat f))) (by simp)
      exact ⟨y, by rw [keep3 1 (keepAll_get keepP5 (by decide))]; exact hy, hr⟩
    · obtain ⟨y, hy, hr⟩ := q2 5 (iI E.n) (by simp)
      exact ⟨y, by rw [keep3 5 (keepAll_get keepP5 (by decide))]; exact hy, hr⟩
    · exact k3 6 _ (by simp)
    · exact k3 7 _ (by simp)
  clear m1 m2 m3 m0 g1 g2 g3 k0 k1 k2 k3 q2 keep1 keep2 keep3
  refine wp_seq ?_
  show (seqs [kR6] kLoop1).wp _ _ _ _
  refine pieces noCall_ok [kR6] stillP6 eo.p6 (r_leaf s3.mv.r) hbd (s3.kn.of fun t x h => by
    simp only [List.mem_cons, Prod.mk.injEq, List.not_mem_nil, or_false] at h ⊢
    rcases h with ⟨rfl, rfl⟩; simp) s3.sz ?_
  intro a4 w4 af
  have s4 : St w c3 E.hP [] (L1 f E.n E.v E.F 0) a4 w4 := s3.quiet leaf_sub af fun t x h => by
    simp only [L1, List.mem_cons, List.not_mem_nil, or_false] at h
    rcases h with h | h | h | h | h | h
    · cases h; exact .inr ⟨by simp, keepAll_get keepP6 (by decide)⟩
    · cases h; exact .inr ⟨by simp, keepAll_get keepP6 (by decide)⟩
    · cases h; exact .inr ⟨by simp, keepAll_get keepP6 (by decide)⟩
    · cases h; exact .inr ⟨by simp, keepAll_get keepP6 (by decide)⟩
    · cases h; exact .inl (by simp)
    · cases h; exact .inl (by simp)
  refine wp_mono (loop1 ok hf hbd s4) ?_
  rintro en a5 w5 ⟨rfl, p, t, s5⟩
  obtain ⟨l, ln, l1, l2, tab, ct, hend⟩ := eo.words
  have hlen := tot_len ok.F0 t ln l1 l2
  refine wp_seq ?_
  rw [r21_is]
  refine wp_region ?_
  rw [range21]
  obtain ⟨x0, i0, gd0, ds0, ex0⟩ := op21_0
  obtain ⟨x1, i1, gd1, ds1, ex1⟩ := op21_1
  refine one_op i0 gd0 (mov21 (hM p) E.NX ex0) (s5.mv.r.sub hM_sub) hbd (s5.kn.of fun t x h => by
    simp only [List.mem_cons, Prod.mk.injEq, List.not_mem_nil, or_false] at h ⊢
    exact .inr h) ?_
  intro c6 w6 y mv6 gr6 hy
  have e6 := gr_same mv6.le gr6
  subst e6
  rw [ds0]
  obtain ⟨n1, n2, n3⟩ := put_new (x := y) s5.sz (show 67 < 72 by decide)
  refine one_op i1 gd1 (len21 p E.NX ex1) mv6.r hbd (fun t x h => by
    simp only [List.mem_cons, Prod.mk.injEq, List.not_mem_nil, or_false] at h
    obtain ⟨rfl, rfl⟩ := h
    exact ⟨y, n1, hy⟩) ?_
  intro c7 w7 u mv7 gr7 hu
  have e7 := gr_same mv7.le gr7
  subst e7
  rw [ds1]
  obtain ⟨q1, q2, q3⟩ := put_new (x := u) n2 (show 68 < 72 by decide)
  have mv67 := mv6.trans mv7
  have mvS : Mv (fun _ => none) (fun _ => none) w c7 (T.leaf : Hp).get w7 := (s5.mv.trans (mv67.frame s5.mv.r (fun id b hb => ⟨b, hM_sub id b hb⟩) (H' := (T.leaf : Hp).get) fun id b hb => (by cases hb)))
  refine segK ct (ops21.toList.drop 2) [] 2 (by simp) hend mvS.r hbd (fun t x h => by
    simp only [List.mem_cons, Prod.mk.injEq, List.not_mem_nil, or_false] at h
    rcases h with ⟨rfl, rfl⟩ | ⟨rfl, rfl⟩
    · refine ⟨u, q1, ?_⟩
      rw [← hlen]; exact hu
    · obtain ⟨z, hz, hr⟩ := s5.kn 5 (iI E.n) (by simp)
      refine ⟨z, ?_, hr⟩
      rw [put_keep (by decide), put_keep (by decide)]; exact hz) q2 ?_
  rintro a8 w8 ⟨d8, z8, ⟨c8, m8, g8, k8⟩, _⟩
  refine wp_ret ?_
  have hd8 : a8.defers = [] := d8.trans (q3.trans (n3.trans s5.df))
  refine ⟨hd8, .bool true, ?_, rfl, ?_⟩
  · obtain ⟨x, hx, hr⟩ := k8 4 (.at (.bool true)) (by simp)
    have hr' : x = .bool true := hr
    subst hr'
    rw [results_tmp hres]
    simp [Array.getD_eq_getD_getElem?, hx]
  · have mvE := mvS.trans m8
    exact ⟨mvE.out.1, mvE.out.2.1, mvE.out.2.2, mvE.grow, fun k hk => mvE.frm k hk fun j b q hb => (by cases hb)⟩

end
end Go.Proofs.YtljkldmjakabdaaGreat.Ev

