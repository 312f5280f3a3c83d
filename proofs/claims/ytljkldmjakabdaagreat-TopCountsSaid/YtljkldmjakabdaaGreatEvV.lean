/- TopCounts by reckoning: regions that draw their order, whole; the evaluator is right. -/
import Derived.Test.YtljkldmjakabdaaGreatEvL
namespace Go.Proofs.YtljkldmjakabdaaGreat.Ev
open Go

variable {P : Program}

section
variable {call : CallT} {N : Nat} {ops : Array Oper} {s : S} {d : Dr} {hist : List Rc} {c0 : Cx} {w0 : World} {D : List Deferred} {Q : Exit → Act → World → Prop}

theorem hAt_sub {c1 : Cx} {w1 : World} {L : Nat → Bool} {Sx : Hp} {done : List (Nat × Oper × Hp × Nat)} (r : R c1 (hAt hist s.nx L Sx done) w1) : R c1 Sx.get w1 :=
  ⟨fun id b hg => r.blk id b (hAt_S hg), fun i' j b b' q q' h1 h2 => r.inj i' j b b' q q' (hAt_S h1) (hAt_S h2)⟩

/-- Whatever comes up next. -/
theorem inv_step (p : Pre P call ops N s d hist c0) {listed : Array Bool} {a1 : Act} {w1 : World} (hI : Inv ops N hist s c0 w0 D listed a1 w1) {i : Nat} (hrd : i ∈ Region.ready .any ops listed) :
    wpOp P ops Q i (fun a' w' => Inv ops N hist s c0 w0 D (listed.setIfInBounds i true) a' w') a1 w1 := by
  obtain ⟨h0, o, hio, hr0⟩ := mem_ready.1 hrd
  have hi' : i < ops.size := (Array.getElem?_eq_some_iff.1 hio).1
  have hi : i < listed.size := by rw [hI.size]; exact hi'
  have hLi : Lst listed i = false := by
    unfold Lst
    rw [Array.getD_eq_getD_getElem?, Array.getElem?_eq_getElem hi] at h0 ⊢
    exact h0
  have hr : ∀ e, e ∈ o.after.toList → Region.binds .any e = true → Lst listed e.on = true := fun e he hb => hr0 e (by simpa using he) hb
  obtain ⟨rc, hrc⟩ : ∃ rc, hist[i]? = some rc := ⟨_, List.getElem?_eq_getElem (by rw [p.len]; exact hi')⟩
  have hro : rc.o = o := by
    have := p.all i rc hrc
    rw [hio] at this; cases this; rfl
  have hspec := (p.tld.rcs i rc hrc).spec
  obtain ⟨done, rest, c1, he, hd, hrest, hmv, hnn, hgr, hI1, htm⟩ := hI.st
  have hcl' := cl_set hI.cl hi hio hr
  have htm' := ready_tm p hI.cl hcl' hi hLi hrc htm
  subst hro
  cases hec : rc.e with
  | no =>
    rw [hec] at hspec
    refine wpOp_of (b := false) hio (guard_sound htm' hspec.1) (fun h => (by cases h)) (fun _ => ?_)
    exact inv_quiet p hI hi hio hr hrc (fun v k b h => (by rw [hec] at h; cases h)) (fun v hb nb ha na h => (by rw [hec] at h; cases h)) he hd hrest hmv hnn hgr hI1 htm (by rw [hspec.2]; exact undef_av c1)
  | pure v =>
    rw [hec] at hspec
    refine wpOp_of (b := true) hio (guard_sound htm' hspec.1) (fun _ => ?_) (fun h => (by cases h))
    obtain ⟨x, hx, hxr⟩ := pure_sound htm' hspec.2.2
    unfold Oper.wp
    rw [hx w1]
    exact inv_quiet p hI hi hio hr hrc (fun v k b h => (by rw [hec] at h; cases h)) (fun v hb nb ha na h => (by rw [hec] at h; cases h)) he hd hrest hmv hnn hgr hI1 htm (by rw [hspec.2.1]; exact hxr)
  | read v tm' =>
    rw [hec] at hspec
    obtain ⟨hg, hv, rfl⟩ := hspec
    refine wpOp_of (b := true) hio (guard_sound htm' hg) (fun _ => ?_) (fun h => (by cases h))
    have hrdv : readOp P rc.o rc.tm (lastH s.hp done) = some v := by
      refine winGo_spec _ _ (p.win i rc v rc.tm hrc hec) done rest he ?_ ?_
      · intro y hy
        cases hed : edgeTo rc.o y.1 with
        | false => rfl
        | true =>
          obtain ⟨e, g1, g2, g3⟩ := edgeTo_mem hed
          have h1 := hr e g1 g2
          rw [g3, hrest y hy] at h1; cases h1
      · intro x hx
        cases hed : edgeTo x.2.1 i with
        | false => rfl
        | true =>
          obtain ⟨r, v', hb', nb', _, k2, k3, k4⟩ := efs_mem hist 0 x (by rw [he]; simp [hx])
          rw [Nat.sub_zero] at k2
          obtain ⟨e, g1, g2, g3⟩ := edgeTo_mem hed
          have h1 := hI.cl x.1 x.2.1 (by rw [← k3]; exact p.all x.1 r k2) (hd x hx) e g1 g2
          rw [g3, hLi] at h1; cases h1
    obtain ⟨x, hx, hxr⟩ := read_sound htm' (hAt_sub hmv.r) hrdv
    unfold Oper.wp
    rw [hx]
    exact inv_quiet p hI hi hio hr hrc (fun v k b h => (by rw [hec] at h; cases h)) (fun v hb nb ha na h => (by rw [hec] at h; cases h)) he hd hrest hmv hnn hgr hI1 htm (by rw [hv]; exact hxr)
  | alloc v k B =>
    rw [hec] at hspec
    obtain ⟨hg, hv, hk, hal⟩ := hspec
    refine wpOp_of (b := true) hio (guard_sound htm' hg) (fun _ => ?_) (fun h => (by cases h))
    rw [hk] at hal
    exact inv_alloc p hI hi hLi hio hr hrc rfl hec hv hal
  | eff v hb nb ha na =>
    rw [hec] at hspec
    refine wpOp_of (b := true) hio (guard_sound htm' hspec.1) (fun _ => ?_) (fun h => (by cases h))
    exact inv_eff p hI hi hLi hio hr hrc rfl hec

/-- Where nothing comes up any more all is listed. -/
theorem ready_nil (hord : ordered ops.toList 0 = true) {listed : Array Bool} (hsz : listed.size = ops.size) (hr : Region.ready .any ops listed = []) : ∀ i, i < ops.size → Lst listed i = true := by
  intro i
  induction i using Nat.strongRecOn with
  | _ i ih =>
    intro hi
    cases hL : Lst listed i with
    | true => rfl
    | false =>
      exfalso
      have hio : ops[i]? = some ops[i] := Array.getElem?_eq_getElem hi
      have : i ∈ Region.ready .any ops listed := by
        refine mem_ready.2 ⟨?_, ops[i], hio, fun e he hb => ?_⟩
        · have hil : i < listed.size := by omega
          unfold Lst at hL
          rw [Array.getD_eq_getD_getElem?, Array.getElem?_eq_getElem hil] at hL ⊢
          exact hL
        · have hlt := ordered_spec ops.toList 0 hord i ops[i] (by simp) e (by simpa using he) hb
          exact ih e.on (by omega) (by omega)
      rw [hr] at this; cases this

/-- All is listed: what stands behind the region. -/
theorem inv_end (p : Pre P call ops N s d hist c0) {listed : Array Bool} {a1 : Act} {w1 : World} (hI : Inv ops N hist s c0 w0 D listed a1 w1) (hall : ∀ i, i < ops.size → Lst listed i = true) : Post N c0 s w0 D ⟨d.tm, setAll d.pend d.hp, d.nx⟩ a1 w1 := by
  obtain ⟨hsz, hcl, hdf, htN, done, rest, c1, he, hd, hrest, hmv, hnn, hgr, hI1, htm⟩ := hI
  have hnil : rest = [] := by
    cases rest with
    | nil => rfl
    | cons x r =>
      have h1 := hrest x (by simp)
      have h2 := efs_lt hist 0 x (by rw [he]; simp)
      rw [p.len] at h2
      rw [hall x.1 (by omega)] at h1; cases h1
  subst hnil
  rw [List.append_nil] at he
  have hdh : d.hp = lastH s.hp done := by rw [← he]; exact p.tld.hp
  have hdn : d.nx = lastN (s.nx + ops.size) done := by rw [← he]; exact p.tld.nx
  refine ⟨hdf, htN, c1, hmv.less ?_, ?_, ?_⟩
  · intro id b hb
    rcases setAll_get _ _ _ _ hb with h1 | ⟨q, h1⟩
    · rw [hdh] at h1; exact hAt_S h1
    · obtain ⟨rq, vq, g1, g2, g3⟩ := p.tld.pend q id b h1
      have hspec := (p.tld.rcs q rq g1).spec
      rw [g2] at hspec
      have hid : id = s.nx + q := hspec.2.2.1
      subst hid
      have hq : q < ops.size := by have := (List.getElem?_eq_some_iff.1 g1).1; rw [p.len] at this; exact this
      rw [he] at g3
      rw [hAt_N (hI1 q hq g3)]
      exact pendF_some.2 ⟨q, rq, vq, _, rfl, g1, g2, hall q hq, g3⟩
  · show Gr c0 s.nx c1 d.nx
    rw [hdn]
    refine ⟨by omega, fun id q hq => ?_⟩
    rcases hgr id q hq with h1 | ⟨j, h1, h2, _⟩ | ⟨h1, h2⟩
    · exact .inl h1
    · exact .inr ⟨by omega, by omega⟩
    · exact .inr ⟨by omega, h2⟩
  · intro t v hv
    refine htm t v ?_
    rcases p.tld.env t v hv with ⟨j, rj, h1, h2, h3⟩ | ⟨h1, h2⟩
    · exact .inl ⟨j, rj, h1, h2, hall j (by have := (List.getElem?_eq_some_iff.1 h1).1; rw [p.len] at this; exact this), h3⟩
    · exact .inr ⟨fun j rj hj hdst => absurd hdst (h1 j rj hj), h2⟩

/-- How many are not listed yet. -/
def lack (listed : Array Bool) : Nat := listed.toList.count false

theorem lack_set {listed : Array Bool} {i : Nat} (hi : i < listed.size) (hL : Lst listed i = false) : lack (listed.setIfInBounds i true) + 1 = lack listed := by
  unfold lack
  rw [Array.toList_setIfInBounds]
  have hil : i < listed.toList.length := by simpa using hi
  rw [List.count_set hil]
  have hg : listed.toList[i] = false := by
    unfold Lst at hL
    rw [Array.getD_eq_getD_getElem?, Array.getElem?_eq_getElem hi] at hL
    simpa using hL
  have hpos : 0 < listed.toList.count false := List.count_pos_iff.2 (by rw [← hg]; exact List.getElem_mem hil)
  have e1 : ((false : Bool) == false) = true := rfl
  have e2 : ((true : Bool) == false) = false := rfl
  rw [hg, e1, e2]
  simp only [if_true, Bool.false_eq_true, if_false]
  omega

theorem lack_zero {listed : Array Bool} (h : lack listed = 0) : ∀ i, i < listed.size → Lst listed i = true := by
  intro i hi
  cases hL : Lst listed i with
  | true => rfl
  | false =>
    have := lack_set hi hL
    omega

theorem any_order (p : Pre P call ops N s d hist c0) (hQ : ∀ a' w', Post N c0 s w0 D ⟨d.tm, setAll d.pend d.hp, d.nx⟩ a' w' → Q .normal a' w') : ∀ (fuel : Nat) (listed : Array Bool) (a1 : Act) (w1 : World), lack listed = fuel →
    Inv ops N hist s c0 w0 D listed a1 w1 → wpAny P .any ops Q fuel listed a1 w1 := by
  obtain ⟨hord, _⟩ := stat_parts p.stat
  intro fuel
  induction fuel with
  | zero =>
    intro listed a1 w1 hl hI
    have hall := lack_zero hl
    refine ⟨?_, hQ _ _ (inv_end p hI (by rw [← hI.size]; exact hall))⟩
    cases hr : Region.ready .any ops listed with
    | nil => rfl
    | cons i r =>
      exfalso
      obtain ⟨h0, o, hio, _⟩ := mem_ready.1 (show i ∈ Region.ready .any ops listed from by rw [hr]; simp)
      have hi : i < listed.size := by rw [hI.size]; exact (Array.getElem?_eq_some_iff.1 hio).1
      have := hall i hi
      unfold Lst at this
      rw [Array.getD_eq_getD_getElem?, Array.getElem?_eq_getElem hi] at h0 this
      simp at h0 this
      rw [h0] at this; cases this
  | succ fuel ih =>
    intro listed a1 w1 hl hI
    refine ⟨fun hr => hQ _ _ (inv_end p hI (ready_nil hord hI.size hr)), fun i hi => ?_⟩
    refine wpOp_mono (fun a' w' hI' => ?_) (inv_step p hI hi)
    obtain ⟨h0, o, hio, _⟩ := mem_ready.1 hi
    have hil : i < listed.size := by rw [hI.size]; exact (Array.getElem?_eq_some_iff.1 hio).1
    have hLi : Lst listed i = false := by
      unfold Lst
      rw [Array.getD_eq_getD_getElem?, Array.getElem?_eq_getElem hil] at h0 ⊢
      exact h0
    have := lack_set hil hLi
    exact ih _ _ _ (by omega) hI'

end

theorem draw_sound (hm : P.follows .mixedOrders = true) : DrawOk P := by
  intro call N ops s s' hst hP hc he c a w Q r hbd ht hN hQ id
  obtain ⟨hord, huniq, hapart, hchain⟩ := stat_parts hst
  unfold drawRun at he
  split at he
  case h_2 => cases he
  rename_i es d hgo
  cases hw : winsOk P s.hp (effs ops.toList 0 es) ops.toList 0 es with
  | false => simp [hw] at he
  | true =>
    simp only [hw, cond_true, Option.some.injEq] at he
    subst he
    have base : Tld P call ops N s.nx s.tm s.hp (s.nx + ops.toList.length) [] ⟨s.tm, s.hp, s.nx + ops.toList.length, []⟩ :=
      ⟨fun i r h => (by simp at h), fun t x h => .inr ⟨fun j rj h => (by simp at h), h⟩, rfl, rfl, fun p id b h => (by cases h)⟩
    obtain ⟨hist, h1, h2, h3, h4, h5⟩ := told (P := P) hord s.hp (effs ops.toList 0 es) ops.toList 0 _ [] es d rfl (fun k r h => (by simp at h)) rfl base hgo
    simp only [List.nil_append] at h2 h3
    have hlen : ops.toList.length = ops.size := by simp
    rw [hlen] at h1 h2
    have p : Pre P call ops N s d hist c := ⟨hP, hc, hst, h1, h2, h3, fun k r v tm' hk hr => (by
      have := h5 hw k r v tm' hk hr
      rw [Nat.zero_add] at this
      rw [← h4]; exact this), hbd⟩
    refine wp_region_any hm ?_
    refine any_order p (D := a.defers) (w0 := w) hQ ops.size _ _ _ ?_ ?_
    · simp [lack]
    · have hno : ∀ j, Lst (Array.replicate ops.size false) j = false := by
        intro j
        unfold Lst
        rw [Array.getD_eq_getD_getElem?, Array.getElem?_replicate]
        split <;> rfl
      refine ⟨by simp, fun i o _ hL => (by rw [hno] at hL; cases hL), rfl, hN, [], efs hist 0, c, rfl, fun x hx => (by cases hx), fun x _ => hno _, ?_, Nat.le_refl _, fun id q hq => .inl hq, ?_, ?_⟩
      · refine (Mv.drew r _).less fun id b hb => ?_
        rcases hAt_some hb with g1 | ⟨_, g2⟩
        · exact g1
        · obtain ⟨j, rj, v, k, _, _, _, g5, _⟩ := pendF_some.1 g2
          rw [hno] at g5; cases g5
      · intro i hi _
        cases hg : s.hp.get (s.nx + i) with
        | none => exact hg
        | some b =>
          obtain ⟨q, hq, _⟩ := r.blk _ b hg
          have := hbd _ q hq; omega
      · intro t v hv
        rcases hv with ⟨j, rj, _, _, g3, _⟩ | ⟨_, g2⟩
        · rw [hno] at g3; cases g3
        · exact ht t v g2

end Go.Proofs.YtljkldmjakabdaaGreat.Ev

