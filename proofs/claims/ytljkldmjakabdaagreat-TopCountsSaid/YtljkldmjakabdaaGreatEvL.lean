/- TopCounts by reckoning: regions that draw their order do as reckoned. -/
import Derived.Test.YtljkldmjakabdaaGreatEvK
namespace Go.Proofs.YtljkldmjakabdaaGreat.Ev
open Go

variable {P : Program}

/-- A block that an operation has made, and that no acting one has had in sight. -/
def pendF (hist : List Rc) (nx0 : Nat) (L : Nat → Bool) (done : List (Nat × Oper × Hp × Nat)) (id : Nat) : Option Blk :=
  if nx0 ≤ id then match hist[id - nx0]? with
    | some rc => match rc.e with
      | .alloc _ _ b => if L (id - nx0) = true ∧ (done.any fun x => edgeTo x.2.1 (id - nx0)) = false then some b else none
      | _ => none
    | none => none
  else none

theorem pendF_some {hist : List Rc} {nx0 : Nat} {L : Nat → Bool} {done : List (Nat × Oper × Hp × Nat)} {id : Nat} {b : Blk} : pendF hist nx0 L done id = some b ↔
    ∃ i rc v k, id = nx0 + i ∧ hist[i]? = some rc ∧ rc.e = .alloc v k b ∧ L i = true ∧ ∀ x, x ∈ done → edgeTo x.2.1 i = false := by
  unfold pendF
  constructor
  · intro h
    split at h
    · rename_i hle
      split at h
      · rename_i rc hrc
        split at h
        · rename_i v k b' he
          split at h
          · rename_i hc
            simp at h; subst h
            exact ⟨id - nx0, rc, v, k, by omega, hrc, he, hc.1, fun x hx => by have := List.any_eq_false.1 hc.2 x hx; simpa using this⟩
          · cases h
        · cases h
      · cases h
    · cases h
  · rintro ⟨i, rc, v, k, rfl, hrc, he, hL, hd⟩
    rw [if_pos (by omega), show nx0 + i - nx0 = i from by omega]
    simp only [hrc, he]
    rw [if_pos ⟨hL, by rw [List.any_eq_false]; intro x hx; rw [hd x hx]; decide⟩]

/-- What memory holds, in the midst of such a region. -/
noncomputable def hAt (hist : List Rc) (nx0 : Nat) (L : Nat → Bool) (S : Hp) (done : List (Nat × Oper × Hp × Nat)) : HF := fun id => match S.get id with
  | some b => some b
  | none => pendF hist nx0 L done id

theorem hAt_S {hist : List Rc} {nx0 : Nat} {L : Nat → Bool} {S : Hp} {done : List (Nat × Oper × Hp × Nat)} {id : Nat} {b : Blk} (h : S.get id = some b) : hAt hist nx0 L S done id = some b := by unfold hAt; rw [h]
theorem hAt_N {hist : List Rc} {nx0 : Nat} {L : Nat → Bool} {S : Hp} {done : List (Nat × Oper × Hp × Nat)} {id : Nat} (h : S.get id = none) : hAt hist nx0 L S done id = pendF hist nx0 L done id := by unfold hAt; rw [h]
theorem hAt_some {hist : List Rc} {nx0 : Nat} {L : Nat → Bool} {S : Hp} {done : List (Nat × Oper × Hp × Nat)} {id : Nat} {b : Blk} (h : hAt hist nx0 L S done id = some b) : S.get id = some b ∨ (S.get id = none ∧ pendF hist nx0 L done id = some b) := by
  cases hs : S.get id with
  | some b' => rw [hAt_S hs] at h; exact .inl h
  | none => rw [hAt_N hs] at h; exact .inr ⟨rfl, h⟩

/-- What a temporary holds, in the midst of such a region. -/
def TDr (hist : List Rc) (T0 : T AV) (L : Nat → Bool) (t : Nat) (v : AV) : Prop :=
  (∃ (j : Nat) (rj : Rc), hist[j]? = some rj ∧ rj.o.dst = some t ∧ L j = true ∧ rj.v = v) ∨ ((∀ (j : Nat) (rj : Rc), hist[j]? = some rj → rj.o.dst = some t → L j = false) ∧ T0.get t = some v)

def Lst (listed : Array Bool) : Nat → Bool := fun j => listed.getD j false

theorem Lst_set {listed : Array Bool} {i : Nat} (hi : i < listed.size) (j : Nat) : Lst (listed.setIfInBounds i true) j = if j = i then true else Lst listed j := by
  unfold Lst
  simp only [Array.getD_eq_getD_getElem?]
  by_cases h : j = i
  · subst h; simp [hi]
  · rw [if_neg h, Array.getElem?_setIfInBounds_ne (fun e => h e.symm)]

structure Inv (ops : Array Oper) (N : Nat) (hist : List Rc) (s : S) (c0 : Cx) (w0 : World) (D : List Deferred) (listed : Array Bool) (a1 : Act) (w1 : World) : Prop where
  size : listed.size = ops.size
  cl : Cl ops (Lst listed)
  defers : a1.defers = D
  tmps : a1.tmps.size = N
  st : ∃ done rest c1, efs hist 0 = done ++ rest ∧ (∀ x, x ∈ done → Lst listed x.1 = true) ∧ (∀ x, x ∈ rest → Lst listed x.1 = false) ∧
    Mv c0 s.hp.get w0 c1 (hAt hist s.nx (Lst listed) (lastH s.hp done) done) w1 ∧ s.nx + ops.size ≤ lastN (s.nx + ops.size) done ∧
    (∀ id p, c1 id = some p → c0 id = some p ∨ (∃ i, i < ops.size ∧ id = s.nx + i ∧ Lst listed i = true) ∨ (s.nx + ops.size ≤ id ∧ id < lastN (s.nx + ops.size) done)) ∧
    (∀ i, i < ops.size → (∀ x, x ∈ done → edgeTo x.2.1 i = false) → (lastH s.hp done).get (s.nx + i) = none) ∧
    (∀ t v, TDr hist s.tm (Lst listed) t v → ∃ x, a1.tmps[t]? = some x ∧ AvR c1 v x)

section
variable {call : CallT} {N : Nat} {ops : Array Oper} {s : S} {d : Dr} {hist : List Rc} {c0 : Cx} {w0 : World} {D : List Deferred} {Q : Exit → Act → World → Prop}

/-- What is known beforehand. -/
structure Pre (P : Program) (call : CallT) (ops : Array Oper) (N : Nat) (s : S) (d : Dr) (hist : List Rc) (c0 : Cx) : Prop where
  plain : Plainly P
  cok : CallOk P call
  stat : statOk ops = true
  len : hist.length = ops.size
  tld : Tld P call ops N s.nx s.tm s.hp (s.nx + ops.size) hist d
  all : ∀ (k : Nat) (r : Rc), hist[k]? = some r → ops[k]? = some r.o
  win : ∀ (k : Nat) (r : Rc) (v : AV) (tm' : T AV), hist[k]? = some r → r.e = .read v tm' → winGo P k r.o tm' v s.hp (efs hist 0) = true
  bd : Bd c0 s.nx

theorem stat_parts (h : statOk ops = true) : ordered ops.toList 0 = true ∧ uniq ops.toList = true ∧ apartAll ops (masks ops.toList 0 .leaf) ops.toList 0 = true ∧ chained (masks ops.toList 0 .leaf) ops.toList 0 none = true := by
  unfold statOk at h
  cases h1 : ordered ops.toList 0 with
  | false => simp [h1] at h
  | true =>
    cases h2 : uniq ops.toList with
    | false => simp [h1, h2] at h
    | true =>
      cases h3 : apartAll ops (masks ops.toList 0 .leaf) ops.toList 0 with
      | false => simp [h1, h2, h3] at h
      | true => simp [h1, h2, h3] at h; exact ⟨rfl, rfl, rfl, h⟩

/-- The list behind one step is closed too. -/
theorem cl_set {listed : Array Bool} {i : Nat} {o : Oper} (hcl : Cl ops (Lst listed)) (hi : i < listed.size) (hio : ops[i]? = some o) (hr : ∀ e, e ∈ o.after.toList → Region.binds .any e = true → Lst listed e.on = true) : Cl ops (Lst (listed.setIfInBounds i true)) := by
  intro k o' hk hL e he hb
  rw [Lst_set hi] at hL ⊢
  by_cases h1 : e.on = i
  · rw [if_pos h1]
  · rw [if_neg h1]
    by_cases h2 : k = i
    · subst h2
      rw [hio] at hk; cases hk
      exact hr e he hb
    · rw [if_neg h2] at hL
      exact hcl k o' hk hL e he hb

/-- What an operation that is ready looks at is as it was told. -/
theorem ready_tm (p : Pre P call ops N s d hist c0) {listed : Array Bool} {a1 : Act} {i : Nat} (hcl : Cl ops (Lst listed)) (hcl' : Cl ops (Lst (listed.setIfInBounds i true))) (hi : i < listed.size) (hLi : Lst listed i = false) {rc : Rc} (hrc : hist[i]? = some rc) {c1 : Cx}
    (htm : ∀ t v, TDr hist s.tm (Lst listed) t v → ∃ x, a1.tmps[t]? = some x ∧ AvR c1 v x) : TmR c1 rc.tm a1.tmps := by
  obtain ⟨hord, huniq, hapart, hchain⟩ := stat_parts p.stat
  intro t v hv
  obtain ⟨hlook, henv⟩ := (p.tld.rcs i rc hrc).env t v hv
  have hio := p.all i rc hrc
  have hap := apartAll_spec ops.toList 0 hapart i rc.o (by simpa using hio) t hlook
  rw [Nat.zero_add] at hap
  have hset : ∀ j, Lst (listed.setIfInBounds i true) j = if j = i then true else Lst listed j := Lst_set hi
  refine htm t v ?_
  rcases henv with ⟨j, rj, h1, h2, h3⟩ | ⟨h1, h2⟩
  · have hji : j < i := by
      have := (List.getElem?_eq_some_iff.1 h1).1
      simp at this; omega
    have h1' : hist[j]? = some rj := by
      rw [List.getElem?_take, if_pos hji] at h1; exact h1
    refine .inl ⟨j, rj, h1', h2, ?_, h3⟩
    have hoj := p.all j rj h1'
    rcases apart_spec _ _ _ _ _ hap j rj.o (by simpa using hoj) h2 with ⟨_, g2⟩ | ⟨g1, _⟩
    · rw [Nat.zero_add] at g2
      have := bit_closed hcl' g2 (by rw [hset, if_pos rfl])
      rw [hset, if_neg (by omega)] at this
      exact this
    · omega
  · refine .inr ⟨fun j rj hj hd => ?_, h2⟩
    have hoj := p.all j rj hj
    rcases apart_spec _ _ _ _ _ hap j rj.o (by simpa using hoj) hd with ⟨g1, _⟩ | ⟨g1, g2⟩
    · rw [Nat.zero_add] at g1
      exact absurd hd (h1 j rj (by rw [List.getElem?_take, if_pos g1]; exact hj))
    · rw [Nat.zero_add] at g2
      cases hL : Lst listed j with
      | false => rfl
      | true =>
        have := bit_closed hcl g2 hL
        rw [hLi] at this; cases this

/-- The temporaries behind one step. -/
theorem tdr_put (p : Pre P call ops N s d hist c0) {listed : Array Bool} {a1 : Act} {i : Nat} (hi : i < listed.size) {rc : Rc} (hrc : hist[i]? = some rc) (hN : a1.tmps.size = N) {c1 c2 : Cx} (hle : c1.le c2) {x : Value} (hx : AvR c2 rc.v x)
    (htm : ∀ t v, TDr hist s.tm (Lst listed) t v → ∃ x, a1.tmps[t]? = some x ∧ AvR c1 v x) :
    ∀ t v, TDr hist s.tm (Lst (listed.setIfInBounds i true)) t v → ∃ y, (a1.put rc.o.dst x).tmps[t]? = some y ∧ AvR c2 v y := by
  obtain ⟨hord, huniq, hapart, hchain⟩ := stat_parts p.stat
  have hset : ∀ j, Lst (listed.setIfInBounds i true) j = if j = i then true else Lst listed j := Lst_set hi
  intro t v hv
  have old : rc.o.dst ≠ some t → TDr hist s.tm (Lst listed) t v → ∃ y, (a1.put rc.o.dst x).tmps[t]? = some y ∧ AvR c2 v y := by
    intro hne h
    obtain ⟨y, hy, hr⟩ := htm t v h
    refine ⟨y, ?_, hr.mono hle⟩
    cases hd : rc.o.dst with
    | none => exact hy
    | some e =>
      simp only [Act.put]
      rw [Array.getElem?_setIfInBounds_ne (fun e' => hne (by rw [hd, e']))]
      exact hy
  rcases hv with ⟨j, rj, h1, h2, h3, h4⟩ | ⟨h1, h2⟩
  · by_cases hji : j = i
    · subst hji
      rw [hrc] at h1; cases h1
      refine ⟨x, ?_, by rw [← h4]; exact hx⟩
      have hlt := (p.tld.rcs j rc hrc).dst t h2
      simp [Act.put, h2, hN, hlt]
    · rw [hset, if_neg hji] at h3
      refine old ?_ (.inl ⟨j, rj, h1, h2, h3, h4⟩)
      intro hd
      have ho1 := p.all j rj h1
      have ho2 := p.all i rc hrc
      rcases Nat.lt_or_ge j i with hl | hl
      · exact uniq_spec _ huniq j i rj.o rc.o t hl (by simpa using ho1) (by simpa using ho2) h2 hd
      · exact uniq_spec _ huniq i j rc.o rj.o t (by omega) (by simpa using ho2) (by simpa using ho1) hd h2
  · refine old ?_ (.inr ⟨fun j rj hj hd => ?_, h2⟩)
    · intro hd
      have := h1 i rc hrc hd
      rw [hset, if_pos rfl] at this; cases this
    · have := h1 j rj hj hd
      rw [hset] at this
      by_cases hji : j = i
      · rw [if_pos hji] at this; cases this
      · rw [if_neg hji] at this; exact this

/-- A step that leaves memory. -/
theorem inv_quiet (p : Pre P call ops N s d hist c0) {listed : Array Bool} {a1 : Act} {w1 : World} (hI : Inv ops N hist s c0 w0 D listed a1 w1) {i : Nat} (hi : i < listed.size) {o : Oper} (hio : ops[i]? = some o) (hr : ∀ e, e ∈ o.after.toList → Region.binds .any e = true → Lst listed e.on = true)
    {rc : Rc} (hrc : hist[i]? = some rc) (hnd : ∀ v k b, rc.e ≠ .alloc v k b) (hne : ∀ v hb nb ha na, rc.e ≠ .eff v hb nb ha na) {done rest : List (Nat × Oper × Hp × Nat)} {c1 : Cx} (he : efs hist 0 = done ++ rest) (hd : ∀ x, x ∈ done → Lst listed x.1 = true) (hrest : ∀ x, x ∈ rest → Lst listed x.1 = false)
    (hmv : Mv c0 s.hp.get w0 c1 (hAt hist s.nx (Lst listed) (lastH s.hp done) done) w1) (hnn : s.nx + ops.size ≤ lastN (s.nx + ops.size) done)
    (hgr : ∀ id p, c1 id = some p → c0 id = some p ∨ (∃ i, i < ops.size ∧ id = s.nx + i ∧ Lst listed i = true) ∨ (s.nx + ops.size ≤ id ∧ id < lastN (s.nx + ops.size) done))
    (hI1 : ∀ i, i < ops.size → (∀ x, x ∈ done → edgeTo x.2.1 i = false) → (lastH s.hp done).get (s.nx + i) = none)
    (htm : ∀ t v, TDr hist s.tm (Lst listed) t v → ∃ x, a1.tmps[t]? = some x ∧ AvR c1 v x) {x : Value} (hx' : AvR c1 rc.v x) :
    Inv ops N hist s c0 w0 D (listed.setIfInBounds i true) (a1.put rc.o.dst x) w1 := by
  obtain ⟨hsz, hcl, hdf, htN, _⟩ := hI
  have hset : ∀ j, Lst (listed.setIfInBounds i true) j = if j = i then true else Lst listed j := Lst_set hi
  have hput : (a1.put rc.o.dst x).defers = a1.defers ∧ (a1.put rc.o.dst x).tmps.size = a1.tmps.size := by
    cases rc.o.dst <;> simp [Act.put]
  refine ⟨by simpa using hsz, cl_set hcl hi hio hr, by rw [hput.1]; exact hdf, by rw [hput.2]; exact htN, done, rest, c1, he, ?_, ?_, ?_, hnn, ?_, hI1, tdr_put p hi hrc htN (.refl c1) hx' htm⟩
  · intro y hy; rw [hset]; split
    · rfl
    · exact hd y hy
  · intro y hy
    rw [hset]
    split
    · rename_i hyi
      obtain ⟨r, v, hb, nb, _, k2, _, k4⟩ := efs_mem hist 0 y (by rw [he]; simp [hy])
      rw [Nat.sub_zero, hyi, hrc] at k2; cases k2
      exact absurd k4 (hne _ _ _ _ _)
    · exact hrest y hy
  · refine hmv.less fun id b hb => ?_
    rcases hAt_some hb with h1 | ⟨h1, h2⟩
    · exact hAt_S h1
    · rw [hAt_N h1]
      obtain ⟨j, rj, v, k, rfl, h3, h4, h5, h6⟩ := pendF_some.1 h2
      refine pendF_some.2 ⟨j, rj, v, k, rfl, h3, h4, ?_, h6⟩
      rw [hset] at h5
      split at h5
      · rename_i hji; subst hji; rw [hrc] at h3; cases h3; exact absurd h4 (hnd _ _ _)
      · exact h5
  · intro id q hq
    rcases hgr id q hq with h1 | ⟨j, h1, h2, h3⟩ | h1
    · exact .inl h1
    · refine .inr (.inl ⟨j, h1, h2, ?_⟩); rw [hset]; split
      · rfl
      · exact h3
    · exact .inr (.inr h1)

theorem wpOp_of {i : Nat} {o : Oper} (hio : ops[i]? = some o) {K : Act → World → Prop} {a1 : Act} {w1 : World} {b : Bool} (hw : Region.wanted o (yielded ops a1.tmps) = b) (ht : b = true → o.wp P a1 w1 K Q) (hf : b = false → K (a1.put o.dst undef) w1) : wpOp P ops Q i K a1 w1 := by
  unfold wpOp
  simp only [hio]
  cases b with
  | true => rw [if_pos hw]; exact .inl (ht rfl)
  | false => rw [if_neg (by rw [hw]; decide)]; exact hf rfl

/-- A new block is made in the midst of the region. -/
theorem inv_alloc (p : Pre P call ops N s d hist c0) {listed : Array Bool} {a1 : Act} {w1 : World} (hI : Inv ops N hist s c0 w0 D listed a1 w1) {i : Nat} (hi : i < listed.size) (hLi : Lst listed i = false) {o : Oper} (hio : ops[i]? = some o) (hr : ∀ e, e ∈ o.after.toList → Region.binds .any e = true → Lst listed e.on = true)
    {rc : Rc} (hrc : hist[i]? = some rc) (hro : rc.o = o) {v : AV} {k : Nat} {B : Blk} (he' : rc.e = .alloc v k B) (hv : rc.v = v) (hal : allocOp P rc.o rc.tm (s.nx + i) = some (v, B)) :
    o.wp P a1 w1 (fun a' w' => Inv ops N hist s c0 w0 D (listed.setIfInBounds i true) a' w') Q := by
  subst hro
  have hI' := hI
  obtain ⟨hsz, hcl, hdf, htN, done, rest, c1, he, hd, hrest, hmv, hnn, hgr, hI1, htm⟩ := hI
  have hset : ∀ j, Lst (listed.setIfInBounds i true) j = if j = i then true else Lst listed j := Lst_set hi
  have hcl' := cl_set hcl hi hio hr
  have htm' := ready_tm p hcl hcl' hi hLi hrc htm
  have hin : i < ops.size := by rw [← hsz]; exact hi
  have hnone : c1 (s.nx + i) = none := by
    cases hc : c1 (s.nx + i) with
    | none => rfl
    | some q =>
      rcases hgr _ q hc with h1 | ⟨j, h1, h2, h3⟩ | ⟨h1, _⟩
      · have := p.bd _ q h1; omega
      · have : j = i := by omega
        subst this; rw [hLi] at h3; cases h3
      · omega
  obtain ⟨x, ob, n, hrun, hob, hxr⟩ := alloc_sound hnone htm' hal w1
  have hput : (a1.put rc.o.dst x).defers = a1.defers ∧ (a1.put rc.o.dst x).tmps.size = a1.tmps.size := by
    cases rc.o.dst <;> simp [Act.put]
  have hSnone : (lastH s.hp done).get (s.nx + i) = none := by
    cases hs : (lastH s.hp done).get (s.nx + i) with
    | none => rfl
    | some b =>
      obtain ⟨q, hq, _⟩ := hmv.r.blk _ _ (hAt_S hs)
      rw [hnone] at hq; cases hq
  have hmv2 : Mv c1 (hAt hist s.nx (Lst listed) (lastH s.hp done) done) w1 (c1.put (s.nx + i) ⟨w1.heap.size, 0, n⟩) (hAt hist s.nx (Lst (listed.setIfInBounds i true)) (lastH s.hp done) done) (w1.alloc ob) := by
    refine Mv.new_ hmv.r hnone (p := ⟨w1.heap.size, 0, n⟩) (w' := w1.alloc ob) (B := B) (by
      show ObjR _ _ _ ((w1.alloc ob).heap[w1.heap.size]?)
      rw [heap_alloc_new w1 _]; exact hob) (Nat.le_refl _) (fun x hx => heap_alloc_old w1 _ hx) (by simp) ?_
    intro id b' hb
    rcases hAt_some hb with h1 | ⟨h1, h2⟩
    · refine .inr ⟨?_, hAt_S h1⟩
      intro hid; subst hid; rw [hSnone] at h1; cases h1
    · obtain ⟨j, rj, v', k', rfl, h3, h4, h5, h6⟩ := pendF_some.1 h2
      by_cases hji : j = i
      · subst hji
        rw [hrc] at h3; cases h3
        rw [he'] at h4; cases h4
        exact .inl ⟨rfl, rfl⟩
      · refine .inr ⟨by omega, ?_⟩
        rw [hAt_N h1]
        refine pendF_some.2 ⟨j, rj, v', k', rfl, h3, h4, ?_, h6⟩
        rw [hset, if_neg hji] at h5; exact h5
  unfold Oper.wp; rw [hrun]
  show Inv ops N hist s c0 w0 D (listed.setIfInBounds i true) (a1.put rc.o.dst x) (w1.alloc ob)
  refine ⟨by simpa using hsz, hcl', by rw [hput.1]; exact hdf, by rw [hput.2]; exact htN, done, rest, c1.put (s.nx + i) ⟨w1.heap.size, 0, n⟩, he, ?_, ?_, hmv.trans hmv2, hnn, ?_, hI1, tdr_put p hi hrc htN hmv2.le (by rw [hv]; exact hxr) htm⟩
  · intro y hy; rw [hset]; split
    · rfl
    · exact hd y hy
  · intro y hy
    rw [hset]
    split
    · rename_i hyi
      obtain ⟨r, v, hb, nb, _, k2, _, k4⟩ := efs_mem hist 0 y (by rw [he]; simp [hy])
      rw [Nat.sub_zero, hyi, hrc] at k2; cases k2
      rw [he'] at k4; cases k4
    · exact hrest y hy
  · intro id q hq
    by_cases hid : id = s.nx + i
    · exact .inr (.inl ⟨i, hin, hid, by rw [hset, if_pos rfl]⟩)
    · rw [Cx.put_ne _ _ hid] at hq
      rcases hgr id q hq with h1 | ⟨j, h1, h2, h3⟩ | h1
      · exact .inl h1
      · refine .inr (.inl ⟨j, h1, h2, ?_⟩); rw [hset]; split
        · rfl
        · exact h3
      · exact .inr (.inr h1)

theorem efs_at : ∀ (l : List Rc) (i : Nat) (k : Nat) (r : Rc) (v : AV) (hb : Hp) (nb : Nat) (ha : Hp) (na : Nat), l[k]? = some r → r.e = .eff v hb nb ha na → efs l i = efs (l.take k) i ++ (i + k, r.o, ha, na) :: efs (l.drop (k + 1)) (i + k + 1) := by
  intro l i k r v hb nb ha na hk he
  have hlt := (List.getElem?_eq_some_iff.1 hk).1
  have hl : l = l.take k ++ r :: l.drop (k + 1) := by
    have h1 := (List.take_append_drop k l).symm
    have h2 : l.drop k = r :: l.drop (k + 1) := by
      rw [List.drop_eq_getElem_cons hlt]
      rw [(List.getElem?_eq_some_iff.1 hk).2]
    rw [h2] at h1
    exact h1
  have hlen : (l.take k).length = k := by simp; omega
  have e1 : efs l i = efs (l.take k ++ r :: l.drop (k + 1)) i := by rw [← hl]
  rw [e1, efs_append, hlen]
  congr 1
  simp only [efs, he]

theorem efs_lt : ∀ (l : List Rc) (i : Nat) (x : Nat × Oper × Hp × Nat), x ∈ efs l i → x.1 < i + l.length := by
  intro l i x hx
  obtain ⟨r, _, _, _, h1, h2, _⟩ := efs_mem l i x hx
  have := (List.getElem?_eq_some_iff.1 h2).1
  omega

/-- Two partings of a list, where what stands apart is listed and the rest is not. -/
theorem split_at {α : Type} (f : α → Bool) : ∀ (a b a' b' : List α), a ++ b = a' ++ b' → (∀ x, x ∈ a → f x = true) → (∀ x, x ∈ b → f x = false) → (∀ x, x ∈ a' → f x = true) → (∀ x, x ∈ b' → f x = false) → a = a' ∧ b = b' := by
  intro a
  induction a with
  | nil =>
    intro b a' b' h _ hb ha' _
    cases a' with
    | nil => exact ⟨rfl, h⟩
    | cons y a' =>
      simp at h; subst h
      have h1 := hb y (by simp)
      rw [ha' y (by simp)] at h1; cases h1
  | cons x a ih =>
    intro b a' b' h ha hb ha' hb'
    cases a' with
    | nil =>
      simp at h; subst h
      have h1 := hb' x (by simp)
      rw [ha x (by simp)] at h1; cases h1
    | cons y a' =>
      simp only [List.cons_append, List.cons.injEq] at h
      obtain ⟨rfl, h⟩ := h
      obtain ⟨h1, h2⟩ := ih b a' b' h (fun z hz => ha z (by simp [hz])) hb (fun z hz => ha' z (by simp [hz])) hb'
      exact ⟨by rw [h1], h2⟩

/-- An operation acts in the midst of the region. -/
theorem inv_eff (p : Pre P call ops N s d hist c0) {listed : Array Bool} {a1 : Act} {w1 : World} (hI : Inv ops N hist s c0 w0 D listed a1 w1) {i : Nat} (hi : i < listed.size) (hLi : Lst listed i = false) {o : Oper} (hio : ops[i]? = some o) (hr : ∀ e, e ∈ o.after.toList → Region.binds .any e = true → Lst listed e.on = true)
    {rc : Rc} (hrc : hist[i]? = some rc) (hro : rc.o = o) {v : AV} {hb ha : Hp} {nb na : Nat} (he' : rc.e = .eff v hb nb ha na) :
    o.wp P a1 w1 (fun a' w' => Inv ops N hist s c0 w0 D (listed.setIfInBounds i true) a' w') Q := by
  subst hro
  obtain ⟨hord, huniq, hapart, hchain⟩ := stat_parts p.stat
  obtain ⟨hsz, hcl, hdf, htN, done, rest, c1, he, hd, hrest, hmv, hnn, hgr, hI1, htm⟩ := hI
  have hset : ∀ j, Lst (listed.setIfInBounds i true) j = if j = i then true else Lst listed j := Lst_set hi
  have hcl' := cl_set hcl hi hio hr
  have htm' := ready_tm p hcl hcl' hi hLi hrc htm
  have hin : i < ops.size := by rw [← hsz]; exact hi
  have hspec := (p.tld.rcs i rc hrc).spec
  rw [he'] at hspec
  obtain ⟨_, hv, hkd, heff, hnb, hhb⟩ := hspec
  -- all that acted before are listed; none behind
  have hat := efs_at hist 0 i rc v hb nb ha na hrc he'
  rw [Nat.zero_add] at hat
  have hpre : ∀ x, x ∈ efs (hist.take i) 0 → Lst listed x.1 = true := by
    intro x hx
    obtain ⟨r, v', hb', nb', _, k2, k3, k4⟩ := efs_mem _ _ _ hx
    rw [Nat.sub_zero] at k2
    have hxi := efs_lt _ _ _ hx
    have hlen : (hist.take i).length ≤ i := by simp; omega
    have k2' : hist[x.1]? = some r := by
      rw [List.getElem?_take] at k2
      split at k2
      · exact k2
      · cases k2
    have hk : kdOf r.o = .eff := by
      have := (p.tld.rcs x.1 r k2').spec
      rw [k4] at this
      exact this.2.2.1
    have hch := chain_closed hcl' ops.toList 0 none hchain i rc.o (by simpa using hio) hkd (by rw [Nat.zero_add, hset, if_pos rfl])
    have := hch.2 x.1 r.o (by omega) (by simpa using p.all x.1 r k2') hk
    rw [Nat.zero_add, hset, if_neg (by omega)] at this
    exact this
  have hpost : ∀ x, x ∈ (i, rc.o, ha, na) :: efs (hist.drop (i + 1)) (i + 1) → Lst listed x.1 = false := by
    intro x hx
    rcases List.mem_cons.1 hx with rfl | hx
    · exact hLi
    · cases hL : Lst listed x.1 with
      | false => rfl
      | true =>
        obtain ⟨r, v', hb', nb', k1, k2, k3, k4⟩ := efs_mem _ _ _ hx
        have k2' : hist[x.1]? = some r := by
          rw [List.getElem?_drop] at k2
          rw [show i + 1 + (x.1 - (i + 1)) = x.1 from by omega] at k2
          exact k2
        have hk : kdOf r.o = .eff := by
          have := (p.tld.rcs x.1 r k2').spec
          rw [k4] at this
          exact this.2.2.1
        have hch := chain_closed hcl ops.toList 0 none hchain x.1 r.o (by simpa using p.all x.1 r k2') hk (by rw [Nat.zero_add]; exact hL)
        have := hch.2 i rc.o (by omega) (by simpa using hio) hkd
        rw [Nat.zero_add, hLi] at this; cases this
  obtain ⟨hdone, hrst⟩ := split_at (fun x : Nat × Oper × Hp × Nat => Lst listed x.1) done rest _ _ (by rw [← he]; exact hat) hd hrest hpre hpost
  rw [← hdone] at hnb hhb
  -- memory as the operation sees it
  have hsub : ∀ id b, hb.get id = some b → hAt hist s.nx (Lst listed) (lastH s.hp done) done id = some b := by
    intro id b hg
    rcases hhb id b hg with h1 | ⟨q, rq, vq, h1, h2, h3, h4, h5⟩
    · exact hAt_S h1
    · have hspec' := (p.tld.rcs q rq h1).spec
      rw [h3] at hspec'
      have hid : id = s.nx + q := hspec'.2.2.1
      subst hid
      have hq : q < ops.size := by omega
      rw [hAt_N (hI1 q hq h5)]
      refine pendF_some.2 ⟨q, rq, vq, _, rfl, h1, h3, ?_, h5⟩
      obtain ⟨e, g1, g2, g3⟩ := edgeTo_mem h4
      rw [← g3]; exact hr e g1 g2
  have hR : R c1 hb.get w1 := ⟨fun id b hg => hmv.r.blk id b (hsub id b hg), fun i' j b b' q q' h1 h2 => hmv.r.inj i' j b b' q q' (hsub _ _ h1) (hsub _ _ h2)⟩
  have hBd : Bd c1 nb := by
    intro id q hq
    rw [hnb]
    rcases hgr id q hq with h1 | ⟨j, h1, h2, h3⟩ | ⟨_, h1⟩
    · have := p.bd id q h1; omega
    · omega
    · exact h1
  refine eff_wp p.plain p.cok htm' hR hBd heff ?_
  intro c2 w2 x hmv2 hgr2 hx
  have hput : (a1.put rc.o.dst x).defers = a1.defers ∧ (a1.put rc.o.dst x).tmps.size = a1.tmps.size := by
    cases rc.o.dst <;> simp [Act.put]
  have hlast : lastH s.hp (done ++ [(i, rc.o, ha, na)]) = ha := lastH_snoc _ _ _
  have hlastN : lastN (s.nx + ops.size) (done ++ [(i, rc.o, ha, na)]) = na := lastN_snoc _ _ _
  have hmv3 : Mv c1 (hAt hist s.nx (Lst listed) (lastH s.hp done) done) w1 c2 (hAt hist s.nx (Lst (listed.setIfInBounds i true)) ha (done ++ [(i, rc.o, ha, na)])) w2 := by
    refine hmv2.frame hmv.r (fun id b hg => ⟨b, hsub id b hg⟩) ?_
    intro id b hg
    rcases hAt_some hg with h1 | ⟨h1, h2⟩
    · exact .inl h1
    · obtain ⟨j, rj, v', k', rfl, h3, h4, h5, h6⟩ := pendF_some.1 h2
      have hj : j ≠ i := by intro e; subst e; rw [hrc] at h3; cases h3; rw [he'] at h4; cases h4
      have hjn : j < ops.size := by have := (List.getElem?_eq_some_iff.1 h3).1; rw [p.len] at this; exact this
      have h6' : ∀ x, x ∈ done → edgeTo x.2.1 j = false := fun x hx => h6 x (by simp [hx])
      have hSn := hI1 j hjn h6'
      refine .inr ⟨?_, ?_⟩
      · rw [hAt_N hSn]
        refine pendF_some.2 ⟨j, rj, v', k', rfl, h3, h4, ?_, h6'⟩
        rw [hset, if_neg hj] at h5; exact h5
      · cases hg' : hb.get (s.nx + j) with
        | none => rfl
        | some b' =>
          rcases hhb _ _ hg' with g1 | ⟨q, rq, vq, g1, g2, g3, g4, g5⟩
          · rw [hSn] at g1; cases g1
          · have hspec' := (p.tld.rcs q rq g1).spec
            rw [g3] at hspec'
            have hid : s.nx + j = s.nx + q := hspec'.2.2.1
            have : q = j := by omega
            subst this
            have := h6 (i, rc.o, ha, na) (by simp)
            simp only at this
            rw [this] at g4; cases g4
  refine ⟨by simpa using hsz, hcl', by rw [hput.1]; exact hdf, by rw [hput.2]; exact htN, done ++ [(i, rc.o, ha, na)], efs (hist.drop (i + 1)) (i + 1), c2, ?_, ?_, ?_, ?_, ?_, ?_, ?_, tdr_put p hi hrc htN hmv2.le (by rw [hv]; exact hx) htm⟩
  · rw [hat, ← hdone]; simp
  · intro y hy
    rw [hset]
    split
    · rfl
    · rename_i hyi
      rcases List.mem_append.1 hy with hy | hy
      · exact hd y hy
      · simp at hy; subst hy; exact absurd rfl hyi
  · intro y hy
    have h1 := hpost y (by simp [hy])
    obtain ⟨r, v', hb', nb', k1, _⟩ := efs_mem _ _ _ hy
    rw [hset, if_neg (by omega)]; exact h1
  · rw [hlast]; exact hmv.trans hmv3
  · rw [hlastN]; have := hgr2.1; omega
  · intro id q hq
    rw [hlastN]
    rcases hgr2.2 id q hq with h1 | ⟨h1, h2⟩
    · rcases hgr id q h1 with g1 | ⟨j, g1, g2, g3⟩ | ⟨g1, g2⟩
      · exact .inl g1
      · refine .inr (.inl ⟨j, g1, g2, ?_⟩); rw [hset]; split
        · rfl
        · exact g3
      · exact .inr (.inr ⟨g1, by have := hgr2.1; omega⟩)
    · exact .inr (.inr ⟨by omega, h2⟩)
  · intro j hj h6
    rw [hlast]
    cases hg : ha.get (s.nx + j) with
    | none => rfl
    | some b =>
      have h6' : ∀ x, x ∈ done → edgeTo x.2.1 j = false := fun x hx => h6 x (by simp [hx])
      have hSn := hI1 j hj h6'
      obtain ⟨q, hq, _⟩ := hmv2.r.blk _ _ hg
      rcases hgr2.2 _ q hq with h1 | ⟨h1, h2⟩
      · obtain ⟨b', hb'⟩ := hmv2.own _ b q hg h1
        rcases hhb _ _ hb' with g1 | ⟨q', rq, vq, g1, g2, g3, g4, g5⟩
        · rw [hSn] at g1; cases g1
        · have hspec' := (p.tld.rcs q' rq g1).spec
          rw [g3] at hspec'
          have hid : s.nx + j = s.nx + q' := hspec'.2.2.1
          have : q' = j := by omega
          subst this
          have := h6 (i, rc.o, ha, na) (by simp)
          simp only at this
          rw [this] at g4; cases g4
      · omega

end

end Go.Proofs.YtljkldmjakabdaaGreat.Ev

