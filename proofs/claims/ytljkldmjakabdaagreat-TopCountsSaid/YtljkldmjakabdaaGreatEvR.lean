/- TopCounts by reckoning: memory: what is read, how a state goes on. -/
import Derived.Test.YtljkldmjakabdaaGreatEvQ
namespace Go.Proofs.YtljkldmjakabdaaGreat.Ev
open Go

variable {P : Program}

theorem AtR.one' {c : Cx} {a : At} {v : Value} (r : AtR c a v) : v.oneCell' = true := by
  cases a <;> simp only [AtR] at r
  all_goals first
    | (subst r; rfl)
    | (obtain ⟨_, r, _⟩ := r; subst r; rfl)
    | (obtain ⟨_, _, r⟩ := r; subst r; rfl)
    | (obtain ⟨_, _, _, _, r, _⟩ := r; subst r; rfl)

theorem All2.one' {c : Cx} : ∀ {l : List At} {vs : List Value}, All2 (AtR c) l vs → ∀ v ∈ vs, v.oneCell' = true := by
  intro l vs h
  induction h with
  | nil => intro v hv; cases hv
  | cons r _ ih => intro v hv; rcases List.mem_cons.1 hv with rfl | hv
                   · exact r.one'
                   · exact ih v hv

/-- The cells of a block that is known. -/
theorem R.cells {c : Cx} {h : HF} {w : World} (r : R c h w) {b : Nat} {t : T At} {n : Nat} {ty : Ty} (hb : h b = some (.cells t n ty)) : ∃ p cs e fr, c b = some p ∧ w.heap[p.b]? = some (.cells cs e fr) ∧ cs.size = p.n ∧ p.o + n ≤ cs.size ∧
    (fr.1 = fr.2 ∨ cs.size ≤ fr.1) ∧ (∀ i a, t.get i = some a → i < n ∧ ∃ v, cs[p.o + i]? = some v ∧ AtR c a v) ∧ TyR ty p.o e cs.size n fr := by
  obtain ⟨p, hp, cs, e, fr, h1, h2, h3, h4, h5, h6⟩ := r.blk b _ hb
  exact ⟨p, cs, e, fr, hp, h1, h2, h3, h4, h5, h6⟩

theorem cell_at {w : World} {b o : Nat} {cs : Array Value} {e : TypeId} {fr : Nat × Nat} (h : w.heap[b]? = some (.cells cs e fr)) : w.cell? ⟨b, o, none⟩ = cs[o]? := by
  simp [World.cell?, h]

theorem frozen_at {w : World} {b o : Nat} {cs : Array Value} {e : TypeId} {fr : Nat × Nat} (h : w.heap[b]? = some (.cells cs e fr)) (hf : ¬ (fr.1 ≤ o ∧ o < fr.2)) : w.frozen? ⟨b, o, none⟩ = false := by
  obtain ⟨lo, hi⟩ := fr
  simp only [World.frozen?, h]
  simpa using hf

theorem notFr {fr : Nat × Nat} {n j : Nat} (h : fr.1 = fr.2 ∨ n ≤ fr.1) (hj : j < n) : ¬ (fr.1 ≤ j ∧ j < fr.2) := by omega

theorem rd_sound {c : Cx} {h : Hp} {w : World} (r : R c h.get w) {b o : Nat} {x : At} (hx : rd h b o = some x) {p : Pl} (hp : c b = some p) : ∃ v, w.cell? ⟨p.b, p.o + o, none⟩ = some v ∧ AtR c x v := by
  unfold rd at hx
  split at hx
  · rename_i t n ty hb
    obtain ⟨q, cs, e, fr, hq, h1, h2, h3, h4, h5, h6⟩ := r.cells hb
    rw [hp] at hq; cases hq
    obtain ⟨_, v, hv, hr⟩ := h5 o x hx
    exact ⟨v, by rw [cell_at h1]; exact hv, hr⟩
  · cases hx

theorem rdN_sound {c : Cx} {h : Hp} {w : World} (r : R c h.get w) {b o n : Nat} {l : List At} (hl : rdN h b o n = some l) {p : Pl} (hp : c b = some p) :
    ∃ vs : List Value, vs.length = n ∧ (∀ (j : Nat) (u : Value), vs[j]? = some u → w.cell? (Addr.add ⟨p.b, p.o + o, none⟩ j) = some u) ∧ All2 (AtR c) l vs := by
  unfold rdN at hl
  split at hl
  · rename_i t m ty hb
    obtain ⟨q, cs, e, fr, hq, h1, h2, h3, h4, h5, h6⟩ := r.cells hb
    rw [hp] at hq; cases hq
    obtain ⟨g1, g2⟩ := rdTs_spec _ _ _ _ hl
    have key : ∀ (i : Nat) (a : At), l[i]? = some a → ∃ v, cs[p.o + o + i]? = some v ∧ AtR c a v := by
      intro i a hi
      obtain ⟨_, v, hv, hr⟩ := h5 _ _ (g2 i a hi)
      exact ⟨v, by rw [Nat.add_assoc]; exact hv, hr⟩
    refine ⟨(cs.toList.drop (p.o + o)).take n, ?_, ?_, ?_⟩
    · have hn : n = 0 ∨ p.o + o + n ≤ cs.size := by
        cases n with
        | zero => exact .inl rfl
        | succ n =>
          have : n < l.length := by omega
          obtain ⟨v, hv, _⟩ := key n _ (List.getElem?_eq_getElem this)
          have := (Array.getElem?_eq_some_iff.1 hv).1
          exact .inr (by omega)
      simp; omega
    · intro j u hu
      rw [List.getElem?_take] at hu
      split at hu
      · rw [List.getElem?_drop] at hu
        rw [addr_add, cell_at h1]
        simpa using hu
      · cases hu
    · refine All2.of_get _ _ ?_ ?_
      · have hn : n = 0 ∨ p.o + o + n ≤ cs.size := by
          cases n with
          | zero => exact .inl rfl
          | succ n =>
            have : n < l.length := by omega
            obtain ⟨v, hv, _⟩ := key n _ (List.getElem?_eq_getElem this)
            have := (Array.getElem?_eq_some_iff.1 hv).1
            exact .inr (by omega)
        simp; omega
      · intro i a hi
        obtain ⟨v, hv, hr⟩ := key i a hi
        have hin : i < n := by have := (List.getElem?_eq_some_iff.1 hi).1; omega
        refine ⟨v, ?_, hr⟩
        rw [List.getElem?_take, if_pos hin, List.getElem?_drop]
        simpa using hv
  · cases hl

/-! ### How a state goes on -/

/-- One known block has turned. -/
theorem Mv.upd {c : Cx} {h h' : HF} {w w' : World} (r : R c h w) {b : Nat} {B B' : Blk} (hb : h b = some B) {p : Pl} (hp : c b = some p) (hobj : ObjR c p B' (w'.heap[p.b]?))
    (hoth : ∀ x, x ≠ p.b → w'.heap[x]? = w.heap[x]?) (hsz : w.heap.size ≤ w'.heap.size) (hh : ∀ id b', h' id = some b' → (id = b ∧ b' = B') ∨ (id ≠ b ∧ h id = some b')) (hout : Out w w' := by exact ⟨rfl, rfl, rfl⟩) : Mv c h w c h' w' := by
  have old : ∀ id b', h' id = some b' → ∃ b'', h id = some b'' := by
    intro id b' hi
    rcases hh id b' hi with ⟨rfl, _⟩ | ⟨_, h2⟩
    · exact ⟨B, hb⟩
    · exact ⟨b', h2⟩
  refine ⟨.refl c, ⟨?_, ?_⟩, fun id b' q hi _ => old id b' hi, fun id b' q hi hn hq => (by rw [hn] at hq; cases hq), ?_, hsz, hout⟩
  · intro id b' hi
    rcases hh id b' hi with ⟨rfl, rfl⟩ | ⟨hne, h2⟩
    · exact ⟨p, hp, hobj⟩
    · obtain ⟨q, hq, ho⟩ := r.blk id b' h2
      refine ⟨q, hq, ?_⟩
      rw [hoth q.b (r.inj id b b' B q p h2 hb hne hq hp)]
      exact ho
  · intro i j x y q s hi hj hij hq hs
    obtain ⟨x', hx'⟩ := old i x hi
    obtain ⟨y', hy'⟩ := old j y hj
    exact r.inj i j x' y' q s hx' hy' hij hq hs
  · intro x hx hn
    exact hoth x fun e => hn b B p hb hp e.symm

def Cx.put (c : Cx) (i : Nat) (p : Pl) : Cx := fun j => if j = i then some p else c j
theorem Cx.put_same (c : Cx) (i : Nat) (p : Pl) : c.put i p i = some p := by simp [Cx.put]
theorem Cx.put_ne (c : Cx) {i j : Nat} (p : Pl) (h : j ≠ i) : c.put i p j = c j := by simp [Cx.put, h]
theorem Cx.le_put {c : Cx} {i : Nat} (h : c i = none) (p : Pl) : c.le (c.put i p) := by
  intro j q hj
  by_cases e : j = i
  · subst e; rw [h] at hj; cases hj
  · rw [Cx.put_ne _ _ e]; exact hj
theorem Bd.put {c : Cx} {n : Nat} (h : Bd c n) (p : Pl) : Bd (c.put n p) (n + 1) := by
  intro i q hi
  by_cases e : i = n
  · omega
  · rw [Cx.put_ne _ _ e] at hi; have := h i q hi; omega
theorem Gr.put (c : Cx) (n : Nat) (p : Pl) : Gr c n (c.put n p) (n + 1) := by
  refine ⟨Nat.le_succ _, fun i q hi => ?_⟩
  by_cases e : i = n
  · exact .inr ⟨by omega, by omega⟩
  · rw [Cx.put_ne _ _ e] at hi; exact .inl hi
theorem Bd.none {c : Cx} {n : Nat} (h : Bd c n) : c n = none := by
  cases e : c n with
  | none => rfl
  | some p => have := h n p e; omega

/-- A new block. -/
theorem Mv.new_ {c : Cx} {h h' : HF} {w w' : World} (r : R c h w) {i : Nat} (hi : c i = none) {B : Blk} {p : Pl} (hobj : ObjR (c.put i p) p B (w'.heap[p.b]?)) (hfresh : w.heap.size ≤ p.b)
    (hoth : ∀ x, x < w.heap.size → w'.heap[x]? = w.heap[x]?) (hsz : w.heap.size ≤ w'.heap.size) (hh : ∀ id b', h' id = some b' → (id = i ∧ b' = B) ∨ (id ≠ i ∧ h id = some b')) (hout : Out w w' := by exact ⟨rfl, rfl, rfl⟩) : Mv c h w (c.put i p) h' w' := by
  have hle := Cx.le_put hi p
  refine ⟨hle, ⟨?_, ?_⟩, ?_, ?_, fun x hx _ => hoth x hx, hsz, hout⟩
  · intro id b' hb
    rcases hh id b' hb with ⟨rfl, rfl⟩ | ⟨hne, h2⟩
    · exact ⟨p, Cx.put_same _ _ _, hobj⟩
    · obtain ⟨q, hq, ho⟩ := r.blk id b' h2
      refine ⟨q, hle _ _ hq, ?_⟩
      rw [hoth q.b (r.lt h2 hq)]
      exact ho.mono hle
  · intro j k x y q s hj hk hjk hq hs
    rcases hh j x hj with ⟨rfl, rfl⟩ | ⟨hne, h2⟩
    · rw [Cx.put_same] at hq; cases hq
      rcases hh k y hk with ⟨rfl, rfl⟩ | ⟨hne', h3⟩
      · exact absurd rfl hjk
      · rw [Cx.put_ne _ _ hne'] at hs
        have := r.lt h3 hs; omega
    · rw [Cx.put_ne _ _ hne] at hq
      rcases hh k y hk with ⟨rfl, rfl⟩ | ⟨hne', h3⟩
      · rw [Cx.put_same] at hs; cases hs
        have := r.lt h2 hq; omega
      · rw [Cx.put_ne _ _ hne'] at hs
        exact r.inj j k x y q s h2 h3 hjk hq hs
  · intro id b' q hb hq
    rcases hh id b' hb with ⟨rfl, rfl⟩ | ⟨hne, h2⟩
    · rw [hi] at hq; cases hq
    · exact ⟨b', h2⟩
  · intro id b' q hb hn hq
    rcases hh id b' hb with ⟨rfl, rfl⟩ | ⟨hne, h2⟩
    · rw [Cx.put_same] at hq; cases hq; exact .inl hfresh
    · rw [Cx.put_ne _ _ hne, hn] at hq; cases hq

/-- A block under a new name: the old name is given up. -/
theorem Mv.again {c : Cx} {h h' : HF} {w w' : World} (r : R c h w) {i b : Nat} (hi : c i = none) {B B' : Blk} (hb : h b = some B) {p p' : Pl} (hp : c b = some p) (hpp : p'.b = p.b) (hobj : ObjR (c.put i p') p' B' (w'.heap[p'.b]?))
    (hoth : ∀ x, x ≠ p.b → w'.heap[x]? = w.heap[x]?) (hsz : w.heap.size ≤ w'.heap.size) (hh : ∀ id b', h' id = some b' → (id = i ∧ b' = B') ∨ (id ≠ i ∧ id ≠ b ∧ h id = some b')) (hout : Out w w' := by exact ⟨rfl, rfl, rfl⟩) : Mv c h w (c.put i p') h' w' := by
  have hle := Cx.le_put hi p'
  refine ⟨hle, ⟨?_, ?_⟩, ?_, ?_, ?_, hsz, hout⟩
  · intro id b' hb'
    rcases hh id b' hb' with ⟨rfl, rfl⟩ | ⟨hne, hnb, h2⟩
    · exact ⟨p', Cx.put_same _ _ _, hobj⟩
    · obtain ⟨q, hq, ho⟩ := r.blk id b' h2
      refine ⟨q, hle _ _ hq, ?_⟩
      rw [hoth q.b (r.inj id b b' B q p h2 hb hnb hq hp)]
      exact ho.mono hle
  · intro j k x y q s hj hk hjk hq hs
    rcases hh j x hj with ⟨rfl, rfl⟩ | ⟨hne, hnb, h2⟩
    · rw [Cx.put_same] at hq; cases hq
      rcases hh k y hk with ⟨rfl, rfl⟩ | ⟨hne', hnb', h3⟩
      · exact absurd rfl hjk
      · rw [Cx.put_ne _ _ hne'] at hs
        rw [hpp]
        exact (r.inj k b y B s p h3 hb hnb' hs hp).symm
    · rw [Cx.put_ne _ _ hne] at hq
      rcases hh k y hk with ⟨rfl, rfl⟩ | ⟨hne', hnb', h3⟩
      · rw [Cx.put_same] at hs; cases hs
        rw [hpp]
        exact r.inj j b x B q p h2 hb hnb hq hp
      · rw [Cx.put_ne _ _ hne'] at hs
        exact r.inj j k x y q s h2 h3 hjk hq hs
  · intro id b' q hb' hq
    rcases hh id b' hb' with ⟨rfl, rfl⟩ | ⟨hne, hnb, h2⟩
    · rw [hi] at hq; cases hq
    · exact ⟨b', h2⟩
  · intro id b' q hb' hn hq
    rcases hh id b' hb' with ⟨rfl, rfl⟩ | ⟨hne, hnb, h2⟩
    · rw [Cx.put_same] at hq; cases hq; exact .inr ⟨b, B, p, hb, hp, hpp.symm⟩
    · rw [Cx.put_ne _ _ hne, hn] at hq; cases hq
  · intro x hx hn
    exact hoth x fun e => hn b B p hb hp e.symm

/-! ### Cells that are stored -/
theorem setCells_out (b : Nat) : ∀ (vs : List Value) (o : Nat) (w : World), Out w (w.setCells b o vs)
  | [], _, w => Out.refl w
  | v :: vs, o, w => Out.trans (⟨rfl, rfl, rfl⟩ : Out w (w.setCell ⟨b, o, none⟩ v)) (setCells_out b vs (o + 1) _)

theorem setCells_size (b : Nat) : ∀ (vs : List Value) (o : Nat) (w : World), (w.setCells b o vs).heap.size = w.heap.size
  | [], _, _ => rfl
  | v :: vs, o, w => by rw [World.setCells, setCells_size b vs]; simp [World.setCell]

theorem setCells_other (b x : Nat) (hx : x ≠ b) : ∀ (vs : List Value) (o : Nat) (w : World), (w.setCells b o vs).heap[x]? = w.heap[x]?
  | [], _, _ => rfl
  | v :: vs, o, w => by
    rw [World.setCells, setCells_other b x hx vs]
    simp only [World.setCell, Array.getElem?_modify]
    rw [if_neg (fun e => hx e.symm)]

theorem setCells_at (b : Nat) : ∀ (vs : List Value) (o : Nat) (w : World) (cs : Array Value) (e : TypeId) (fr : Nat × Nat), w.heap[b]? = some (.cells cs e fr) →
    ∃ cs' : Array Value, (w.setCells b o vs).heap[b]? = some (.cells cs' e fr) ∧ cs'.size = cs.size ∧ ∀ k, cs'[k]? = if o ≤ k ∧ k < o + vs.length ∧ k < cs.size then vs[k - o]? else cs[k]? := by
  intro vs
  induction vs with
  | nil => intro o w cs e fr h; exact ⟨cs, h, rfl, fun k => by rw [if_neg (by simp; omega)]⟩
  | cons v vs ih =>
    intro o w cs e fr h
    have h1 : (w.setCell ⟨b, o, none⟩ v).heap[b]? = some (.cells (cs.setIfInBounds o v) e fr) := by
      simp [World.setCell, Array.getElem?_modify, h]
    obtain ⟨cs', h2, h3, h4⟩ := ih (o + 1) _ _ _ _ h1
    refine ⟨cs', h2, by rw [h3]; simp, fun k => ?_⟩
    rw [h4 k]
    simp only [Array.size_setIfInBounds, List.length_cons]
    by_cases hk : k = o
    · subst hk
      rw [if_neg (by omega)]
      by_cases hs : k < cs.size
      · rw [if_pos (by omega)]; simp [hs]
      · rw [if_neg (by omega)]; simp [Array.getElem?_eq_none, Nat.not_lt.1 hs]
    · by_cases hc : o + 1 ≤ k ∧ k < o + 1 + vs.length ∧ k < cs.size
      · rw [if_pos hc, if_pos (by omega), show k - o = (k - (o + 1)) + 1 from by omega]; simp
      · rw [if_neg hc, if_neg (by omega), Array.getElem?_setIfInBounds_ne (fun e => hk e.symm)]

theorem wrN_spec {h h' : Hp} {b o : Nat} {l : List At} (hw : wrN h b o l = some h') : ∃ t n ty, h.get b = some (.cells t n ty) ∧ o + l.length ≤ n ∧ h' = h.set b (.cells (wrTs t o l) n ty) := by
  unfold wrN at hw
  split at hw
  · rename_i t n ty hb
    simp only [ble_dec] at hw
    by_cases hc : o + l.length ≤ n
    · simp only [hc, decide_true, cond_true, Option.some.injEq] at hw
      exact ⟨t, n, ty, hb, hc, hw.symm⟩
    · simp [hc] at hw
  · cases hw

theorem get_set_cases (h : Hp) (b : Nat) (B : Blk) : ∀ id b', (h.set b B).get id = some b' → (id = b ∧ b' = B) ∨ (id ≠ b ∧ h.get id = some b') := fun id b' hb => T.get_set _ _ _ _ _ hb

/-- Cells are stored. -/
theorem Mv.store {c : Cx} {h h' : Hp} {w : World} (r : R c h.get w) {b o : Nat} {l : List At} {vs : List Value} (hv : All2 (AtR c) l vs) (hw : wrN h b o l = some h') {p : Pl} (hp : c b = some p) :
    Mv c h.get w c h'.get (w.setCells p.b (p.o + o) vs) ∧ (∀ j, j < vs.length → (w.cell? ⟨p.b, p.o + o + j, none⟩).isSome = true) ∧ (∀ j, j < vs.length → w.frozen? ⟨p.b, p.o + o + j, none⟩ = false) := by
  obtain ⟨t, n, ty, hb, hn, rfl⟩ := wrN_spec hw
  obtain ⟨q, cs, e, fr, hq, h1, h2, h3, h4, h5, h6⟩ := r.cells hb
  rw [hp] at hq; cases hq
  have hlen := hv.length
  obtain ⟨cs', g1, g2, g3⟩ := setCells_at p.b vs (p.o + o) w cs e fr h1
  refine ⟨Mv.upd r hb hp (B' := .cells (wrTs t o l) n ty) ⟨cs', e, fr, g1, by rw [g2]; exact h2, by rw [g2]; exact h3, (by rw [g2]; exact h4), ?_, by rw [g2]; exact h6⟩ (fun x hx => setCells_other _ _ hx _ _ _) (by rw [setCells_size]; exact Nat.le_refl _) (get_set_cases _ _ _) (setCells_out _ _ _ _), ?_, ?_⟩
  · intro i a hi
    rcases wrTs_get _ _ _ _ _ hi with ⟨k1, k2⟩ | ⟨k1, k2⟩
    · have k3 : i - o < l.length := (List.getElem?_eq_some_iff.1 k2).1
      obtain ⟨v, hvv, hr⟩ := hv.get _ _ k2
      refine ⟨by omega, v, ?_, hr⟩
      rw [g3, if_pos (by omega), show p.o + i - (p.o + o) = i - o from by omega]
      exact hvv
    · obtain ⟨k3, v, hvv, hr⟩ := h5 i a k2
      refine ⟨k3, v, ?_, hr⟩
      rw [g3, if_neg (by omega)]
      exact hvv
  · intro j hj
    rw [cell_at h1, Array.getElem?_eq_getElem (by omega)]
    rfl
  · intro j hj
    exact frozen_at h1 (notFr h4 (by omega))

end Go.Proofs.YtljkldmjakabdaaGreat.Ev

