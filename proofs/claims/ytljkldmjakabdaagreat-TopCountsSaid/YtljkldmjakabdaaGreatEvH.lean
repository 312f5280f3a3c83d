/- TopCounts by reckoning: regions that draw their order. -/
import Derived.Test.YtljkldmjakabdaaGreatEvI
namespace Go.Proofs.YtljkldmjakabdaaGreat.Ev
open Go

variable {P : Program}

/-! ### What is looked at once -/
section stat
variable {L : Nat → Bool}

/-- Whatever a listed operation waits for is listed. -/
def Cl (ops : Array Oper) (L : Nat → Bool) : Prop := ∀ (i : Nat) (o : Oper), ops[i]? = some o → L i = true → ∀ e, e ∈ o.after.toList → Region.binds .any e = true → L e.on = true

def GoodM (L : Nat → Bool) (t : T Nat) : Prop := ∀ j m, t.get j = some m → ∀ b, Nat.testBit m b = true → L j = true → L b = true

theorem maskOf_bit (ms : T Nat) : ∀ (es : List Edge) (b : Nat), Nat.testBit (maskOf ms es) b = true → ∃ e, e ∈ es ∧ Region.binds .any e = true ∧ (e.on = b ∨ ∃ m, ms.get e.on = some m ∧ Nat.testBit m b = true) := by
  intro es
  induction es with
  | nil => intro b h; simp [maskOf] at h
  | cons e es ih =>
    intro b h
    unfold maskOf at h
    cases hb : Region.binds .any e with
    | false =>
      simp only [hb, cond_false] at h
      obtain ⟨e', h1, h2⟩ := ih b h
      exact ⟨e', by simp [h1], h2⟩
    | true =>
      simp only [hb, cond_true] at h
      have h' : (2 ^ e.on ||| (ms.get e.on).getD 0 ||| maskOf ms es).testBit b = true := h
      rw [Nat.testBit_or, Nat.testBit_or, Bool.or_eq_true, Bool.or_eq_true] at h'
      rcases h' with (h1 | h1) | h1
      · rw [Nat.testBit_two_pow] at h1
        exact ⟨e, by simp, hb, .inl (by simpa using h1)⟩
      · rcases hg : ms.get e.on with _ | m
        · rw [hg] at h1; simp at h1
        · rw [hg] at h1; exact ⟨e, by simp, hb, .inr ⟨m, hg, h1⟩⟩
      · obtain ⟨e', h2, h3⟩ := ih b h1
        exact ⟨e', by simp [h2], h3⟩

theorem masks_good {ops : Array Oper} (hcl : Cl ops L) : ∀ (l : List Oper) (i : Nat) (t : T Nat), ops.toList.drop i = l → GoodM L t → GoodM L (masks l i t) := by
  intro l
  induction l with
  | nil => intro i t _ h; exact h
  | cons o l ih =>
    intro i t hi h
    have hio : ops[i]? = some o := by
      have : (ops.toList.drop i)[0]? = some o := by rw [hi]; rfl
      rw [List.getElem?_drop] at this
      simpa using this
    refine ih (i + 1) _ (by rw [← List.drop_drop, hi]; rfl) ?_
    intro j m hj b hb hL
    rcases T.get_set _ _ _ _ _ hj with ⟨rfl, rfl⟩ | ⟨_, h2⟩
    · obtain ⟨e, h3, h4, h5⟩ := maskOf_bit _ _ _ hb
      have h6 := hcl j o hio hL e h3 h4
      rcases h5 with rfl | ⟨m', h7, h8⟩
      · exact h6
      · exact h e.on m' h7 b h8 h6
    · exact h j m h2 b hb hL

theorem bit_closed {ops : Array Oper} (hcl : Cl ops L) {i j : Nat} (hb : bitAt (masks ops.toList 0 .leaf) i j = true) (hi : L i = true) : L j = true := by
  have hg := masks_good hcl ops.toList 0 .leaf rfl (fun j m h => by cases h)
  unfold bitAt at hb
  split at hb
  · rename_i m hm; exact hg i m hm j hb hi
  · cases hb

theorem chain_closed {ops : Array Oper} (hcl : Cl ops L) : ∀ (l : List Oper) (i : Nat) (last : Option Nat), chained (masks ops.toList 0 .leaf) l i last = true →
    ∀ (q : Nat) (o : Oper), l[q]? = some o → kdOf o = .eff → L (i + q) = true → (∀ e, last = some e → L e = true) ∧ ∀ (p : Nat) (o' : Oper), p < q → l[p]? = some o' → kdOf o' = .eff → L (i + p) = true := by
  intro l
  induction l with
  | nil => intro i last _ q o h; simp at h
  | cons x l ih =>
    intro i last hch q o hq hk hL
    unfold chained at hch
    cases q with
    | zero =>
      simp at hq; subst hq
      simp only [hk] at hch
      refine ⟨fun e he => ?_, fun p o' hp => by omega⟩
      subst he
      cases hb : bitAt (masks ops.toList 0 .leaf) i e with
      | false => simp [lastBit, hb] at hch
      | true => exact bit_closed hcl hb (by simpa using hL)
    | succ q =>
      have hq' : l[q]? = some o := by simpa using hq
      have hL' : L (i + 1 + q) = true := by rw [show i + 1 + q = i + (q + 1) from by omega]; exact hL
      split at hch
      · rename_i hx
        cases hb : lastBit (masks ops.toList 0 .leaf) i last with
        | false => simp [hb] at hch
        | true =>
          simp only [hb, cond_true] at hch
          obtain ⟨h1, h2⟩ := ih _ _ hch q o hq' hk hL'
          have hLi := h1 i rfl
          refine ⟨fun e he => ?_, fun p o' hp hpo hpk => ?_⟩
          · subst he; exact bit_closed hcl hb hLi
          · cases p with
            | zero => exact hLi
            | succ p => rw [show i + (p + 1) = i + 1 + p from by omega]; exact h2 p o' (by omega) (by simpa using hpo) hpk
      · rename_i hx
        obtain ⟨h1, h2⟩ := ih _ _ hch q o hq' hk hL'
        refine ⟨h1, fun p o' hp hpo hpk => ?_⟩
        cases p with
        | zero => simp at hpo; subst hpo; exact absurd hpk hx
        | succ p => rw [show i + (p + 1) = i + 1 + p from by omega]; exact h2 p o' (by omega) (by simpa using hpo) hpk

theorem apart_spec (ms : T Nat) (i t : Nat) : ∀ (l : List Oper) (j0 : Nat), apart1 ms i t l j0 = true → ∀ (k : Nat) (o : Oper), l[k]? = some o → o.dst = some t → (j0 + k < i ∧ bitAt ms i (j0 + k) = true) ∨ (i < j0 + k ∧ bitAt ms (j0 + k) i = true) := by
  intro l
  induction l with
  | nil => intro j0 _ k o h; simp at h
  | cons x l ih =>
    intro j0 h k o hk ho
    unfold apart1 at h
    cases k with
    | zero =>
      simp at hk; subst hk
      have hd : dstIs x t = true := by simp [dstIs, ho, beq_dec]
      simp only [hd, cond_true] at h
      cases hp : okPair ms i j0 with
      | false => simp [hp] at h
      | true =>
        unfold okPair at hp
        simp only [blt_dec] at hp
        by_cases h1 : j0 < i
        · simp only [h1, decide_true, cond_true] at hp
          exact .inl ⟨h1, hp⟩
        · by_cases h2 : i < j0
          · simp only [h1, h2, decide_false, decide_true, cond_false, cond_true] at hp
            exact .inr ⟨h2, hp⟩
          · simp [h1, h2] at hp
    | succ k =>
      have hrest : apart1 ms i t l (j0 + 1) = true := by
        cases hd : dstIs x t with
        | false => simpa [hd] using h
        | true =>
          cases hp : okPair ms i j0 with
          | false => simp [hd, hp] at h
          | true => simpa [hd, hp] using h
      have := ih (j0 + 1) hrest k o (by simpa using hk) ho
      rw [show j0 + 1 + k = j0 + (k + 1) from by omega] at this
      exact this

theorem apartAll_spec {ops : Array Oper} {ms : T Nat} : ∀ (l : List Oper) (i0 : Nat), apartAll ops ms l i0 = true → ∀ (k : Nat) (o : Oper), l[k]? = some o → ∀ t, t ∈ o.looksAt ops → apart1 ms (i0 + k) t ops.toList 0 = true := by
  intro l
  induction l with
  | nil => intro i0 _ k o h; simp at h
  | cons x l ih =>
    intro i0 h k o hk t ht
    unfold apartAll at h
    cases hb : (x.looksAt ops).all (fun t => apart1 ms i0 t ops.toList 0) with
    | false => simp [hb] at h
    | true =>
      simp only [hb, cond_true] at h
      cases k with
      | zero => simp at hk; subst hk; exact List.all_eq_true.1 hb t ht
      | succ k =>
        have := ih (i0 + 1) h k o (by simpa using hk) t ht
        rw [show i0 + 1 + k = i0 + (k + 1) from by omega] at this
        exact this

theorem uniq_spec : ∀ (l : List Oper), uniq l = true → ∀ (i j : Nat) (o o' : Oper) (d : Nat), i < j → l[i]? = some o → l[j]? = some o' → o.dst = some d → o'.dst ≠ some d := by
  intro l
  induction l with
  | nil => intro _ i j o o' d _ h; simp at h
  | cons x l ih =>
    intro h i j o o' d hij hi hj hd
    unfold uniq at h
    cases j with
    | zero => omega
    | succ j =>
      have hj' : l[j]? = some o' := by simpa using hj
      cases hb : othersNe l x with
      | false => simp [hb] at h
      | true =>
        simp only [hb, cond_true] at h
        cases i with
        | zero =>
          simp at hi; subst hi
          unfold othersNe at hb
          simp only [hd] at hb
          intro e
          have := List.all_eq_true.1 hb o' (List.mem_of_getElem? hj')
          simp [dstIs, e, beq_dec] at this
        | succ i => exact ih h i j o o' d (by omega) (by simpa using hi) hj' hd

theorem ordered_spec : ∀ (l : List Oper) (i0 : Nat), ordered l i0 = true → ∀ (k : Nat) (o : Oper), l[k]? = some o → ∀ e, e ∈ o.after.toList → Region.binds .any e = true → e.on < i0 + k := by
  intro l
  induction l with
  | nil => intro i0 _ k o h; simp at h
  | cons x l ih =>
    intro i0 h k o hk e he hb
    unfold ordered at h
    cases hx : x.after.toList.all (edgeLt i0) with
    | false => simp [hx] at h
    | true =>
      simp only [hx, cond_true] at h
      cases k with
      | zero =>
        simp at hk; subst hk
        have := List.all_eq_true.1 hx e he
        simp only [edgeLt, hb, cond_true, blt_dec, decide_eq_true_eq] at this
        omega
      | succ k =>
        have := ih (i0 + 1) h k o (by simpa using hk) e he hb
        omega

end stat

end Go.Proofs.YtljkldmjakabdaaGreat.Ev

