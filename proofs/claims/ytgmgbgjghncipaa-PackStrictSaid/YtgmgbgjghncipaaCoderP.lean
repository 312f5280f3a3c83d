/- Plain: bits by their likelihoods. No program in sight. -/
namespace CoderP

/-! ### counts -/
def bump (p : Nat × Nat) (b : Bool) : Nat × Nat :=
  let q := if b then (p.1, p.2 + 1) else (p.1 + 1, p.2)
  if q.1 + q.2 = 65536 then ((q.1 + 1) / 2, (q.2 + 1) / 2) else q

def upd (c : Nat → Nat × Nat) (x : Nat) (b : Bool) : Nat → Nat × Nat := fun y => if y = x then bump (c x) b else c y

def Fair (p : Nat × Nat) : Prop := 1 ≤ p.1 ∧ 1 ≤ p.2 ∧ p.1 + p.2 < 65536

theorem bump_fair {p : Nat × Nat} (h : Fair p) (b : Bool) : Fair (bump p b) := by
  obtain ⟨h1, h2, h3⟩ := h
  unfold bump Fair
  cases b <;> simp only [Bool.false_eq_true, if_false, if_true] <;> split <;> simp only <;> omega

theorem upd_fair {c : Nat → Nat × Nat} (h : ∀ x, Fair (c x)) (x : Nat) (b : Bool) : ∀ y, Fair (upd c x b y) := by
  intro y; unfold upd; split
  · exact bump_fair (h x) b
  · exact h y

/-! ### the span -/
def mid (lo hi : Nat) (p : Nat × Nat) : Nat := lo + (hi - lo + 1) * p.1 / (p.1 + p.2) - 1

def half : Nat := 2147483648
def quarter : Nat := 1073741824

/-- which way (1 below, 2 above, 3 middle), and what the span is then -/
def dbl (lo hi : Nat) : Option (Nat × Nat × Nat) :=
  if hi < 2147483648 then some (1, 2 * lo, 2 * hi + 1)
  else if 2147483648 ≤ lo then some (2, 2 * (lo - 2147483648), 2 * (hi - 2147483648) + 1)
  else if 1073741824 ≤ lo ∧ hi < 3221225472 then some (3, 2 * (lo - 1073741824), 2 * (hi - 1073741824) + 1)
  else none

/-- a span as it may be -/
def Wide (lo hi : Nat) : Prop := lo + 1073741824 < hi ∧ hi < 4294967296

def Good (lo hi : Nat) : Prop := lo ≤ hi ∧ hi < 4294967296

theorem dbl_good {lo hi w l h : Nat} (g : Good lo hi) (hd : dbl lo hi = some (w, l, h)) : Good l h ∧ h - l + 1 = 2 * (hi - lo + 1) ∧ (w = 1 ∨ w = 2 ∨ w = 3) := by
  obtain ⟨g1, g2⟩ := g
  unfold dbl at hd
  unfold Good
  split at hd
  · simp at hd; omega
  · split at hd
    · simp at hd; omega
    · split at hd
      · simp at hd; omega
      · cases hd

theorem dbl_none {lo hi : Nat} (g : Good lo hi) (hd : dbl lo hi = none) :
    Wide lo hi ∧ lo < 2147483648 ∧ 2147483648 ≤ hi ∧ (1073741824 ≤ lo → 3221225472 ≤ hi) := by
  obtain ⟨g1, g2⟩ := g
  unfold dbl at hd
  unfold Wide
  split at hd
  · cases hd
  · split at hd
    · cases hd
    · split at hd
      · cases hd
      · rename_i h1 h2 h3
        omega

theorem mid_in {lo hi : Nat} {p : Nat × Nat} (g : Wide lo hi) (hp : Fair p) : lo ≤ mid lo hi p ∧ mid lo hi p < hi := by
  obtain ⟨g1, g2⟩ := g
  obtain ⟨p1, p2, p3⟩ := hp
  unfold mid
  have hR : 65536 ≤ hi - lo + 1 := by omega
  have e1 : 1 ≤ (hi - lo + 1) * p.1 / (p.1 + p.2) := by
    rw [Nat.le_div_iff_mul_le (by omega), Nat.one_mul]
    calc p.1 + p.2 ≤ (hi - lo + 1) * 1 := by omega
      _ ≤ (hi - lo + 1) * p.1 := Nat.mul_le_mul_left _ p1
  have e2 : (hi - lo + 1) * p.1 / (p.1 + p.2) < hi - lo + 1 := by
    rw [Nat.div_lt_iff_lt_mul (by omega)]
    exact Nat.mul_lt_mul_of_pos_left (by omega) (by omega)
  omega

/-! ### the doublings -/
/-- the ways that are gone, with a number of rounds at most -/
def ways : Nat → Nat → Nat → List Nat
  | 0, _, _ => []
  | f + 1, lo, hi => match dbl lo hi with
    | none => []
    | some (w, l, h) => w :: ways f l h

def spanAfter : Nat → Nat → Nat → Nat × Nat
  | 0, lo, hi => (lo, hi)
  | f + 1, lo, hi => match dbl lo hi with
    | none => (lo, hi)
    | some (_, l, h) => spanAfter f l h

/-- rounds enough -/
def Enough (f lo hi : Nat) : Prop := 4294967296 ≤ (hi - lo + 1) * 2 ^ (f - 1) ∧ 1 ≤ f

theorem enough_start {lo hi : Nat} : Enough 33 lo hi := by
  refine ⟨?_, by omega⟩
  show 4294967296 ≤ (hi - lo + 1) * 2 ^ 32
  have : 1 * 2 ^ 32 ≤ (hi - lo + 1) * 2 ^ 32 := Nat.mul_le_mul_right _ (by omega)
  simpa using this

theorem enough_step {f lo hi w l h : Nat} (g : Good lo hi) (e : Enough (f + 1) lo hi) (hd : dbl lo hi = some (w, l, h)) : Enough f l h := by
  have hg := dbl_good g hd
  obtain ⟨e1, e2⟩ := e
  have hf : 1 ≤ f := by
    cases f with
    | zero =>
      exfalso
      simp at e1
      have h1 := hg.1.2
      have h2 := hg.1.1
      have h3 := hg.2.1
      omega
    | succ f => omega
  refine ⟨?_, hf⟩
  rw [hg.2.1]
  have : 2 ^ (f + 1 - 1) = 2 * 2 ^ (f - 1) := by
    rw [show f + 1 - 1 = (f - 1) + 1 from by omega, Nat.pow_succ, Nat.mul_comm]
  rw [this] at e1
  calc 4294967296 ≤ (hi - lo + 1) * (2 * 2 ^ (f - 1)) := e1
    _ = 2 * (hi - lo + 1) * 2 ^ (f - 1) := by rw [← Nat.mul_assoc, Nat.mul_comm (hi - lo + 1) 2]

/-- one doubling more or less of fuel doesn't matter -/
theorem ways_cons {f lo hi w l h : Nat} (hd : dbl lo hi = some (w, l, h)) : ways (f + 1) lo hi = w :: ways f l h := by simp [ways, hd]
theorem span_cons {f lo hi w l h : Nat} (hd : dbl lo hi = some (w, l, h)) : spanAfter (f + 1) lo hi = spanAfter f l h := by simp [spanAfter, hd]
theorem ways_nil {f lo hi : Nat} (hd : dbl lo hi = none) : ways f lo hi = [] := by cases f <;> simp [ways, hd]
theorem span_nil {f lo hi : Nat} (hd : dbl lo hi = none) : spanAfter f lo hi = (lo, hi) := by cases f <;> simp [spanAfter, hd]

theorem spanAfter_wide : ∀ {f lo hi : Nat}, Good lo hi → Enough f lo hi → Wide (spanAfter f lo hi).1 (spanAfter f lo hi).2 ∧ dbl (spanAfter f lo hi).1 (spanAfter f lo hi).2 = none ∧ Good (spanAfter f lo hi).1 (spanAfter f lo hi).2
  | 0, lo, hi, g, e => by have := e.2; omega
  | f + 1, lo, hi, g, e => by
    cases hd : dbl lo hi with
    | none => rw [span_nil hd]; exact ⟨(dbl_none g hd).1, hd, g⟩
    | some t =>
      obtain ⟨w, l, h⟩ := t
      rw [span_cons hd]
      exact spanAfter_wide (dbl_good g hd).1 (enough_step g e hd)

/-! ### streams -/
/-- the number of the first n bits, the first the highest -/
def win : Nat → (Nat → Bool) → Nat
  | 0, _ => 0
  | n + 1, s => 2 * win n s + (s n).toNat

theorem win_lt (n : Nat) (s : Nat → Bool) : win n s < 2 ^ n := by
  induction n with
  | zero => simp [win]
  | succ n ih => simp only [win, Nat.pow_succ]; cases s n <;> simp <;> omega

theorem win_head (n : Nat) (s : Nat → Bool) : win (n + 1) s = (s 0).toNat * 2 ^ n + win n (fun i => s (i + 1)) := by
  induction n with
  | zero => simp [win]
  | succ n ih =>
    rw [win, ih, win, Nat.pow_succ, Nat.mul_add, Nat.add_assoc, ← Nat.mul_assoc 2, Nat.mul_comm 2, Nat.mul_assoc, Nat.mul_comm 2 (2 ^ n)]

theorem win_congr {n : Nat} {s t : Nat → Bool} (h : ∀ i, i < n → s i = t i) : win n s = win n t := by
  induction n with
  | zero => rfl
  | succ n ih => rw [win, win, ih (fun i hi => h i (by omega)), h n (by omega)]

/-- a list as a stream, noughts behind -/
def str (l : List Bool) : Nat → Bool := fun i => l.getD i false

theorem str_cons_zero (b : Bool) (l : List Bool) : str (b :: l) 0 = b := by simp [str]
theorem str_cons_succ (b : Bool) (l : List Bool) (i : Nat) : str (b :: l) (i + 1) = str l i := by simp [str]

/-- what is sent for some doublings, ahead of what is sent behind them -/
def pre : List Nat → List Bool → List Bool
  | [], s => s
  | w :: ws, s =>
    if w = 1 then false :: pre ws s
    else if w = 2 then true :: pre ws s
    else (pre ws s).headD false :: (!(pre ws s).headD false) :: (pre ws s).tail

theorem pre_ne {ws : List Nat} {s : List Bool} (h : s ≠ []) : pre ws s ≠ [] := by
  cases ws with
  | nil => exact h
  | cons w ws => unfold pre; split; simp; split <;> simp

/-- the code of some bits from a state on -/
def enc (m : Nat) : List Bool → (Nat → Nat × Nat) → Nat → Nat → Nat → List Bool
  | [], _, _, lo, _ => if lo < 1073741824 then [false, true] else [true, false]
  | b :: l, c, now, lo, hi =>
    let md := mid lo hi (c now)
    let lo1 := if b then md + 1 else lo
    let hi1 := if b then hi else md
    pre (ways 33 lo1 hi1) (enc m l (upd c now b) ((2 * now + b.toNat) % m) (spanAfter 33 lo1 hi1).1 (spanAfter 33 lo1 hi1).2)

theorem enc_ne (m : Nat) (l : List Bool) : ∀ c now lo hi, enc m l c now lo hi ≠ [] := by
  induction l with
  | nil => intro c now lo hi; unfold enc; split <;> simp
  | cons b l ih => intro c now lo hi; unfold enc; exact pre_ne (ih _ _ _ _)

theorem win32 (s : Nat → Bool) : win 32 s = (s 0).toNat * 2147483648 + win 31 (fun i => s (i + 1)) := win_head 31 s
theorem win32' (s : Nat → Bool) : win 32 s = 2 * win 31 s + (s 31).toNat := rfl
theorem win31 (s : Nat → Bool) : win 31 s = (s 0).toNat * 1073741824 + win 30 (fun i => s (i + 1)) := win_head 30 s

/-- doublings: the number that is sent lies in the span -/
theorem pre_in : ∀ (f : Nat) {lo hi : Nat} {t : List Bool}, Good lo hi → t ≠ [] →
    (spanAfter f lo hi).1 ≤ win 32 (str t) → win 32 (str t) ≤ (spanAfter f lo hi).2 →
    lo ≤ win 32 (str (pre (ways f lo hi) t)) ∧ win 32 (str (pre (ways f lo hi) t)) ≤ hi
  | 0, lo, hi, t, g, ht, h1, h2 => by simpa [ways, pre, spanAfter] using ⟨h1, h2⟩
  | f + 1, lo, hi, t, g, ht, h1, h2 => by
    cases hd : dbl lo hi with
    | none => rw [span_nil hd] at h1 h2; rw [ways_nil hd]; exact ⟨h1, h2⟩
    | some x =>
      obtain ⟨w, l, h⟩ := x
      rw [span_cons hd] at h1 h2
      rw [ways_cons hd]
      have ih := pre_in f (dbl_good hd (g := g)).1 ht h1 h2
      have hne : pre (ways f l h) t ≠ [] := pre_ne ht
      simp only [pre]
      generalize pre (ways f l h) t = s at ih hne ⊢
      have hs := win32' (str s)
      have hb : (str s 31).toNat ≤ 1 := by cases str s 31 <;> simp
      have key : ∀ b, win 32 (str (b :: s)) = b.toNat * 2147483648 + win 31 (str s) := by
        intro b; rw [win32]; rfl
      unfold dbl at hd
      obtain ⟨g1, g2⟩ := g
      split at hd
      · simp only [Option.some.injEq, Prod.mk.injEq] at hd
        obtain ⟨rfl, rfl, rfl⟩ := hd
        simp only [if_true]
        rw [key false]
        simp
        omega
      · split at hd
        · simp only [Option.some.injEq, Prod.mk.injEq] at hd
          obtain ⟨rfl, rfl, rfl⟩ := hd
          simp only [if_true, show ¬ (2 : Nat) = 1 from by decide, if_false]
          rw [key true]
          simp
          omega
        · split at hd
          · simp only [Option.some.injEq, Prod.mk.injEq] at hd
            obtain ⟨rfl, rfl, rfl⟩ := hd
            simp only [show ¬ (3 : Nat) = 1 from by decide, show ¬ (3 : Nat) = 2 from by decide, if_false]
            cases s with
            | nil => exact absurd rfl hne
            | cons b s =>
              simp only [List.headD_cons, List.tail_cons]
              have e1 : win 32 (str (b :: (!b) :: s)) = b.toNat * 2147483648 + ((!b).toNat * 1073741824 + win 30 (str s)) := by
                rw [win32]
                show _ + win 31 (fun i => str ((!b) :: s) i) = _
                rw [win31]; rfl
              have e2 : win 31 (str (b :: s)) = b.toNat * 1073741824 + win 30 (str s) := by rw [win31]; rfl
              rw [e1]
              rw [e2] at hs
              cases b <;> simp at hs ⊢ <;> omega
          · cases hd

theorem enc_in (m : Nat) (l : List Bool) : ∀ {c : Nat → Nat × Nat} {now lo hi : Nat}, (∀ x, Fair (c x)) → Good lo hi → dbl lo hi = none →
    lo ≤ win 32 (str (enc m l c now lo hi)) ∧ win 32 (str (enc m l c now lo hi)) ≤ hi := by
  induction l with
  | nil =>
    intro c now lo hi hc g hd
    have h := dbl_none g hd
    have e1 : win 32 (str [false, true]) = 1073741824 := by decide +kernel
    have e2 : win 32 (str [true, false]) = 2147483648 := by decide +kernel
    unfold enc
    split
    · rw [e1]; omega
    · rw [e2]; omega
  | cons b l ih =>
    intro c now lo hi hc g hd
    have hw := (dbl_none g hd).1
    have hm := mid_in hw (hc now)
    unfold enc
    simp only
    have g1 : Good (if b then mid lo hi (c now) + 1 else lo) (if b then hi else mid lo hi (c now)) := by
      obtain ⟨_, g2⟩ := g
      unfold Good
      cases b <;> simp <;> omega
    have hs := spanAfter_wide g1 enough_start
    have hi' := ih (c := upd c now b) (now := (2 * now + b.toNat) % m) (upd_fair hc now b) hs.2.2 hs.2.1
    have := pre_in 33 g1 (enc_ne m l _ _ _ _) hi'.1 hi'.2
    cases b
    · simp at this ⊢; omega
    · simp at this ⊢; omega

/-! ### reading -/
/-- the number that was read, behind some doublings; the place of the next bit -/
def off (w : Nat) : Nat := if w = 2 then 2147483648 else if w = 3 then 1073741824 else 0

def shift (x : Nat → Bool) : List Nat → Nat → Nat → Nat × Nat
  | [], v, a => (v, a)
  | w :: ws, v, a => shift x ws (2 * (v - off w) + (x a).toNat) (a + 1)

def dec (x : Nat → Bool) (m : Nat) : Nat → (Nat → Nat × Nat) → Nat → Nat → Nat → Nat → Nat → List Bool
  | 0, _, _, _, _, _, _ => []
  | n + 1, c, now, lo, hi, v, a =>
    let md := mid lo hi (c now)
    let b := decide (md < v)
    let lo1 := if b then md + 1 else lo
    let hi1 := if b then hi else md
    b :: dec x m n (upd c now b) ((2 * now + b.toNat) % m) (spanAfter 33 lo1 hi1).1 (spanAfter 33 lo1 hi1).2 (shift x (ways 33 lo1 hi1) v a).1 (shift x (ways 33 lo1 hi1) v a).2

/-- v is the number of s's first bits, x from a on is the rest -/
def Match (x : Nat → Bool) (v a : Nat) (s : List Bool) : Prop := v = win 32 (str s) ∧ ∀ i, x (a + i) = str s (32 + i)

theorem shift_match (x : Nat → Bool) : ∀ (f : Nat) {lo hi v a : Nat} {t : List Bool}, Good lo hi → t ≠ [] →
    Match x v a (pre (ways f lo hi) t) → Match x (shift x (ways f lo hi) v a).1 (shift x (ways f lo hi) v a).2 t
  | 0, lo, hi, v, a, t, g, ht, h => by simpa [ways, pre, shift] using h
  | f + 1, lo, hi, v, a, t, g, ht, h => by
    cases hd : dbl lo hi with
    | none => rw [ways_nil hd] at h ⊢; exact h
    | some y =>
      obtain ⟨w, l, hh⟩ := y
      rw [ways_cons hd] at h ⊢
      simp only [shift]
      refine shift_match x f (dbl_good hd (g := g)).1 ht ?_
      have hw := (dbl_good hd (g := g)).2.2
      have hne : pre (ways f l hh) t ≠ [] := pre_ne ht
      obtain ⟨h1, h2⟩ := h
      have h20 := h2 0
      simp only [Nat.add_zero] at h20
      simp only [pre] at h1 h2 h20
      generalize pre (ways f l hh) t = s at hne h1 h2 h20 ⊢
      have hs := win32' (str s)
      rcases hw with rfl | rfl | rfl
      · simp only [if_true] at h1 h2 h20
        refine ⟨?_, fun i => ?_⟩
        · rw [h20, hs, h1, win32]
          simp [off, str_cons_zero, str_cons_succ]
        · have := h2 (i + 1)
          rw [show 32 + (i + 1) = (32 + i) + 1 from by omega, str_cons_succ] at this
          rw [← this]; congr 1; omega
      · simp only [if_true, show ¬ (2 : Nat) = 1 from by decide, if_false] at h1 h2 h20
        refine ⟨?_, fun i => ?_⟩
        · rw [h20, hs, h1, win32]
          simp [off, str_cons_zero, str_cons_succ]
        · have := h2 (i + 1)
          rw [show 32 + (i + 1) = (32 + i) + 1 from by omega, str_cons_succ] at this
          rw [← this]; congr 1; omega
      · simp only [show ¬ (3 : Nat) = 1 from by decide, show ¬ (3 : Nat) = 2 from by decide, if_false] at h1 h2 h20
        cases s with
        | nil => exact absurd rfl hne
        | cons b s =>
          simp only [List.headD_cons, List.tail_cons] at h1 h2 h20
          have e1 : win 32 (str (b :: (!b) :: s)) = b.toNat * 2147483648 + ((!b).toNat * 1073741824 + win 30 (str s)) := by
            rw [win32]
            show _ + win 31 (fun i => str ((!b) :: s) i) = _
            rw [win31]; rfl
          have e2 : win 31 (str (b :: s)) = b.toNat * 1073741824 + win 30 (str s) := by rw [win31]; rfl
          have e3 : str (b :: (!b) :: s) 32 = str s 30 := by simp [str]
          have e4 : str (b :: s) 31 = str s 30 := by simp [str]
          refine ⟨?_, fun i => ?_⟩
          · rw [h20, hs, h1, e1, e2, e3, e4]
            simp only [off, show ¬ (3 : Nat) = 2 from by decide, if_false, if_true]
            cases b <;> simp <;> omega
          · have := h2 (i + 1)
            rw [show 32 + (i + 1) = (31 + i) + 1 + 1 from by omega, str_cons_succ, str_cons_succ] at this
            rw [show 32 + i = (31 + i) + 1 from by omega, str_cons_succ, ← this]; congr 1; omega

theorem dec_enc (x : Nat → Bool) (m : Nat) (l : List Bool) : ∀ {c : Nat → Nat × Nat} {now lo hi v a : Nat}, (∀ y, Fair (c y)) → Good lo hi → dbl lo hi = none →
    Match x v a (enc m l c now lo hi) → dec x m l.length c now lo hi v a = l := by
  induction l with
  | nil => intro c now lo hi v a _ _ _ _; rfl
  | cons b l ih =>
    intro c now lo hi v a hc g hd hmt
    have hw := (dbl_none g hd).1
    have hm := mid_in hw (hc now)
    have hv := enc_in m (b :: l) (now := now) hc g hd
    rw [← hmt.1] at hv
    have hmt' := hmt
    unfold enc at hmt
    simp only at hmt
    have g1 : Good (if b then mid lo hi (c now) + 1 else lo) (if b then hi else mid lo hi (c now)) := by
      obtain ⟨_, g2⟩ := g
      unfold Good
      cases b <;> simp <;> omega
    have hs := spanAfter_wide g1 enough_start
    have hin := enc_in m l (c := upd c now b) (now := (2 * now + b.toNat) % m) (upd_fair hc now b) hs.2.2 hs.2.1
    have hpre := pre_in 33 g1 (enc_ne m l _ _ _ _) hin.1 hin.2
    rw [← hmt.1] at hpre
    have hb : decide (mid lo hi (c now) < v) = b := by
      cases b
      · simp at hpre ⊢; omega
      · simp at hpre ⊢; omega
    show dec x m (l.length + 1) c now lo hi v a = b :: l
    unfold dec
    simp only [hb]
    congr 1
    exact ih (upd_fair hc now b) hs.2.2 hs.2.1 (shift_match x 33 g1 (enc_ne m l _ _ _ _) hmt)

end CoderP

