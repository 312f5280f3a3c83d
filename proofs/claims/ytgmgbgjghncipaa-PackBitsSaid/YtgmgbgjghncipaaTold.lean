/- Plain: a decoding, state by state. No program in sight. -/
import Derived.Test.YtgmgbgjghncipaaSent
namespace CoderP

theorem dec_length (x : Nat → Bool) (m : Nat) : ∀ n c now lo hi v a, (dec x m n c now lo hi v a).length = n
  | 0, _, _, _, _, _, _ => rfl
  | n + 1, c, now, lo, hi, v, a => by unfold dec; simp [dec_length x m n]

/-- so many bits, as a code's -/
def told (k : Nat) (T : List Bool) (n : Nat) : List Bool := dec (str T) (2 ^ k) n (fun _ => (1, 1)) 0 0 4294967295 (win 32 (str T)) 32

theorem told_length (k : Nat) (T : List Bool) (n : Nat) : (told k T n).length = n := dec_length _ _ _ _ _ _ _ _ _

/-- what was coded is told again -/
theorem told_code (k : Nat) (l : List Bool) : told k (code k l) l.length = l := by
  unfold told code
  exact dec_enc _ _ l (fun _ => ⟨by decide, by decide, by decide⟩) ⟨by decide, by decide⟩ (by decide) ⟨rfl, fun i => rfl⟩

/-- the state of a decoding: j bits are told -/
structure RAt (m : Nat) (T : List Bool) (n : Nat) (D : List Bool) (j : Nat) (c : Nat → Nat × Nat) (now lo hi : Nat) (out : List Bool) (v a : Nat) : Prop where
  sent : out ++ dec (str T) m (n - j) c now lo hi v a = D
  fair : ∀ x, Fair (c x)
  good : Good lo hi
  still : dbl lo hi = none
  now : now < m
  low : lo ≤ v
  high : v ≤ hi
  size : out.length = j
  here : a ≤ 32 + 33 * j

theorem RAt.start (k : Nat) (T : List Bool) (n : Nat) : RAt (2 ^ k) T n (told k T n) 0 (fun _ => (1, 1)) 0 0 4294967295 [] (win 32 (str T)) 32 :=
  ⟨rfl, fun _ => ⟨by decide, by decide, by decide⟩, ⟨by decide, by decide⟩, by decide, Nat.two_pow_pos k, by omega, by have := win_lt 32 (str T); omega, rfl, by omega⟩

structure RIn (m : Nat) (T : List Bool) (n : Nat) (D : List Bool) (j : Nat) (c : Nat → Nat × Nat) (now lo hi : Nat) (out : List Bool) (v a f : Nat) : Prop where
  sent : out ++ dec (str T) m (n - j) c now (spanAfter f lo hi).1 (spanAfter f lo hi).2 (shift (str T) (ways f lo hi) v a).1 (shift (str T) (ways f lo hi) v a).2 = D
  fair : ∀ x, Fair (c x)
  good : Good lo hi
  enough : Enough f lo hi
  now : now < m
  low : lo ≤ v
  high : v ≤ hi
  size : out.length = j
  here : a + f ≤ 32 + 33 * j

theorem RAt.step {m : Nat} {T : List Bool} {n : Nat} {D : List Bool} {j : Nat} {c : Nat → Nat × Nat} {now lo hi : Nat} {out : List Bool} {v a : Nat} (h : RAt m T n D j c now lo hi out v a) (hj : j < n) (b : Bool) (hb : decide (mid lo hi (c now) < v) = b) :
    RIn m T n D (j + 1) (upd c now b) ((2 * now + b.toNat) % m) (if b then mid lo hi (c now) + 1 else lo) (if b then hi else mid lo hi (c now)) (out ++ [b]) v a 33 := by
  have hw := (dbl_none h.good h.still).1
  have hm := mid_in hw (h.fair now)
  have h2 := h.good.2
  have hl := h.low
  have hh := h.high
  have hn : n - j = (n - (j + 1)) + 1 := by omega
  have g : Good (if b then mid lo hi (c now) + 1 else lo) (if b then hi else mid lo hi (c now)) := by
    unfold Good
    cases b <;> simp <;> omega
  refine ⟨?_, upd_fair h.fair now b, g, enough_start, Nat.mod_lt _ (by have := h.now; omega), ?_, ?_, by simp [h.size], by have := h.here; omega⟩
  · have := h.sent
    rw [hn] at this
    unfold dec at this
    simp only [hb] at this
    rw [← this]; simp
  · cases b
    · simpa using hl
    · simp at hb ⊢; omega
  · cases b
    · simp at hb ⊢; omega
    · simpa using hh

theorem RIn.done {m : Nat} {T : List Bool} {n : Nat} {D : List Bool} {j : Nat} {c : Nat → Nat × Nat} {now lo hi : Nat} {out : List Bool} {v a f : Nat} (h : RIn m T n D j c now lo hi out v a f) (hd : dbl lo hi = none) :
    RAt m T n D j c now lo hi out v a := by
  refine ⟨?_, h.fair, h.good, hd, h.now, h.low, h.high, h.size, by have := h.here; omega⟩
  have := h.sent
  rwa [ways_nil hd, span_nil hd] at this

theorem RIn.step {m : Nat} {T : List Bool} {n : Nat} {D : List Bool} {j : Nat} {c : Nat → Nat × Nat} {now lo hi : Nat} {out : List Bool} {v a f : Nat} (h : RIn m T n D j c now lo hi out v a f) {w x y : Nat} (hd : dbl lo hi = some (w, x, y)) :
    ∃ f', f = f' + 1 ∧ Good x y ∧ y - x + 1 = 2 * (hi - lo + 1) ∧ (w = 1 ∨ w = 2 ∨ w = 3) ∧ off w ≤ v ∧ RIn m T n D j c now x y out (2 * (v - off w) + (str T a).toNat) (a + 1) f' := by
  obtain ⟨g1, g2, hw⟩ := dbl_good h.good hd
  obtain ⟨f', rfl⟩ : ∃ f', f = f' + 1 := ⟨f - 1, by have := h.enough.2; omega⟩
  have he := enough_step h.good h.enough hd
  have hs := h.sent
  rw [span_cons hd, ways_cons hd] at hs
  have hl := h.low
  have hh := h.high
  have hhere := h.here
  have hdd := hd
  unfold dbl at hdd
  have ht : (str T a).toNat < 2 := by cases str T a <;> decide
  have key : off w ≤ v ∧ x ≤ 2 * (v - off w) + (str T a).toNat ∧ 2 * (v - off w) + (str T a).toNat ≤ y := by
    generalize (str T a).toNat = t at ht
    split at hdd
    · simp at hdd; obtain ⟨rfl, rfl, rfl⟩ := hdd; simp [off]; omega
    · split at hdd
      · simp at hdd; obtain ⟨rfl, rfl, rfl⟩ := hdd; simp [off]; omega
      · split at hdd
        · simp at hdd; obtain ⟨rfl, rfl, rfl⟩ := hdd; simp [off]; omega
        · cases hdd
  exact ⟨f', rfl, g1, g2, hw, key.1, hs, h.fair, g1, he, h.now, key.2.1, key.2.2, h.size, by omega⟩

theorem RAt.finish {m : Nat} {T : List Bool} {n : Nat} {D : List Bool} {c : Nat → Nat × Nat} {now lo hi : Nat} {out : List Bool} {v a : Nat} (h : RAt m T n D n c now lo hi out v a) : out = D := by
  have := h.sent
  rw [Nat.sub_self] at this
  simpa [dec] using this
end CoderP

