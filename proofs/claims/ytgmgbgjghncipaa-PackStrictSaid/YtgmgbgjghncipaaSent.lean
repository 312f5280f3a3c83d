/- Plain: a coding, state by state. No program in sight. -/
import Derived.Test.YtgmgbgjghncipaaCoderP
namespace CoderP

/-- what is sent, when so many wait -/
def hold (k : Nat) : List Bool → List Bool
  | [] => []
  | h :: t => h :: (List.replicate k (!h) ++ t)

theorem hold_zero (s : List Bool) : hold 0 s = s := by cases s <;> simp [hold]
theorem hold_mid (k : Nat) (s : List Bool) (hs : s ≠ []) : hold k (s.headD false :: (!s.headD false) :: s.tail) = hold (k + 1) s := by
  cases s with
  | nil => exact absurd rfl hs
  | cons h t => simp [hold, List.replicate_succ']
theorem hold_put (k : Nat) (b : Bool) (s : List Bool) : hold k (b :: s) = (b :: List.replicate k (!b)) ++ s := by simp [hold]

/-- one doubling of what is sent -/
theorem sent_step {f lo hi w l h : Nat} (hd : dbl lo hi = some (w, l, h)) (hw : w = 1 ∨ w = 2 ∨ w = 3) (out : List Bool) (k : Nat) (rest : List Bool) (hr : rest ≠ []) :
    out ++ hold k (pre (ways (f + 1) lo hi) rest) =
      (if w = 3 then out ++ hold (k + 1) (pre (ways f l h) rest) else (out ++ (w == 2) :: List.replicate k (!(w == 2))) ++ hold 0 (pre (ways f l h) rest)) := by
  rw [ways_cons hd]
  rcases hw with rfl | rfl | rfl
  · simp [pre, hold_put, hold_zero]
  · simp [pre, hold_put, hold_zero]
  · simp only [pre, if_true]
    rw [if_neg (by decide), if_neg (by decide), hold_mid _ _ (pre_ne hr)]

/-- the state of a coding: behind i bits of l -/
structure At (n : Nat) (l : List Bool) (T : List Bool) (i : Nat) (c : Nat → Nat × Nat) (now lo hi : Nat) (out : List Bool) (k : Nat) : Prop where
  sent : out ++ hold k (enc n (l.drop i) c now lo hi) = T
  fair : ∀ x, Fair (c x)
  good : Good lo hi
  still : dbl lo hi = none
  now : now < n
  size : out.length + k ≤ 33 * i

theorem At.start (n : Nat) (l : List Bool) (hn : 1 ≤ n) : At n l (enc n l (fun _ => (1, 1)) 0 0 4294967295) 0 (fun _ => (1, 1)) 0 0 4294967295 [] 0 :=
  ⟨by simp [hold_zero], fun _ => ⟨by decide, by decide, by decide⟩, ⟨by decide, by decide⟩, by decide, by omega, by simp⟩

/-- the state inside the doublings -/
structure In (n : Nat) (l : List Bool) (T : List Bool) (i : Nat) (c : Nat → Nat × Nat) (now lo hi : Nat) (out : List Bool) (k : Nat) (f : Nat) : Prop where
  sent : out ++ hold k (pre (ways f lo hi) (enc n (l.drop i) c now (spanAfter f lo hi).1 (spanAfter f lo hi).2)) = T
  fair : ∀ x, Fair (c x)
  good : Good lo hi
  enough : Enough f lo hi
  now : now < n
  size : out.length + k + f ≤ 33 * i

theorem At.step {n : Nat} {l T : List Bool} {i : Nat} {c : Nat → Nat × Nat} {now lo hi : Nat} {out : List Bool} {k : Nat} (h : At n l T i c now lo hi out k) (hi' : i < l.length) (b : Bool) (hb : l.getD i false = b) :
    In n l T (i + 1) (upd c now b) ((2 * now + b.toNat) % n) (if b then mid lo hi (c now) + 1 else lo) (if b then hi else mid lo hi (c now)) out k 33 := by
  have hw := (dbl_none h.good h.still).1
  have hm := mid_in hw (h.fair now)
  have h2 := h.good.2
  have hd : l.drop i = b :: l.drop (i + 1) := by
    rw [List.drop_eq_getElem_cons hi']
    congr 1
    rw [← hb]; simp [List.getD_eq_getElem?_getD, hi']
  refine ⟨?_, upd_fair h.fair now b, ?_, enough_start, Nat.mod_lt _ (by have := h.now; omega), by have := h.size; omega⟩
  · have := h.sent
    rw [hd] at this
    unfold enc at this
    exact this
  · unfold Good
    cases b <;> simp <;> omega

theorem In.done {n : Nat} {l T : List Bool} {i : Nat} {c : Nat → Nat × Nat} {now lo hi : Nat} {out : List Bool} {k f : Nat} (h : In n l T i c now lo hi out k f) (hd : dbl lo hi = none) : At n l T i c now lo hi out k := by
  refine ⟨?_, h.fair, h.good, hd, h.now, by have := h.size; omega⟩
  have := h.sent
  rwa [ways_nil hd, span_nil hd] at this

theorem In.step {n : Nat} {l T : List Bool} {i : Nat} {c : Nat → Nat × Nat} {now lo hi : Nat} {out : List Bool} {k f : Nat} (h : In n l T i c now lo hi out k f) {w a b : Nat} (hd : dbl lo hi = some (w, a, b)) :
    ∃ f', f = f' + 1 ∧ Good a b ∧ b - a + 1 = 2 * (hi - lo + 1) ∧
      ((w = 3 ∧ In n l T i c now a b out (k + 1) f') ∨ (w = 1 ∧ In n l T i c now a b (out ++ false :: List.replicate k true) 0 f') ∨ (w = 2 ∧ In n l T i c now a b (out ++ true :: List.replicate k false) 0 f')) := by
  obtain ⟨g1, g2, hw⟩ := dbl_good h.good hd
  obtain ⟨f', rfl⟩ : ∃ f', f = f' + 1 := ⟨f - 1, by have := h.enough.2; omega⟩
  have he := enough_step h.good h.enough hd
  have hs := h.sent
  rw [span_cons hd] at hs
  rw [sent_step hd hw out k _ (enc_ne n _ _ _ _ _)] at hs
  refine ⟨f', rfl, g1, g2, ?_⟩
  have hsz := h.size
  rcases hw with rfl | rfl | rfl
  · exact .inr (.inl ⟨rfl, by simpa using hs, h.fair, g1, he, h.now, by simp; omega⟩)
  · exact .inr (.inr ⟨rfl, by simpa using hs, h.fair, g1, he, h.now, by simp; omega⟩)
  · exact .inl ⟨rfl, by simpa using hs, h.fair, g1, he, h.now, by omega⟩

theorem At.finish {n : Nat} {l T : List Bool} {c : Nat → Nat × Nat} {now lo hi : Nat} {out : List Bool} {k : Nat} (h : At n l T l.length c now lo hi out k) :
    out ++ (decide (¬ lo < 1073741824)) :: List.replicate (k + 1) (decide (lo < 1073741824)) = T := by
  have := h.sent
  rw [List.drop_length] at this
  unfold enc at this
  rw [← this]
  by_cases hl : lo < 1073741824
  · simp [hl, hold, List.replicate_succ']
  · simp [hl, hold, List.replicate_succ']

/-- the whole code -/
def code (k : Nat) (l : List Bool) : List Bool := enc (2 ^ k) l (fun _ => (1, 1)) 0 0 4294967295
end CoderP

