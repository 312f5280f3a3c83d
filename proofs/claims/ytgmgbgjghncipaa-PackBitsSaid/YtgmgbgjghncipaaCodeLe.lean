/- How long a code can be (plain). -/
import Derived.Test.YtgmgbgjghncipaaSent
import Derived.Test.YtgmgbgjghncipaaShrink
namespace CoderP
theorem ways_le : ∀ f lo hi, (ways f lo hi).length ≤ f
  | 0, _, _ => by simp [ways]
  | f + 1, lo, hi => by
    unfold ways
    cases dbl lo hi with
    | none => simp
    | some q => obtain ⟨w, l, h⟩ := q; have := ways_le f l h; simp; omega

theorem enc_le (m : Nat) (l : List Bool) : ∀ c now lo hi, (enc m l c now lo hi).length ≤ 33 * l.length + 2 := by
  induction l with
  | nil => intro c now lo hi; unfold enc; split <;> simp
  | cons b l ih =>
    intro c now lo hi
    unfold enc
    simp only
    rw [pre_length (enc_ne _ _ _ _ _ _)]
    have h1 := ways_le 33 (if b then mid lo hi (c now) + 1 else lo) (if b then hi else mid lo hi (c now))
    have h2 := ih (upd c now b) ((2 * now + b.toNat) % m) (spanAfter 33 (if b then mid lo hi (c now) + 1 else lo) (if b then hi else mid lo hi (c now))).1 (spanAfter 33 (if b then mid lo hi (c now) + 1 else lo) (if b then hi else mid lo hi (c now))).2
    simp only [List.length_cons]
    omega

theorem code_le (k : Nat) (l : List Bool) : (code k l).length ≤ 33 * l.length + 2 := enc_le _ _ _ _ _ _
end CoderP

