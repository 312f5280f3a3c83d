/- Plain: where a permutation leads, and back to where it began. -/
import Derived.Test.YtoipbbobkllddaaPermOf
namespace Go.Proofs.Ytoipbbobkllddaa

/-- where a list sends a number -/
def toN (xs : List Int) (x : Nat) : Nat := (xs.getD x 0).toNat
/-- so many steps from a number on -/
def walkN (xs : List Int) (i : Nat) : Nat → Nat
  | 0 => i
  | k + 1 => toN xs (walkN xs i k)

theorem toN_lt {xs : List Int} (h : IsPerm xs) {x : Nat} (hx : x < xs.length) : toN xs x < xs.length ∧ xs[x]? = some (toN xs x : Int) := by
  have h1 := h.1 _ (List.getElem_mem hx)
  have h2 : xs.getD x 0 = xs[x] := by rw [List.getD_eq_getElem?_getD, List.getElem?_eq_getElem hx]; rfl
  unfold toN
  rw [h2]
  exact ⟨by omega, by rw [List.getElem?_eq_getElem hx]; congr 1; omega⟩

theorem toN_inj {xs : List Int} (h : IsPerm xs) {x y : Nat} (hx : x < xs.length) (hy : y < xs.length) (he : toN xs x = toN xs y) : x = y := by
  have h1 := (toN_lt h hx).2
  have h2 := (toN_lt h hy).2
  rw [he, ← h2] at h1
  exact (List.getElem?_inj hx h.2).1 h1

theorem walkN_lt {xs : List Int} (h : IsPerm xs) {i : Nat} (hi : i < xs.length) : ∀ k, walkN xs i k < xs.length
  | 0 => hi
  | k + 1 => (toN_lt h (walkN_lt h hi k)).1

theorem walkN_back {xs : List Int} (h : IsPerm xs) {i : Nat} (hi : i < xs.length) : ∀ a d, walkN xs i a = walkN xs i (a + d) → walkN xs i d = i
  | 0, d, he => by rw [Nat.zero_add] at he; exact he.symm
  | a + 1, d, he => by
    rw [show a + 1 + d = (a + d) + 1 by omega] at he
    exact walkN_back h hi a d (toN_inj h (walkN_lt h hi a) (walkN_lt h hi (a + d)) he)

/-- more rows than places: two are one -/
theorem pigeon : ∀ (n : Nat) (f : Nat → Nat), (∀ k, k ≤ n → f k < n) → ∃ a b, a < b ∧ b ≤ n ∧ f a = f b := by
  intro n
  induction n with
  | zero => intro f hf; have := hf 0 (Nat.le_refl _); omega
  | succ n ih =>
    intro f hf
    by_cases hex : ∃ a, a < n + 1 ∧ f a = f (n + 1)
    · obtain ⟨a, h1, h2⟩ := hex
      exact ⟨a, n + 1, h1, Nat.le_refl _, h2⟩
    · -- move the last place onto the value of the last row
      obtain ⟨a, b, h1, h2, h3⟩ := ih (fun k => if f k = n then f (n + 1) else f k) (fun k hk => by
        have hk1 := hf k (by omega)
        have hn1 := hf (n + 1) (Nat.le_refl _)
        have hne : f k ≠ f (n + 1) := fun e => hex ⟨k, by omega, e⟩
        split
        · omega
        · omega)
      refine ⟨a, b, h1, by omega, ?_⟩
      have ha : f a ≠ f (n + 1) := fun e => hex ⟨a, by omega, e⟩
      have hb : f b ≠ f (n + 1) := fun e => hex ⟨b, by omega, e⟩
      split at h3 <;> split at h3 <;> omega

theorem least_of {P : Nat → Prop} : ∀ n, P n → ∃ m, m ≤ n ∧ P m ∧ ∀ t, t < m → ¬ P t := by
  intro n
  induction n using Nat.strongRecOn with
  | ind n ih =>
    intro hn
    by_cases h : ∃ m, m < n ∧ P m
    · obtain ⟨m, h1, h2⟩ := h
      obtain ⟨k, h3, h4, h5⟩ := ih m h1 h2
      exact ⟨k, by omega, h4, h5⟩
    · exact ⟨n, Nat.le_refl _, hn, fun t ht hp => h ⟨t, ht, hp⟩⟩

/-- the first return -/
theorem period {xs : List Int} (h : IsPerm xs) {i : Nat} (hi : i < xs.length) : ∃ T, 1 ≤ T ∧ T ≤ xs.length ∧ walkN xs i T = i ∧ ∀ t, 1 ≤ t → t < T → walkN xs i t ≠ i := by
  obtain ⟨a, b, h1, h2, h3⟩ := pigeon xs.length (walkN xs i) (fun k _ => walkN_lt h hi k)
  have h4 := walkN_back h hi a (b - a) (by rw [show a + (b - a) = b by omega]; exact h3)
  obtain ⟨T, h5, ⟨h6, h7⟩, h8⟩ := least_of (P := fun t => 1 ≤ t ∧ walkN xs i t = i) (b - a) ⟨by omega, h4⟩
  exact ⟨T, h6, by omega, h7, fun t ht1 ht2 he => h8 t ht2 ⟨ht1, he⟩⟩

open Classical in
/-- how many there are in the orbit of a number -/
noncomputable def perN (xs : List Int) (i : Nat) : Nat :=
  if h : IsPerm xs ∧ i < xs.length then Classical.choose (period h.1 h.2) else 0

theorem perN_spec {xs : List Int} (h : IsPerm xs) {i : Nat} (hi : i < xs.length) : 1 ≤ perN xs i ∧ perN xs i ≤ xs.length ∧ walkN xs i (perN xs i) = i ∧ ∀ t, 1 ≤ t → t < perN xs i → walkN xs i t ≠ i := by
  unfold perN
  rw [dif_pos ⟨h, hi⟩]
  exact Classical.choose_spec (period h hi)

/-- the orbit, from a number on -/
noncomputable def orbN (xs : List Int) (i : Nat) : List Nat := (List.range (perN xs i)).map (walkN xs i)

theorem orbN_len (xs : List Int) (i : Nat) : (orbN xs i).length = perN xs i := by simp [orbN]

theorem range_snoc (f : Nat → Nat) (k : Nat) : (List.range (k + 1)).map f = (List.range k).map f ++ [f k] := by simp [List.range_succ]
end Go.Proofs.Ytoipbbobkllddaa

