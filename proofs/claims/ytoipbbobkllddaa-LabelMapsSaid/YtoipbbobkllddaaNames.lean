/- Perm.Names, and the document's. -/
import Derived.Test.YtoipbbobkllddaaRepeat
import Derived.Test.YtoipbbobkllddaaNamesP
namespace Go.Proofs.Ytoipbbobkllddaa
open Go.RowKit

/-- a row of numbers -/
def iRow (f : Nat → Int) (m : Nat) : List Value := (List.range m).map fun i => Value.int .i64 (f i)
theorem iRow_len (f : Nat → Int) (m : Nat) : (iRow f m).length = m := by simp [iRow]
theorem iRow_get (f : Nat → Int) (m i : Nat) (h : i < m) : (iRow f m)[i]? = some (.int .i64 (f i)) := by simp [iRow, h]
theorem iRow_congr {f g : Nat → Int} {m : Nat} (h : ∀ j, j < m → f j = g j) : iRow f m = iRow g m := by
  unfold iRow
  refine List.map_congr_left fun j hj => ?_
  rw [h j (List.mem_range.1 hj)]
theorem iRow_set (f g : Nat → Int) (m i : Nat) (h : ∀ j, j < m → j ≠ i → g j = f j) : (iRow f m).set i (.int .i64 (g i)) = iRow g m := by
  apply List.ext_getElem
  · simp [iRow]
  · intro j h1 h2
    have hj : j < m := by simpa [iRow] using h1
    rw [List.getElem_set]
    by_cases he : i = j
    · subst he; simp [iRow]
    · rw [if_neg he]; simp [iRow, h j hj (fun e => he e.symm)]
theorem iRow_const (z : Int) (m : Nat) : intsOf (List.replicate m z) = iRow (fun _ => z) m := by
  apply List.ext_getElem <;> simp [iRow, intsOf]
theorem iRow_names (xs : List Int) : iRow (nameN xs xs.length) xs.length = intsOf (namesN xs) := by
  unfold iRow namesN intsOf
  rw [List.map_map]
  refine List.map_congr_left fun j hj => ?_
  rw [nameN_end (List.mem_range.1 hj)]; rfl

/-- the names, with so many of an orbit named -/
noncomputable def halfN (xs : List Int) (i k x : Nat) : Int := if x ∈ (orbN xs i).take k then (rankN xs i : Int) else nameN xs i x

theorem halfN_zero (xs : List Int) (i : Nat) : halfN xs i 0 = nameN xs i := by
  funext x; simp [halfN]
theorem halfN_end {xs : List Int} (hp : IsPerm xs) {i : Nat} (hi : i < xs.length) (h : leadN xs i = i) : iRow (halfN xs i (perN xs i)) xs.length = iRow (nameN xs (i + 1)) xs.length := by
  refine iRow_congr fun x hx => ?_
  rw [nameN_step_lead hp hi h hx]
  unfold halfN
  rw [← orbN_len xs i, List.take_length]
theorem halfN_set {xs : List Int} {i k y : Nat} (h : (orbN xs i)[k]? = some y) (m : Nat) : (iRow (halfN xs i k) m).set y (.int .i64 (rankN xs i : Nat)) = iRow (halfN xs i (k + 1)) m := by
  obtain ⟨hk, hy⟩ := List.getElem?_eq_some_iff.1 h
  have ht : (orbN xs i).take (k + 1) = (orbN xs i).take k ++ [y] := by rw [List.take_succ_eq_append_getElem hk, hy]
  have h1 : halfN xs i (k + 1) y = (rankN xs i : Int) := by
    unfold halfN
    rw [if_pos (by rw [ht]; simp)]
  rw [← h1]
  refine iRow_set _ _ m y fun j _ hj => ?_
  unfold halfN
  rw [ht]
  by_cases hm : j ∈ (orbN xs i).take k
  · rw [if_pos hm, if_pos (List.mem_append_left _ hm)]
  · rw [if_neg hm, if_neg]
    intro hc
    rcases List.mem_append.1 hc with hc | hc
    · exact hm hc
    · simp at hc; exact hj hc

end Go.Proofs.Ytoipbbobkllddaa

