/- Lists of lists of bytes that came in. -/
import Derived.Test.YtgmgbgjghncipaaOpen
import Derived.Deep.Matrix
namespace Go.Proofs.Ytgmgbgjghncipaa
open Go.RowKit

/-- A slice of slices of integers that came in. -/
def IsGrid (k : IntKind) (w : World) (a : Option Addr) (len cap : Nat) (A : Nat → Option Addr) (L C : Nat → Nat) (Z : Nat → List Int) : Prop :=
  (a = none ∧ len = 0 ∧ cap = 0) ∨
  ∃ x, a = some x ∧ len ≤ cap ∧ cap ≤ maxLen ∧ ∀ r, r < cap → w.cell? (x.add r) = some (.slice (A r) (L r) (C r)) ∧ IsRow k w (A r) (L r) (C r) (Z r)

/-- A slice that reads as lists of bytes. -/
def ReadsGrid (w : World) (v : Value) (ls : List (List Nat)) : Prop :=
  ∃ vs : List Value, vs.length = ls.length ∧ Reads w v vs ∧
    ∀ (r : Nat) (l : List Nat), ls[r]? = some l → (∀ x ∈ l, x < 256) ∧ l.length ≤ maxLen ∧ ∃ (a : Option Addr) (cap : Nat), vs[r]? = some (Value.slice a l.length cap) ∧ Reads w (Value.slice a l.length cap) (bytesOf l)

theorem IsGrid.bytes {w : World} {a : Option Addr} {len cap : Nat} {A : Nat → Option Addr} {L C : Nat → Nat} {Z : Nat → List Int} (h : IsGrid .u8 w a len cap A L C Z) :
    ∃ ls : List (List Nat), ls.length = len ∧ ReadsGrid w (.slice a len cap) ls ∧ len ≤ maxLen := by
  rcases h with ⟨rfl, rfl, rfl⟩ | ⟨x, rfl, hl, hm, hr⟩
  · exact ⟨[], rfl, ⟨[], rfl, Reads.nil w, by simp⟩, by decide⟩
  · have hex : ∀ r, ∃ l : List Nat, r < cap → l.length = L r ∧ (∀ x ∈ l, x < 256) ∧ Reads w (.slice (A r) (L r) (C r)) (bytesOf l) ∧ L r ≤ maxLen := by
      intro r
      by_cases hrc : r < cap
      · obtain ⟨l, h1, h2, h3, h4⟩ := (hr r hrc).2.bytes
        exact ⟨l, fun _ => ⟨h1, h2, h3, h4⟩⟩
      · exact ⟨[], fun h => absurd h hrc⟩
    obtain ⟨f, hf⟩ := Classical.axiomOfChoice hex
    refine ⟨(List.range len).map f, by simp, ⟨(List.range len).map fun r => Value.slice (A r) (L r) (C r), by simp, ?_, ?_⟩, by omega⟩
    · refine ⟨some x, cap, by simp, by simpa using hl, hm, by simp, ?_⟩
      by_cases h0 : len = 0
      · left; simp [h0]
      · right
        obtain ⟨b, off, spot⟩ := x
        have h1 := (hr 0 (by omega)).1
        have hspot : spot = none := by simpa [Addr.add] using World.cell?_spot h1
        subst hspot
        refine ⟨b, off, rfl, fun j u hu => ?_⟩
        simp only [List.getElem?_map, Option.map_eq_some_iff] at hu
        obtain ⟨i, hi, rfl⟩ := hu
        have hj : j < len := by
          have := (List.getElem?_eq_some_iff.1 hi).1
          simpa using this
        have : i = j := by rw [List.getElem?_range hj] at hi; simpa using hi.symm
        subst this
        have h2 := (hr i (by omega)).1
        have ha : (⟨b, off, none⟩ : Addr).add i = ⟨b, off + i, none⟩ := by unfold Addr.add; split <;> simp_all
        rw [ha] at h2
        exact h2
    · intro r l hl'
      simp only [List.getElem?_map, Option.map_eq_some_iff] at hl'
      obtain ⟨i, hi, rfl⟩ := hl'
      have hj : r < len := by
        have := (List.getElem?_eq_some_iff.1 hi).1
        simpa using this
      have : i = r := by rw [List.getElem?_range hj] at hi; simpa using hi.symm
      subst this
      obtain ⟨h1, h2, h3, h4⟩ := hf i (by omega)
      refine ⟨h2, by rw [h1]; exact h4, A i, C i, ?_, ?_⟩
      · rw [List.getElem?_map, List.getElem?_range hj, h1]; rfl
      · rw [h1]; exact h3

theorem ReadsGrid.below {w w' : World} {v : Value} {ls : List (List Nat)} (h : ReadsGrid w v ls) (hb : Below w.heap.size w w') : ReadsGrid w' v ls := by
  obtain ⟨vs, h1, h2, h3⟩ := h
  refine ⟨vs, h1, h2.below hb, fun r l hl => ?_⟩
  obtain ⟨g1, g2, a, cap, g3, g4⟩ := h3 r l hl
  exact ⟨g1, g2, a, cap, g3, g4.below hb⟩

/-- The row number r, where there is one. -/
theorem ReadsGrid.get {w : World} {a : Option Addr} {len cap : Nat} {ls : List (List Nat)} (h : ReadsGrid w (.slice a len cap) ls) (r : Nat) (hr : r < ls.length) :
    ∃ b off a' cap', a = some ⟨b, off, none⟩ ∧ w.cell? ⟨b, off + r, none⟩ = some (.slice a' (ls[r]).length cap') ∧ Reads w (.slice a' (ls[r]).length cap') (bytesOf ls[r]) ∧ (∀ x ∈ ls[r], x < 256) ∧ (ls[r]).length ≤ maxLen := by
  obtain ⟨vs, h1, h2, h3⟩ := h
  obtain ⟨g1, g2, a', cap', g3, g4⟩ := h3 r ls[r] (List.getElem?_eq_getElem hr)
  obtain ⟨ao, c, he, _, _, _, hc⟩ := h2
  simp only [Value.slice.injEq] at he
  obtain ⟨rfl, rfl, rfl⟩ := he
  rcases hc with hc | ⟨b, off, rfl, hc⟩
  · subst hc; simp at h1; omega
  · exact ⟨b, off, a', cap', rfl, hc r _ g3, g4, g1, g2⟩

/-- What the reader of such an argument finds. -/
theorem grid_of_trod {H : Type} {enc : TypeId × Value → H} {P : Program} {W : World} {t e q : TypeId} {k : IntKind} {fuel : Nat} {a0 : Option Addr} {len0 cap0 : Nat} {held : Bool} {x : DataW H × List MemPlace}
    (ht : P.underlying t = some (.slice e)) (he : P.underlying e = some (.slice q)) (hq : P.underlying q = some (.int k)) (ce : P.cellsOf e = 1) (cq : P.cellsOf q = 1)
    (hf : DataW.trod enc P W 0 (fun _ => true) held fuel t (Value.slice a0 len0 cap0).cells.toList = some x) :
    ∃ A L C Z, IsGrid k W a0 len0 cap0 A L C Z := by
  rcases Deep.open_int_rows ht he hq ce cq hf with ⟨hcs, _⟩ | ⟨x', l, c, A, L, C, Z, hcs, _, hl, hm, _, hrows⟩
  · simp [Value.cells] at hcs
    obtain ⟨rfl, rfl, rfl⟩ := hcs
    exact ⟨fun _ => none, fun _ => 0, fun _ => 0, fun _ => [], .inl ⟨rfl, rfl, rfl⟩⟩
  · simp [Value.cells] at hcs
    obtain ⟨rfl, rfl, rfl⟩ := hcs
    refine ⟨A, L, C, Z, .inr ⟨_, rfl, hl, hm, fun r hr => ?_⟩⟩
    obtain ⟨h1, h2, h3, h4, h5, h6, h7⟩ := hrows r hr
    refine ⟨h1, ?_⟩
    cases hA : A r with
    | none =>
      have := h6 hA
      exact .inl ⟨rfl, by omega, this, List.eq_nil_of_length_eq_zero (by omega)⟩
    | some a' => exact .inr ⟨a', rfl, h2, h3, h4, fun i hi => (h7 a' hA).2 i (by omega), h5⟩
end Go.Proofs.Ytgmgbgjghncipaa

