/- The walk of BitsReads. -/
import Derived.Test.YtgmgbgjghncipaaOf
namespace Go.Proofs.Ytgmgbgjghncipaa
open Go.RowKit

/-- ints that came in -/
theorem IsRow.ints {w : World} {a : Option Addr} {len cap : Nat} {zs : List Int} (h : IsRow .i64 w a len cap zs) :
    ∃ l : List Int, l.length = len ∧ (∀ x ∈ l, -9223372036854775808 ≤ x ∧ x < 9223372036854775808) ∧ Reads w (.slice a len cap) (intsOf l) ∧ len ≤ maxLen := by
  obtain ⟨h1, h2, h3, h4, h5⟩ := h.reads
  exact ⟨zs.take len, h2, fun x hx => wf_i64 (h4 x hx), h1, h3⟩

theorem St.readsCell {w0 w : World} {os : List Thing} {b : Nat} {c : Array Value} {E : TypeId} {fz : Nat × Nat} (h : St w0 w (cellT b (.cells c E fz) :: os)) (n : Nat) (hn : c.size = n) (hm : n ≤ maxLen) :
    Reads w (.slice (some ⟨b, 0, none⟩) n n) c.toList := by
  refine ⟨_, n, by simp [hn], by simp [hn], hm, by simp, .inr ⟨b, 0, rfl, fun i u hu => ?_⟩⟩
  rw [Nat.zero_add, h.cellAt i]
  simpa using hu

theorem fewOf_len (p : List Nat) (most : Nat) : (fewOf p most).length ≤ most := by
  unfold fewOf; rw [List.length_take]; omega

theorem intsOf_drop (l : List Bool) (k : Nat) : (intsOf (bitsOf l)).drop k = intsOf (bitsOf (l.drop k)) := by simp [intsOf, bitsOf, List.map_drop]
theorem intsOf_take (l : List Bool) (k : Nat) : (intsOf (bitsOf l)).take k = intsOf (bitsOf (l.take k)) := by simp [intsOf, bitsOf, List.map_take]

end Go.Proofs.Ytgmgbgjghncipaa

