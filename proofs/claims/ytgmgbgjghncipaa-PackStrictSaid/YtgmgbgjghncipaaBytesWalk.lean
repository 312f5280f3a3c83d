/- The walk of BitsBytes. -/
import Derived.Test.YtgmgbgjghncipaaBitsOf
import Derived.Test.YtgmgbgjghncipaaReadsWalk
namespace Go.Proofs.Ytgmgbgjghncipaa
open Go.RowKit

/-- bits.Of, in one -/
theorem bitsOf_all {w0 w : World} {os : List Thing} (h : St w0 w os) (a : Option Addr) (cap : Nat) (p : List Nat) (hp : ∀ x ∈ p, x < 256) (n : Int) (hlen : p.length < 1099511627)
    (hv : ∀ w' o, St w0 w' (o :: os) → Reads w' (.slice a p.length cap) (bytesOf p)) :
    Calls Try.prog 36 #[.slice a p.length cap, .int .i64 n] w fun e w' => ∃ (pv : Value) (ev : Int) (OS : List Thing), e = .returned (.tuple #[pv, .int .i64 ev]) ∧ St w0 w' (OS ++ os) ∧
      (((n < 0 ∨ 8 * (p.length : Int) < n ∨ 8 ≤ 8 * (p.length : Int) - n) ∧ pv = .pointer none ∧ ev = 1) ∨
       (∃ k : Nat, n = k ∧ k ≤ 8 * p.length ∧ 8 * p.length < k + 8 ∧ ((bytesB (fewOf p k) ≠ p ∧ pv = .pointer none ∧ ev = 3) ∨
         (bytesB (fewOf p k) = p ∧ ev = 0 ∧ ∃ b v, pv = .pointer (some ⟨b, 0, none⟩) ∧ OS = [vecT b v (fewOf p k)])))) := by
  by_cases hb : n < 0 ∨ 8 * (p.length : Int) < n ∨ 8 ≤ 8 * (p.length : Int) - n
  · refine (bitsOf_range a p.length cap n (by omega) hb w).mono ?_
    rintro e w' ⟨rfl, rfl⟩
    exact ⟨_, _, [], rfl, h, .inl ⟨hb, rfl, rfl⟩⟩
  · obtain ⟨k, rfl⟩ : ∃ k : Nat, n = k := ⟨n.toNat, by omega⟩
    refine (bitsOf_main h _ p hp k (by omega) (by omega) hlen hv).mono ?_
    rintro e w' (⟨h1, b, v, rfl, h2⟩ | ⟨h1, rfl, h2⟩)
    · exact ⟨_, _, [_], rfl, h2, .inr ⟨k, rfl, by omega, by omega, .inr ⟨h1, rfl, b, v, rfl, rfl⟩⟩⟩
    · exact ⟨_, _, [], rfl, h2, .inr ⟨k, rfl, by omega, by omega, .inl ⟨h1, rfl, rfl⟩⟩⟩

theorem bytesOf_set (l : List Nat) (j x : Nat) : bytesOf (l.set j x) = (bytesOf l).set j (.int .u8 (x : Int)) := by
  unfold bytesOf; rw [List.map_set]

theorem set_lt (l : List Nat) (hl : ∀ x ∈ l, x < 256) (j x : Nat) (hx : x < 256) : ∀ y ∈ l.set j x, y < 256 := by
  intro y hy
  rcases List.mem_or_eq_of_mem_set hy with h | h
  · exact hl y h
  · omega

end Go.Proofs.Ytgmgbgjghncipaa

