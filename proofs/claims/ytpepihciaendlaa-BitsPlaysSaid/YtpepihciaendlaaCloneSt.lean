/- slices.Clone at bytes, in the state of a law's memory. -/
import Derived.Test.YtpepihciaendlaaClone
import Derived.Test.YtpepihciaendlaaThings
namespace Go.Proofs.Ytpepihciaendlaa
open Go.RowKit

theorem oneCell_bytes (l : List Nat) : ∀ u ∈ bytesOf l, u.oneCell' = true := by
  intro u hu
  obtain ⟨x, _, rfl⟩ := List.mem_map.1 hu
  rfl

theorem bytesOf_append (l m : List Nat) : bytesOf (l ++ m) = bytesOf l ++ bytesOf m := by simp [bytesOf]

theorem cloneBytes_st {w0 w : World} {os : List Thing} (h : St w0 w os) (v : Value) (l : List Nat) (hv : Reads w v (bytesOf l)) (hb : l.length ≤ 140737488355328) :
    Calls Try.prog 23 #[v] w fun e w' => ∃ a cap, e = .returned (.slice a l.length cap) ∧ St w0 w' (rowT 5 (.slice a l.length cap) (bytesOf l) :: os) ∧ Keeps [] w w' ∧ l.length ≤ cap :=
  (cloneBytes_any v _ w hv (oneCell_bytes l) (by rw [bytesOf_len]; exact hb)).mono fun e w' ⟨v', he, ho, hk⟩ => by
    obtain ⟨a, cap, rfl, hc, _⟩ := ownsRow_slice ho
    rw [bytesOf_len] at *
    exact ⟨a, cap, he, h.newRow hk ho, hk, hc⟩
end Go.Proofs.Ytpepihciaendlaa

