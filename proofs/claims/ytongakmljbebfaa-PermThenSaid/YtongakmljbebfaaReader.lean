/- The contracts of bits.Read, Reader.Left, Reader.Num. -/
import Derived.Test.YtongakmljbebfaaCloneMore
import Derived.Deep.RegionHeld3
namespace Go.Proofs.Ytongakmljbebfaa
open Go.RowKit

set_option maxRecDepth 100000 in
theorem oneCell_words (l : List Bool) : ∀ u ∈ words l, u.oneCell' = true := by
  intro u hu
  obtain ⟨x, _, rfl⟩ := List.mem_map.1 hu
  rfl

theorem num_take_succ (m : List Bool) (j : Nat) (h : j < m.length) : BitsP.num (m.take (j + 1)) = BitsP.num (m.take j) ||| ((m.getD j false).toNat <<< j) := by
  have e : m.take (j + 1) = m.take j ++ [m.getD j false] := by
    rw [List.take_succ_eq_append_getElem h]; simp [List.getD_eq_getElem?_getD, h]
  have hl : (m.take j).length = j := by simp; omega
  have hlt := BitsP.num_lt (m.take j)
  rw [e, BitsP.num_append, hl]
  rw [hl] at hlt
  have h1 : BitsP.num [m.getD j false] = (m.getD j false).toNat := by simp [BitsP.num]
  rw [h1, Nat.shiftLeft_eq, Nat.or_comm, nat_join j _ _ (by simp) hlt, Nat.add_comm, Nat.mul_comm]

end Go.Proofs.Ytongakmljbebfaa

