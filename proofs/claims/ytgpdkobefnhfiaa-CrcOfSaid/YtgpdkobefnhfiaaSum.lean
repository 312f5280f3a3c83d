/- The contracts of crc.Sum's methods and of crc.Of. -/
import Derived.Test.YtgpdkobefnhfiaaOpen
import Derived.Test.YtgpdkobefnhfiaaStep
namespace Go.Proofs.Ytgpdkobefnhfiaa
open Go.RowKit

def sumObj (r : Nat) (n : Nat) : Obj := .cells #[.int .u32 r, .int .i64 n] 45 (0, 0)

theorem new_any (w : World) : Calls Try.prog 12 #[] w fun e w' => e = .returned (.pointer (some ⟨w.heap.size, 0, none⟩)) ∧ w' = w.alloc (sumObj 0 0) := by
  go_enter Try.func12, Try.ntmps12
  go_wp2
  go_ret
  exact ⟨rfl, rfl⟩

theorem value_any (b r n : Nat) (w : World) (h : w.heap[b]? = some (sumObj r n)) :
    Calls Try.prog 14 #[.pointer (some ⟨b, 0, none⟩)] w fun e w' => e = .returned (.int .u32 r) ∧ w = w' := by
  have c0 : w.cell? ⟨b, 0, none⟩ = some (.int .u32 r) := by simp [World.cell?, h, sumObj]
  go_enter Try.func14, Try.ntmps14
  go_wp2
  go_ret
  exact ⟨rfl, rfl⟩

theorem len_any (b r n : Nat) (w : World) (h : w.heap[b]? = some (sumObj r n)) :
    Calls Try.prog 17 #[.pointer (some ⟨b, 0, none⟩)] w fun e w' => e = .returned (.int .i64 n) ∧ w = w' := by
  have c0 : w.cell? ⟨b, 1, none⟩ = some (.int .i64 n) := by simp [World.cell?, h, sumObj]
  go_enter Try.func17, Try.ntmps17
  go_wp2
  go_ret
  exact ⟨rfl, rfl⟩

theorem copy_any (b r n : Nat) (w : World) (h : w.heap[b]? = some (sumObj r n)) :
    Calls Try.prog 13 #[.pointer (some ⟨b, 0, none⟩)] w fun e w' => e = .returned (.pointer (some ⟨w.heap.size, 0, none⟩)) ∧ w' = (w.alloc (sumObj r n)).drew := by
  have c0 : w.cell? ⟨b, 0, none⟩ = some (.int .u32 r) := by simp [World.cell?, h, sumObj]
  have c1 : w.cell? ⟨b, 1, none⟩ = some (.int .i64 n) := by simp [World.cell?, h, sumObj]
  go_enter Try.func13, Try.ntmps13
  go_wp2
  go_region
  go_wp2
  go_ret
  exact ⟨rfl, rfl⟩

theorem value_nil (w : World) : Calls Try.prog 14 #[.pointer none] w fun e w' => e = .returned (.int .u32 0) ∧ w = w' := by
  go_enter Try.func14, Try.ntmps14
  go_wp2
  go_ret
  exact ⟨rfl, rfl⟩
theorem len_nil (w : World) : Calls Try.prog 17 #[.pointer none] w fun e w' => e = .returned (.int .i64 0) ∧ w = w' := by
  go_enter Try.func17, Try.ntmps17
  go_wp2
  go_ret
  exact ⟨rfl, rfl⟩
theorem copy_nil (w : World) : Calls Try.prog 13 #[.pointer none] w fun e w' => e = .returned (.pointer none) ∧ w = w' := by
  go_enter Try.func13, Try.ntmps13
  go_wp2
  go_ret
  exact ⟨rfl, rfl⟩
theorem add_nil (v : Value) (w : World) : Calls Try.prog 15 #[.pointer none, v] w fun e w' => e = .returned (.tuple #[]) ∧ w = w' := by
  go_enter Try.func15, Try.ntmps15
  go_wp2
  refine bodyPost_ret (v := .tuple #[]) (by simp [results, Try.results15, go_sem]) rfl ?_
  exact ⟨rfl, rfl⟩
end Go.Proofs.Ytgpdkobefnhfiaa
