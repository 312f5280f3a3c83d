/- The contract of the reference's Four. -/
import Derived.Test.YtgpdkobefnhfiaaCloneSt
namespace Go.Proofs.Ytgpdkobefnhfiaa
open Go.RowKit

def four (x : Nat) : List Nat := [x % 256, x / 256 % 256, x / 65536 % 256, x / 16777216 % 256]

theorem four_take (x k : Nat) (hk : k < 4) : (four x).take (k + 1) = (four x).take k ++ [x / 256 ^ k % 256] := by
  have : k = 0 ∨ k = 1 ∨ k = 2 ∨ k = 3 := by omega
  rcases this with rfl | rfl | rfl | rfl <;> simp [four]

theorem four_lt (x : Nat) : ∀ b ∈ four x, b < 256 := by
  intro b hb
  simp only [four, List.mem_cons, List.not_mem_nil, or_false] at hb
  omega

set_option maxHeartbeats 400000 in
theorem four_any (x : Nat) (w : World) (hx : x < 4294967296) :
    Calls Try.prog 10 #[.int .u32 x] w fun e w' => ∃ v', e = .returned v' ∧ w'.ownsRow w.heap.size 5 1 v' 4 (bytesOf (four x)) ∧ Keeps [] w w' := by
  obtain ⟨i0, hi, hz0, hz1, hz2⟩ := info_parts info_u8
  go_enter Try.func10, Try.ntmps10
  go_wp2
  go_loopw [0, 3, 4] (fun y v i wr => ∃ k : Nat, k ≤ 4 ∧ i = .int .i64 k ∧ y = .int .u32 ((x / 256 ^ k : Nat) : Int) ∧ wr.ownsRow w.heap.size 5 1 v k (bytesOf ((four x).take k)) ∧ Keeps [] w wr) (fun _ _ i _ => 4 - (intOf i).toNat)
  case atStart => exact ⟨0, by omega, rfl, by simp, World.ownsRow_nil _ _ _ _, Keeps.refl _ _⟩
  case round =>
    obtain ⟨k, hk, rfl, rfl, hown, hkeep⟩ := hrel
    by_cases hlt : k < 4
    · have hy : x / 256 ^ k < 4294967296 := Nat.lt_of_le_of_lt (Nat.div_le_self _ _) hx
      have ht := four_take x k hlt
      have hdiv : x / 256 ^ (k + 1) = x / 256 ^ k / 256 := by rw [Nat.pow_succ, Nat.div_div_eq_div_mul]
      generalize hq : x / 256 ^ k = q at hy ht hdiv ⊢
      have HT := Lib.hid ht
      have HD := Lib.hid hdiv
      have HO := Lib.hid hown
      have hsz := hkeep.size
      clear ht hdiv hq hown
      go_wp2_with (at_builtin; refine wpList_append_own _ rfl _ _ 22 rfl w.heap.size 5 i0 (.int .u8 0) 1 1 Try.underlying22 hi hz0 hz1 hz2 rfl (by decide) _ _ _ rfl (HO.out.alloc _) ⟨wr.heap.size, 0, none⟩ 1 1 [.int .u8 ((q : Int) % 256)] rfl rfl ?c1 ?c2 ?c3 ?c4 ?c5 ?_)
      case c1 => exact cell_one_new _ _ _
      case c2 => intro u hu; simp at hu; subst hu; rfl
      case c3 => unfold maxLen; omega
      case c4 => omega
      case c5 => simp; omega
      intro v' w1 hown' hgrow _
      have HK := Lib.hid (((hkeep.alloc _).grown hgrow (by
        intro g hg
        have := HO.out.lt g hg
        right
        exact this.1)))
      have HO' := Lib.hid hown'
      clear hown' hgrow
      go_wp2
      go_roundw
      case rel =>
        refine ⟨k + 1, by omega, by go_num, ?_, ?_, HK.out⟩
        · rw [HD.out]; rfl
        · rw [HT.out, bytesOf_append]
          exact HO'.out
      case measure => simp [intOf]; omega
    · go_wp2
      go_ret
      have : k = 4 := by omega
      subst this
      exact ⟨_, rfl, hown, hkeep⟩
end Go.Proofs.Ytgpdkobefnhfiaa
