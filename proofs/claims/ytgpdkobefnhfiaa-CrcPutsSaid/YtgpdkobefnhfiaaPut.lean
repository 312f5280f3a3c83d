/- The contracts of crc.Put and crc.Get. -/
import Derived.Test.YtgpdkobefnhfiaaFour
import Derived.Test.YtgpdkobefnhfiaaStep
namespace Go.Proofs.Ytgpdkobefnhfiaa
open Go.RowKit

theorem bytesOf_four (x : Nat) (hx : x < 4294967296) : bytesOf (four x) = [.int .u8 ((x : Int) % 256), .int .u8 ((x : Int) / 256 % 256), .int .u8 ((x : Int) / 65536 % 256), .int .u8 ((x : Int) / 16777216)] := by
  simp only [bytesOf, four, List.map_cons, List.map_nil]
  congr 1
  congr 1
  congr 1
  congr 1
  congr 1
  omega

set_option maxHeartbeats 400000 in
theorem put_any (a : Option Addr) (n cap : Nat) (l : List Nat) (x : Nat) (w : World) (hv : Reads w (.slice a n cap) (bytesOf l)) (hx : x < 4294967296) (hn : n ≤ 1000) :
    Calls Try.prog 18 #[.slice a n cap, .int .u32 x] w fun e w' => ∃ v', e = .returned v' ∧ w'.ownsRow w.heap.size 5 1 v' (n + 4) (bytesOf (l ++ four x)) ∧ Keeps [] w w' := by
  obtain ⟨i0, hi, hz0, hz1, hz2⟩ := info_parts info_u8
  have hcap := hv.len_le
  have HV := Lib.hid (hv.shrink)
  have HM := Lib.hid (Reads.made w #[.int .u8 ((x : Int) % 256), .int .u8 ((x : Int) / 256 % 256), .int .u8 ((x : Int) / 65536 % 256), .int .u8 ((x : Int) / 16777216)] 5 (0, 0) 4 (by simp) (by decide))
  clear hv
  go_enter Try.func18, Try.ntmps18
  go_wp2_with (at_builtin; refine wpList_append_fresh rfl _ _ 22 rfl 5 i0 (.int .u8 0) 1 Try.underlying22 hi hz0 hz1 hz2 rfl a n _ (bytesOf l) _ rfl rfl (HV.out.below ((Below.refl _ _).alloc (Nat.le_refl _) _)) HM.out (Nat.succ_pos 3) ?c1 ?c2 ?_)
  case c1 => show n + 4 ≤ maxLen; unfold maxLen; omega
  case c2 => omega
  intro v' w' hown hk
  have HO := Lib.hid hown
  clear hown
  go_wp2
  go_ret
  refine ⟨_, rfl, ?_, ((Keeps.refl [] w).alloc _).trans hk (by simp)⟩
  have := HO.out
  rw [bytesOf_append, bytesOf_four x hx]
  exact ownsRow_base this (by simp)

def val4 (a b c d : Nat) : Nat := a + 256 * b + 65536 * c + 16777216 * d

theorem ret_two {k k' : IntKind} {a b c d : Int} (h : a = b) (h' : c = d) : Ending.returned (.tuple #[.int k a, .int k' c]) = .returned (.tuple #[.int k b, .int k' d]) := by rw [h, h']

theorem or_low (x y i : Nat) (hx : x < 2 ^ i) (hy : x + 2 ^ i * y < 4294967296) : bits BinOp.or IntKind.u32 (x : Int) (((y * 2 ^ i : Nat)) : Int) = ((x + 2 ^ i * y : Nat) : Int) := by
  have h1 : y * 2 ^ i = 2 ^ i * y := Nat.mul_comm _ _
  rw [h1, u32_or_nat x (2 ^ i * y) (by omega) (by omega), Nat.or_comm, nat_join i (2 ^ i * y) x (by simp) hx, Nat.add_comm]

set_option maxHeartbeats 400000 in
theorem get_four (v : Value) (a b c d : Nat) (w : World) (hv : Reads w v (bytesOf [a, b, c, d])) (ha : a < 256) (hb : b < 256) (hc : c < 256) (hd : d < 256) :
    Calls Try.prog 19 #[v] w fun e w' => e = .returned (.tuple #[.int .u32 (val4 a b c d : Nat), .int .i64 0]) ∧ Keeps [] w w' := by
  obtain ⟨ao, cap, rfl, hl, hm, _, h0⟩ := hv
  rcases h0 with h0 | ⟨bb, off, rfl, h0⟩
  · simp [bytesOf] at h0
  have c0 : w.cell? ⟨bb, off, none⟩ = some (.int .u8 a) := h0 0 _ rfl
  have c1 : w.cell? ⟨bb, off + 1, none⟩ = some (.int .u8 b) := h0 1 _ rfl
  have c2 : w.cell? ⟨bb, off + 2, none⟩ = some (.int .u8 c) := h0 2 _ rfl
  have c3 : w.cell? ⟨bb, off + 3, none⟩ = some (.int .u8 d) := h0 3 _ rfl
  have hl4 : (bytesOf [a, b, c, d]).length = 4 := rfl
  rw [hl4] at hl ⊢
  clear h0 hl4
  go_enter Try.func19, Try.ntmps19
  go_wp2
  go_quiet (fail)
  go_wp2
  go_ret2
  refine ⟨?_, Keeps.drewN w nq⟩
  refine ret_two ?_ rfl
  have e1 : bits BinOp.or IntKind.u32 (a : Int) ((b : Int) * 256) = ((a + 256 * b : Nat) : Int) := by
    have := or_low a b 8 ha (by omega)
    simpa using this
  have e2 : bits BinOp.or IntKind.u32 ((a + 256 * b : Nat) : Int) ((c : Int) * 65536) = ((a + 256 * b + 65536 * c : Nat) : Int) := by
    have := or_low (a + 256 * b) c 16 (by omega) (by omega)
    simpa using this
  have e3 : bits BinOp.or IntKind.u32 ((a + 256 * b + 65536 * c : Nat) : Int) ((d : Int) * 16777216) = ((a + 256 * b + 65536 * c + 16777216 * d : Nat) : Int) := by
    have := or_low (a + 256 * b + 65536 * c) d 24 (by omega) (by omega)
    simpa using this
  rw [e1, e2, e3]
  rfl

theorem get_other (v : Value) (l : List Nat) (w : World) (hv : Reads w v (bytesOf l)) (h4 : l.length ≠ 4) :
    Calls Try.prog 19 #[v] w fun e w' => e = .returned (.tuple #[.int .u32 0, .int .i64 3]) ∧ w = w' := by
  obtain ⟨ao, cap, rfl, hl, hm, _, h0⟩ := hv
  rw [bytesOf_len] at hl ⊢
  clear h0
  have h4' : (!((l.length : Int) == 4)) = true := by
    rw [beq_eq_false_iff_ne.2 (by omega)]; rfl
  go_enter Try.func19, Try.ntmps19
  go_wp2
  go_ret2
  exact ⟨rfl, rfl⟩
end Go.Proofs.Ytgpdkobefnhfiaa
