/- pack.GetNum. -/
import Derived.Test.YtgmgbgjghncipaaPackNum
import Derived.Deep.CutRange
namespace Go.Proofs.Ytgmgbgjghncipaa
open Go.RowKit

set_option maxRecDepth 100000 in
theorem andNot_more (b : Nat) (h : b < 256) : IntKind.u64.wrap (bits BinOp.andNot IntKind.u8 (b : Int) 128) = ((b % 128 : Nat) : Int) := by
  have h2 : ∀ x : Fin 256, IntKind.u64.wrap (bits BinOp.andNot IntKind.u8 ((x.val : Nat) : Int) 128) = ((x.val % 128 : Nat) : Int) := by decide
  exact h2 ⟨b, h⟩

theorem shift_back (c i : Nat) (hc : c < 128) (hi : i < 10) : (IntKind.u64.wrap ((c : Int) * 2 ^ (i * 7)) / 2 ^ (i * 7) != (c : Int)) = if 18446744073709551616 ≤ c * 128 ^ i then true else false := by
  have e : ((c : Int) * 2 ^ (i * 7)) = ((c * 128 ^ i : Nat) : Int) := by
    rw [show (128 : Nat) = 2 ^ 7 from rfl, ← Nat.pow_mul, Nat.mul_comm 7 i]; simp
  have e2 : ((2 : Int) ^ (i * 7)) = ((128 ^ i : Nat) : Int) := by
    rw [show (128 : Nat) = 2 ^ 7 from rfl, ← Nat.pow_mul, Nat.mul_comm 7 i]; simp
  rw [e, e2, IntKind.wrap_u64]
  have hp : 0 < 128 ^ i := Nat.pow_pos (by decide)
  split
  · rename_i h
    have h9 : i = 9 := by
      apply Classical.byContradiction
      intro h9
      have h1 : 128 ^ i ≤ 128 ^ 8 := Nat.pow_le_pow_right (by decide) (by omega)
      have h2 : c * 128 ^ i ≤ 127 * 128 ^ 8 := Nat.mul_le_mul (by omega) h1
      have h3 : (127 : Nat) * 128 ^ 8 < 18446744073709551616 := by decide
      omega
    subst h9
    have h3 : (128 : Nat) ^ 9 = 9223372036854775808 := by decide
    rw [h3] at h ⊢
    refine bne_iff_ne.2 ?_
    omega
  · rename_i h
    have e3 : ((c * 128 ^ i : Nat) : Int) % 18446744073709551616 = ((c * 128 ^ i : Nat) : Int) := by omega
    rw [e3, ← Int.natCast_ediv, Nat.mul_div_cancel _ hp]
    simp

theorem or_small (x c i : Nat) (hx : x < 128 ^ i) (hi : i < 10) (hs : c * 128 ^ i < 18446744073709551616) : x + c * 128 ^ i < 18446744073709551616 := by
  have h1 : 18446744073709551616 % 128 ^ i = 0 := by
    have : ∀ j : Fin 10, 18446744073709551616 % 128 ^ j.val = 0 := by decide
    exact this ⟨i, hi⟩
  obtain ⟨m, hm⟩ := Nat.dvd_of_mod_eq_zero h1
  rw [hm] at hs ⊢
  rw [Nat.mul_comm c] at hs ⊢
  have h2 : c < m := Nat.lt_of_mul_lt_mul_left hs
  have h3 : 128 ^ i * (c + 1) ≤ 128 ^ i * m := Nat.mul_le_mul_left _ h2
  rw [Nat.mul_add] at h3
  omega

theorem or_part (x c i : Nat) (hx : x < 128 ^ i) (hx2 : x < 18446744073709551616) (hs : c * 128 ^ i < 18446744073709551616) :
    bits BinOp.or IntKind.u64 (x : Int) (IntKind.u64.wrap ((c : Int) * 2 ^ (i * 7))) = ((x + c * 128 ^ i : Nat) : Int) := by
  have e : ((c : Int) * 2 ^ (i * 7)) = ((c * 128 ^ i : Nat) : Int) := by
    rw [show (128 : Nat) = 2 ^ 7 from rfl, ← Nat.pow_mul, Nat.mul_comm 7 i]; simp
  rw [e, IntKind.wrap_u64]
  have e3 : ((c * 128 ^ i : Nat) : Int) % 18446744073709551616 = ((c * 128 ^ i : Nat) : Int) := by omega
  rw [e3]
  refine (u64_or_nat x (c * 128 ^ i) hx2 hs).trans ?_
  have hp : (128 : Nat) ^ i = 2 ^ (7 * i) := by rw [show (128 : Nat) = 2 ^ 7 from rfl, ← Nat.pow_mul]
  rw [hp] at hx ⊢
  have := Nat.shiftLeft_add_eq_or_of_lt hx c
  rw [Nat.shiftLeft_eq] at this
  rw [Nat.or_comm, ← this, Nat.add_comm]

set_option maxRecDepth 100000 in
set_option maxHeartbeats 2000000 in
theorem getNum_any (w : World) (pv : Value) (p : List Nat) (hp : ∀ x ∈ p, x < 256) (hv : Reads w pv (bytesOf p)) :
    Calls Try.prog 12 #[pv] w fun e w' => w = w' ∧
      ((∃ x, x < 18446744073709551616 ∧ PackP.numB x <+: p ∧ e = .returned (.tuple #[.int .u64 x, .int .i64 ((PackP.numB x).length : Nat), .int .i64 0])) ∨
       ((∀ y, y < 18446744073709551616 → ¬ PackP.numB y <+: p) ∧ e = .returned (.tuple #[.int .u64 0, .int .i64 0, .int .i64 3]))) := by
  obtain ⟨ao, cap, rfl, hcap, hm, hnil, hc⟩ := hv
  rw [bytesOf_len] at *
  have hl : p.length ≤ 9223372036854775807 := by unfold maxLen at hm; omega
  have HK := Lib.hid (PackP.Known.start p)
  have HC := Lib.hid hc
  have HP := Lib.hid hp
  clear hc hnil hm hcap hp
  go_enter Try.func12, Try.ntmps12
  go_wp2_with fail
  go_loopw [5, 11] (fun xv iv wr => ∃ i x : Nat, iv = .int .i64 i ∧ xv = .int .u64 x ∧ x < 18446744073709551616 ∧ i ≤ p.length ∧ i ≤ 10 ∧ PackP.Known p i x ∧ w = wr) (fun _ iv _ => p.length - (intOf iv).toNat)
  case atStart => exact ⟨0, 0, rfl, rfl, by decide, by omega, by omega, HK.out, rfl⟩
  case round =>
    obtain ⟨i, x, rfl, rfl, hx, hi, hi10, hK, rfl⟩ := hrel
    clear HK
    have HK := Lib.hid hK
    clear hK
    by_cases hlt : i < p.length
    · have hb : ∃ b, p[i] = b ∧ b < 256 := ⟨_, rfl, HP.out _ (List.getElem_mem hlt)⟩
      obtain ⟨b, hb, hb256⟩ := hb
      have hpi : (bytesOf p)[i]? = some (.int .u8 (b : Int)) := by simp [bytesOf, hlt, hb]
      rcases HC.out with hc | ⟨bb, off, rfl, hc⟩
      · exfalso; rw [hc] at hpi; simp at hpi
      have cb := hc i _ hpi
      have HB := Lib.hid hb
      clear hc hb hpi
      obtain ⟨c, hc⟩ : ∃ c, b % 128 = c := ⟨_, rfl⟩
      have HAN : Hid (IntKind.u64.wrap (bits BinOp.andNot IntKind.u8 (b : Int) 128) = (c : Int)) := by
        show _ = _
        rw [← hc]
        exact andNot_more b hb256
      have hc128 : c < 128 := by omega
      go_upto_region 6 with fail
      rw [HAN.out]
      go_cut [40] from 12 to 52 (fun tv wx => tv = .bool (decide (10 ≤ i ∨ 18446744073709551616 ≤ c * 128 ^ i ∨ (b = 0 ∧ 0 < i))) ∧ w = wx)
      case first =>
        by_cases h10 : i < 10
        · have d1 : decide (64 ≤ (i : Int) * 7) = false := decide_eq_false (by omega)
          have hsh := shift_back c i hc128 h10
          by_cases hov : 18446744073709551616 ≤ c * 128 ^ i
          · have ho : (IntKind.u64.wrap ((c : Int) * 2 ^ (i * 7)) / 2 ^ (i * 7) != (c : Int)) = true := by rw [hsh, if_pos hov]
            have hbad : (10 ≤ i ∨ 18446744073709551616 ≤ c * 128 ^ i ∨ (b = 0 ∧ 0 < i)) := .inr (.inl hov)
            have HBAD := Lib.hid hbad
            clear hov hsh hbad
            go_wp2_with fail
            go_meet
            exact ⟨congrArg Value.bool (decide_eq_true HBAD.out).symm, rfl⟩
          · have ho : (IntKind.u64.wrap ((c : Int) * 2 ^ (i * 7)) / 2 ^ (i * 7) != (c : Int)) = false := by rw [hsh, if_neg hov]
            by_cases hb0 : b = 0
            · have hb1 : ((b : Int) == 0) = true := beq_iff_eq.2 (by omega)
              by_cases hi0 : 0 < i
              · have hi1 : decide (0 < i) = true := decide_eq_true hi0
                have HBAD : Hid ((10 ≤ i ∨ 18446744073709551616 ≤ c * 128 ^ i ∨ (b = 0 ∧ 0 < i))) := Or.inr (.inr ⟨hb0, hi0⟩)
                clear hov hsh hb0 hi0
                go_wp2_with fail
                go_meet
                exact ⟨congrArg Value.bool (decide_eq_true HBAD.out).symm, rfl⟩
              · have hi1 : decide (0 < i) = false := decide_eq_false hi0
                have HBAD : Hid (¬ (10 ≤ i ∨ 18446744073709551616 ≤ c * 128 ^ i ∨ (b = 0 ∧ 0 < i))) := by
                  show ¬ _
                  rintro (h | h | h) <;> omega
                clear hov hsh hb0 hi0
                go_wp2_with fail
                go_meet
                exact ⟨congrArg Value.bool (decide_eq_false HBAD.out).symm, rfl⟩
            · have hb1 : ((b : Int) == 0) = false := beq_eq_false_iff_ne.2 (by omega)
              have HBAD : Hid (¬ (10 ≤ i ∨ 18446744073709551616 ≤ c * 128 ^ i ∨ (b = 0 ∧ 0 < i))) := by
                show ¬ _
                rintro (h | h | h) <;> omega
              clear hov hsh hb0
              go_wp2_with fail
              go_meet
              exact ⟨congrArg Value.bool (decide_eq_false HBAD.out).symm, rfl⟩
        · have d1 : decide (64 ≤ (i : Int) * 7) = true := decide_eq_true (by omega)
          have HBAD : Hid ((10 ≤ i ∨ 18446744073709551616 ≤ c * 128 ^ i ∨ (b = 0 ∧ 0 < i))) := Or.inl (by omega)
          go_wp2_with fail
          go_meet
          exact ⟨congrArg Value.bool (decide_eq_true HBAD.out).symm, rfl⟩
      case rest =>
        obtain ⟨rfl, rfl⟩ := hcut
        by_cases hbad : (10 ≤ i ∨ 18446744073709551616 ≤ c * 128 ^ i ∨ (b = 0 ∧ 0 < i))
        · have db : decide (10 ≤ i ∨ 18446744073709551616 ≤ c * 128 ^ i ∨ (b = 0 ∧ 0 < i)) = true := decide_eq_true hbad
          rw [db]
          have HN : Hid (∀ y, y < 18446744073709551616 → ¬ PackP.numB y <+: p) := by
            intro y hy
            rcases hbad with h | h | h
            · exact HK.out.long h y hy
            · exact HK.out.bad hlt b HB.out (.inl (by rw [hc]; exact h)) y hy
            · exact HK.out.bad hlt b HB.out (.inr h) y hy
          clear hbad db
          go_wp2_with fail
          go_ret3
          exact ⟨rfl, .inr ⟨HN.out, rfl⟩⟩
        · have db : decide (10 ≤ i ∨ 18446744073709551616 ≤ c * 128 ^ i ∨ (b = 0 ∧ 0 < i)) = false := decide_eq_false hbad
          rw [db]
          have hs : c * 128 ^ i < 18446744073709551616 := by omega
          have h10 : i < 10 := by omega
          have HOR := Lib.hid (or_part x c i HK.out.low hx hs)
          have hlow := HK.out.low
          by_cases hb1 : b < 128
          · have hcb : c = b := by omega
            have HF : Hid (PackP.numB (x + c * 128 ^ i) <+: p ∧ (PackP.numB (x + c * 128 ^ i)).length = i + 1) := by
              rw [hcb]
              exact HK.out.found hlt b HB.out hb1 (by omega)
            have HXX : Hid (x + c * 128 ^ i < 18446744073709551616) := or_small x c i HK.out.low h10 hs
            have d2 : decide ((b : Int) < 128) = true := decide_eq_true (by omega)
            clear hbad db hcb hs hlow
            go_wp2_with fail
            go_ret3
            exact ⟨rfl, .inl ⟨_, HXX.out, HF.out.1, by rw [HOR.out, HF.out.2]; rfl⟩⟩
          · have hcb : c = b - 128 := by omega
            have HF : Hid (PackP.Known p (i + 1) (x + c * 128 ^ i)) := by
              rw [hcb]
              exact HK.out.next hlt b HB.out (by omega) hb256
            have HXX : Hid (x + c * 128 ^ i < 18446744073709551616) := or_small x c i HK.out.low h10 hs
            have d2 : decide ((b : Int) < 128) = false := decide_eq_false (by omega)
            clear hbad db hcb hs hlow
            go_wp2_with fail
            go_roundw
            case rel =>
              exact ⟨i + 1, x + c * 128 ^ i, by go_num, congrArg (Value.int .u64) HOR.out, HXX.out, by omega, by omega, HF.out, by first | rfl | trivial⟩
            case measure => simp [intOf]; omega
    · go_wp2_with fail
      go_ret3
      exact ⟨rfl, .inr ⟨fun y _ => HK.out.ended (by omega) y, rfl⟩⟩
end Go.Proofs.Ytgmgbgjghncipaa

