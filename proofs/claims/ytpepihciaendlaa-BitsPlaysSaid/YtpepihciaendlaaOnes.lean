/- The contracts of OnesCount64 and Vec.Ones. -/
import Derived.Test.YtpepihciaendlaaPop
import Derived.Test.YtpepihciaendlaaNil
import Derived.Laws.Bits128
namespace Go.Proofs.Ytpepihciaendlaa
open Go.RowKit

theorem u64_and_lit (a b : Nat) (ha : a < 18446744073709551616) (hb : b < 18446744073709551616) : bits BinOp.and IntKind.u64 (a : Int) (b : Int) = ((a &&& b : Nat) : Int) := u64_and_nat a b ha hb

theorem wrapU (n : Nat) (h : n < 18446744073709551616) : IntKind.u64.wrap (n : Int) = (n : Int) := by
  rw [IntKind.wrap_u64]; omega

theorem div_cast (a b : Nat) : ((a : Int) / (b : Int)) = ((a / b : Nat) : Int) := by simp

set_option maxHeartbeats 1000000 in
theorem onesCount_any (x : Nat) (hx : x < 18446744073709551616) (w : World) : Calls Try.prog 41 #[.int .u64 x] w fun e w' => e = .returned (.int .i64 ((BitsP.pop 64 x : Nat) : Int)) ∧ w = w' := by
  obtain ⟨x1, x2, x3, x4, x5, x6, e1, b1, e2, b2, e3, b3, e4, b4, e5, b5, e6, b6, e7⟩ := BitsP.pop_word x hx
  have r1 : IntKind.u64.wrap (bits BinOp.and IntKind.u64 ((x : Int) / 2) 6148914691236517205 + bits BinOp.and IntKind.u64 (x : Int) 6148914691236517205) = (x1 : Int) := by
    have k1 := u64_and_lit (x / 2) 6148914691236517205 (by omega) (by decide)
    have k2 := u64_and_lit x 6148914691236517205 hx (by decide)
    have k3 : ((x : Int) / 2) = ((x / 2 : Nat) : Int) := div_cast x 2
    rw [k3, show (6148914691236517205 : Int) = ((6148914691236517205 : Nat) : Int) from rfl, k1, k2, ← Int.natCast_add, e1, wrapU _ b1]
  have r2 : IntKind.u64.wrap (bits BinOp.and IntKind.u64 ((x1 : Int) / 4) 3689348814741910323 + bits BinOp.and IntKind.u64 (x1 : Int) 3689348814741910323) = (x2 : Int) := by
    have k1 := u64_and_lit (x1 / 4) 3689348814741910323 (by omega) (by decide)
    have k2 := u64_and_lit x1 3689348814741910323 b1 (by decide)
    have k3 : ((x1 : Int) / 4) = ((x1 / 4 : Nat) : Int) := div_cast x1 4
    rw [k3, show (3689348814741910323 : Int) = ((3689348814741910323 : Nat) : Int) from rfl, k1, k2, ← Int.natCast_add, e2, wrapU _ (by omega)]
  have r3 : bits BinOp.and IntKind.u64 (IntKind.u64.wrap ((x2 : Int) / 16 + (x2 : Int))) 1085102592571150095 = (x3 : Int) := by
    have k3 : ((x2 : Int) / 16) = ((x2 / 16 : Nat) : Int) := div_cast x2 16
    have k1 := u64_and_lit (x2 / 16 + x2) 1085102592571150095 (by omega) (by decide)
    rw [k3, ← Int.natCast_add, wrapU _ (by omega), show (1085102592571150095 : Int) = ((1085102592571150095 : Nat) : Int) from rfl, k1, e3]
  have r4 : IntKind.u64.wrap ((x3 : Int) + (x3 : Int) / 256) = (x4 : Int) := by
    rw [show ((x3 : Int) / 256) = ((x3 / 256 : Nat) : Int) from div_cast x3 256, ← Int.natCast_add, e4, wrapU _ (by omega)]
  have r5 : IntKind.u64.wrap ((x4 : Int) + (x4 : Int) / 65536) = (x5 : Int) := by
    rw [show ((x4 : Int) / 65536) = ((x4 / 65536 : Nat) : Int) from div_cast x4 65536, ← Int.natCast_add, e5, wrapU _ (by omega)]
  have r6 : IntKind.u64.wrap ((x5 : Int) + (x5 : Int) / 4294967296) = (x6 : Int) := by
    rw [show ((x5 : Int) / 4294967296) = ((x5 / 4294967296 : Nat) : Int) from div_cast x5 4294967296, ← Int.natCast_add, e6, wrapU _ (by omega)]
  have R := Lib.hid (And.intro r1 (And.intro r2 (And.intro r3 (And.intro r4 (And.intro r5 r6)))))
  have E7 := Lib.hid (And.intro e7 b6)
  clear r1 r2 r3 r4 r5 r6 e1 e2 e3 e4 e5 e6 e7 b1 b2 b3 b4 b5 b6
  go_enter Try.func41, Try.ntmps41
  go_wp2_with fail
  obtain ⟨r1, r2, r3, r4, r5, r6⟩ := R.out
  simp only [r1]
  simp only [r2]
  simp only [r3]
  simp only [r4]
  simp only [r5]
  simp only [r6]
  go_ret
  refine ⟨?_, rfl⟩
  have h6 := E7.out
  have hw : wrap64 (x6 : Int) = (x6 : Int) := IntWalk.wrap64_in _ ⟨by omega, by omega⟩
  show Ending.returned (.int .i64 (bits BinOp.and IntKind.i64 (wrap64 (x6 : Int)) 127)) = _
  rw [hw, i64_and127, ← h6.1]
  rfl

theorem pop_num_le (l : List Bool) (n : Nat) : BitsP.pop n (BitsP.num l) ≤ n := BitsP.pop_le _ _

set_option maxHeartbeats 1000000 in
theorem vecOnes_any {w0 w : World} {os : List Thing} {b : Nat} {v : Value} {l : List Bool} (h : St w0 w os) (hm : vecT b v l ∈ os) (hn : l.length < 1099511627776) :
    Calls Try.prog 33 #[.pointer (some ⟨b, 0, none⟩)] w fun e w' => e = .returned (.int .i64 ((l.count true : Nat) : Int)) ∧ St w0 w' os := by
  obtain ⟨h1, h2⟩ := h.ok hm
  obtain ⟨a, cap, rfl, hcap, hcm⟩ := ownsRow_slice h2
  rw [words_length] at h1 h2 hcap
  have c0 : w.cell? ⟨b, 0, none⟩ = some (.slice a ((l.length + 63) / 64) cap) := by simp [World.cell?, h1, vecObj]
  have HE : Hid (BitsP.pop (64 * ((l.length + 63) / 64)) (BitsP.num l) = l.count true) := BitsP.pop_num l _ (by omega)
  have H := Lib.hid h
  have HC : Hid (∀ k, k < (l.length + 63) / 64 → ∃ g o, a = some ⟨g, o, none⟩ ∧ w.cell? ⟨g, o + k, none⟩ = some (.int .u64 ((BitsP.word l k : Nat) : Int))) := by
    intro k hk
    obtain ⟨g, cap', he, _⟩ := ownsRow_shape h2 (by omega)
    simp only [Value.slice.injEq] at he
    obtain ⟨rfl, _, rfl⟩ := he
    refine ⟨g, 0, rfl, ?_⟩
    rw [Nat.zero_add, h2.cellAt k (by omega), words_get l k hk]
  obtain ⟨n, hnn⟩ : ∃ n, (l.length + 63) / 64 = n := ⟨_, rfl⟩
  have hn40 : n < 1099511627776 := by omega
  rw [hnn] at HE HC c0 hcap
  clear h1 h2 hcm hm h hnn hn
  go_enter Try.func33, Try.ntmps33
  go_wp2_with fail
  go_loopw [3, 13] (fun x i wr => ∃ k m : Nat, k ≤ n ∧ i = .int .i64 k ∧ x = .int .i64 ((BitsP.pop (64 * k) (BitsP.num l) : Nat) : Int) ∧ wr = w.drewN m) (fun _ i _ => n - (intOf i).toNat)
  case atStart => exact ⟨0, 0, by omega, rfl, rfl, rfl⟩
  case round =>
    obtain ⟨k, m, hk, rfl, rfl, rfl⟩ := hrel
    have hpl := pop_num_le l (64 * k)
    by_cases hlt : k < n
    · obtain ⟨g, o, rfl, cw⟩ := HC.out k hlt
      have hwl := BitsP.word_lt l k
      have HW := Lib.hid (BitsP.pop_words l k)
      have hp2 := BitsP.pop_le 64 (BitsP.word l k)
      have HOC := Lib.hid (fun m' => onesCount_any (BitsP.word l k) hwl (w.drewN m'))
      generalize BitsP.word l k = q at cw hwl HW hp2 HOC
      generalize BitsP.pop (64 * k) (BitsP.num l) = A at hpl HW ⊢
      generalize BitsP.pop 64 q = B at hp2 HW HOC
      go_wp2_with fail
      refine (HOC.out m).mono ?_
      rintro e w1 ⟨rfl, rfl⟩
      go_wp2
      go_roundw
      case rel => exact ⟨k + 1, _, by omega, by go_num, by rw [HW.out]; go_num, by first | rfl | exact World.drewN_drewN _ _ _⟩
      case measure => simp [intOf]; omega
    · have hkn : k = n := by omega
      subst hkn
      rw [HE.out]
      go_wp2
      go_ret
      exact ⟨rfl, H.out.drewN m⟩

theorem count_take (l : List Bool) (k : Nat) (h : k < l.length) : (l.take (k + 1)).count true = (l.take k).count true + (l.getD k false).toNat := by
  rw [List.take_succ_eq_append_getElem h, List.count_append]
  simp only [List.getD_eq_getElem?_getD, List.getElem?_eq_getElem h, Option.getD_some]
  cases l[k] <;> rfl

set_option maxHeartbeats 1000000 in
theorem refOnes_any (sv : Value) (l : List Bool) (w : World) (hv : Reads w sv (intsOf (bitsOf l))) :
    Calls Try.prog 39 #[sv] w fun e w' => e = .returned (.int .i64 ((l.count true : Nat) : Int)) ∧ w = w' := by
  obtain ⟨ao, cap, rfl, hcap, hm, _, hc0⟩ := hv
  rw [intsOf_len, bitsOf_len] at hcap ⊢
  have HC := Lib.hid hc0
  have hcm : l.length ≤ 9223372036854775807 := by unfold maxLen at hm; omega
  clear hm hc0
  go_enter Try.func39, Try.ntmps39
  go_wp2_with fail
  go_loopw [3, 8] (fun x i wr => ∃ k : Nat, k ≤ l.length ∧ i = .int .i64 k ∧ x = .int .i64 (((l.take k).count true : Nat) : Int) ∧ w = wr) (fun _ i _ => l.length - (intOf i).toNat)
  case atStart => exact ⟨0, by omega, rfl, by simp, rfl⟩
  case round =>
    obtain ⟨k, hk, rfl, rfl, rfl⟩ := hrel
    by_cases hlt : k < l.length
    · rcases HC.out with hc | ⟨bb, off, rfl, hc⟩
      · have : l.length = 0 := by rw [← bitsOf_len, ← intsOf_len, hc]; rfl
        omega
      have cb := hc k _ (bitsOf_get l k hlt)
      have HT := Lib.hid (count_take l k hlt)
      have hcl : (l.take k).count true ≤ k := Nat.le_trans List.count_le_length (by rw [List.length_take]; omega)
      have ht : (l.getD k false).toNat < 2 := by cases l.getD k false <;> decide
      generalize (l.getD k false).toNat = t at cb HT ht
      generalize (l.take k).count true = q at HT hcl ⊢
      clear hc
      go_wp2
      go_roundw
      case rel => exact ⟨k + 1, by omega, by go_num, by rw [HT.out]; go_num, by first | rfl | trivial⟩
      case measure => simp [intOf]; omega
    · have hkl : k = l.length := by omega
      subst hkl
      rw [List.take_length]
      go_wp2
      go_ret
      exact ⟨rfl, rfl⟩
end Go.Proofs.Ytpepihciaendlaa

