/- The contracts of bits.New, Vec.Len, Vec.At, Vec.add. -/
import Derived.Test.YtoipbbobkllddaaVec
import Derived.Lib.Hide
namespace Go.Proofs.Ytoipbbobkllddaa
open Go.RowKit

set_option maxRecDepth 100000 in
theorem info_u64 : (Try.prog.info? 83).map (fun i => (i.zero, i.size, i.bytes)) = some (some (.int .u64 0), 1, 8) := by kernel_rfl

set_option maxRecDepth 100000 in
theorem bitsNew_any {w0 w : World} {os : List Thing} (h : St w0 w os) : Calls Try.prog 26 #[] w fun e w' => ∃ b, e = .returned (.pointer (some ⟨b, 0, none⟩)) ∧ St w0 w' (vecT b (.slice none 0 0) [] :: os) ∧ Keeps [] w w' := by
  have H := Lib.hid h
  clear h
  go_enter Try.func26, Try.ntmps26
  go_wp2
  go_ret
  exact ⟨_, rfl, H.out.new (o := vecT w.heap.size (.slice none 0 0) []) ((Keeps.refl _ _).alloc _) ⟨heap_alloc_new w _, World.ownsRow_nil _ _ _ _⟩ (by simp [vecT, Value.ownBlock]), (Keeps.refl _ _).alloc _⟩

set_option maxRecDepth 100000 in
theorem vecLen_any {w0 w : World} {os : List Thing} {b : Nat} {v : Value} {l : List Bool} (h : St w0 w os) (hm : vecT b v l ∈ os) :
    Calls Try.prog 21 #[.pointer (some ⟨b, 0, none⟩)] w fun e w' => e = .returned (.int .i64 l.length) ∧ w = w' := by
  have h0 := (h.ok hm).1
  have c1 : w.cell? ⟨b, 1, none⟩ = some (.int .i64 l.length) := by simp [World.cell?, h0, vecObj]
  clear h0 h hm
  go_enter Try.func21, Try.ntmps21
  go_wp2
  go_ret
  exact ⟨rfl, rfl⟩

set_option maxRecDepth 100000 in
theorem vecLen_nil (w : World) : Calls Try.prog 21 #[.pointer none] w fun e w' => e = .returned (.int .i64 0) ∧ w = w' := by
  go_enter Try.func21, Try.ntmps21
  go_wp2
  go_ret
  exact ⟨rfl, rfl⟩

theorem ret_i64 {a b : Int} (h : a = b) : Ending.returned (.int .i64 a) = .returned (.int .i64 b) := by rw [h]

theorem bit_of (q n : Nat) (hq : q < 18446744073709551616) : wrap64 (bits BinOp.and IntKind.u64 ((q : Int) / 2 ^ n) 1) = ((q / 2 ^ n % 2 : Nat) : Int) := by
  have e : ((q : Int) / 2 ^ n) = ((q / 2 ^ n : Nat) : Int) := by simp
  have hle : q / 2 ^ n ≤ q := Nat.div_le_self _ _
  have h1 := u64_and_nat (q / 2 ^ n) 1 (by omega) (by decide)
  rw [nat_mask1] at h1
  rw [e]
  have h2 : bits BinOp.and IntKind.u64 ((q / 2 ^ n : Nat) : Int) 1 = ((q / 2 ^ n % 2 : Nat) : Int) := h1
  rw [h2]
  exact IntWalk.wrap64_in _ ⟨by omega, by omega⟩

/-- one bit of some; -1 where there is none -/
def bitAt (l : List Bool) (i : Int) : Int := if 0 ≤ i ∧ i < l.length then ((l.getD i.toNat false).toNat : Int) else -1

set_option maxRecDepth 100000 in
set_option maxHeartbeats 400000 in
theorem vecAt_in {w0 w : World} {os : List Thing} {b : Nat} {v : Value} {l : List Bool} (h : St w0 w os) (hm : vecT b v l ∈ os) (i : Nat) (hi : i < l.length) :
    Calls Try.prog 50 #[.pointer (some ⟨b, 0, none⟩), .int .i64 i] w fun e w' => e = .returned (.int .i64 ((l.getD i false).toNat : Nat)) ∧ w = w' := by
  have h0 := h.ok hm
  have hlen := Lib.hid (fun (_ : Unit) => vecLen_any h hm)
  obtain ⟨h1, h2⟩ := h0
  rw [words_length] at h2
  obtain ⟨g, cap, rfl, hcap, hcm⟩ := ownsRow_shape h2 (by omega)
  have c0 : w.cell? ⟨b, 0, none⟩ = some (.slice (some ⟨g, 0, none⟩) ((l.length + 63) / 64) cap) := by simp [World.cell?, h1, vecObj]
  have cw : w.cell? ⟨g, i / 64, none⟩ = some (.int .u64 ((BitsP.word l (i / 64) : Nat) : Int)) := by
    rw [h2.cellAt (i / 64) (by omega), words_get l _ (by omega)]
  have hsz : l.length ≤ 590295810358705651712 := by unfold maxLen at hcm; omega
  have hwl := BitsP.word_lt l (i / 64)
  have hbit : BitsP.word l (i / 64) / 2 ^ (i % 64) % 2 = (l.getD i false).toNat := by
    have := BitsP.testBit_word l (i / 64) (i % 64)
    rw [show 64 * (i / 64) + i % 64 = i from by omega, Nat.testBit_eq_decide_div_mod_eq] at this
    cases hb : l.getD i false
    · rw [hb] at this; simp [show i % 64 < 64 from by omega] at this; simpa using this
    · rw [hb] at this; simp [show i % 64 < 64 from by omega] at this; simpa using this
  generalize BitsP.word l (i / 64) = q at cw hwl hbit
  have HB := Lib.hid hbit
  clear h1 h2 hbit h hm
  go_enter Try.func50, Try.ntmps50
  go_wp2_with fail
  refine (hlen.out ()).mono ?_
  rintro e w' ⟨rfl, rfl⟩
  go_wp2_with fail
  go_ret
  refine ⟨ret_i64 ?_, rfl⟩
  rw [bit_of q (i % 64) hwl, HB.out]

set_option maxRecDepth 100000 in
theorem vecAt_out {w0 w : World} {os : List Thing} {b : Nat} {v : Value} {l : List Bool} (h : St w0 w os) (hm : vecT b v l ∈ os) (i : Int) (hi : i < 0 ∨ (l.length : Int) ≤ i) :
    Calls Try.prog 50 #[.pointer (some ⟨b, 0, none⟩), .int .i64 i] w fun e w' => e = .returned (.int .i64 (-1)) ∧ w = w' := by
  have hlen := Lib.hid (fun (_ : Unit) => vecLen_any h hm)
  clear h hm
  by_cases h0 : i < 0
  · clear hi hlen
    have h0' : decide (i < 0) = true := by simpa using h0
    go_enter Try.func50, Try.ntmps50
    go_wp2
    go_ret
    exact ⟨rfl, rfl⟩
  · have h1 : (l.length : Int) ≤ i := by omega
    have h0' : decide (i < 0) = false := by simpa using h0
    clear hi
    go_enter Try.func50, Try.ntmps50
    go_wp2_with fail
    refine (hlen.out ()).mono ?_
    rintro e w' ⟨rfl, rfl⟩
    go_wp2
    go_ret
    exact ⟨rfl, rfl⟩

theorem one_oneCell (v : Value) (h : v.oneCell' = true) : ∀ u ∈ [v], u.oneCell' = true := by
  intro u hu; simp at hu; subst hu; exact h

theorem or_shift (q t n : Nat) (hq : q < 18446744073709551616) (ht : t < 2) (hn : n < 64) :
    bits BinOp.or IntKind.u64 (q : Int) (IntKind.u64.wrap ((t : Int) * 2 ^ n)) = ((q ||| (t <<< n) : Nat) : Int) := by
  have h1 : t * 2 ^ n < 18446744073709551616 := by
    have h2 : 2 ^ n ≤ 2 ^ 63 := Nat.pow_le_pow_right (by decide) (by omega)
    have h3 : t * 2 ^ n ≤ 1 * 2 ^ n := Nat.mul_le_mul_right _ (by omega)
    omega
  have e : ((t : Int) * 2 ^ n) = ((t * 2 ^ n : Nat) : Int) := by simp
  rw [e, IntKind.wrap_u64, Nat.shiftLeft_eq]
  have e2 : ((t * 2 ^ n : Nat) : Int) % 18446744073709551616 = ((t * 2 ^ n : Nat) : Int) := by omega
  rw [e2, u64_or_nat q _ hq h1]

set_option maxRecDepth 100000 in
set_option maxHeartbeats 1000000 in
theorem vecadd_any {w0 w : World} {os : List Thing} {b : Nat} {v : Value} {l : List Bool} (h : St w0 w (vecT b v l :: os)) (bit : Bool) (hn : l.length < 1099511627776) :
    Calls Try.prog 53 #[.pointer (some ⟨b, 0, none⟩), .int .u64 ((bit.toNat : Nat) : Int)] w fun e w' => e = .returned (.tuple #[]) ∧ ∃ v', St w0 w' (vecT b v' (l ++ [bit]) :: os) := by
  obtain ⟨i0, hi, hz0, hz1, hz2⟩ := info_parts info_u64
  have hs := h.split
  obtain ⟨a, cap, rfl, hcap, hcm⟩ := ownsRow_slice hs.swap.row
  obtain ⟨nw, hnw⟩ : ∃ nw, (words l).length = nw := ⟨_, rfl⟩
  have hwl := words_length l
  rw [hnw] at hs hcap hwl
  have hbn : bit.toNat < 2 := by cases bit <;> decide
  have hm64 : l.length % 64 < 64 := Nat.mod_lt _ (by decide)
  have c0 : w.cell? ⟨b, 0, none⟩ = some (.slice a nw cap) := hs.cellAt 0
  have c1 : w.cell? ⟨b, 1, none⟩ = some (.int .i64 l.length) := hs.cellAt 1
  have HN := Lib.hid hnw
  have HW := Lib.hid hwl
  have hcap64 : cap ≤ 9223372036854775807 := by unfold maxLen at hcm; omega
  by_cases h64 : l.length % 64 = 0
  · have h64' : (((l.length : Int) % 64) == 0) = true := beq_iff_eq.2 (by omega)
    have hnw1 : nw ≤ l.length / 64 := by omega
    have H := Lib.hid hs.swap
    have HM := Lib.hid (Reads.made w #[.int .u64 0] 83 (0, 0) 1 (by decide) (by decide))
    clear hs h hnw hwl hcm
    go_enter Try.func53, Try.ntmps53
    go_wp2_with (at_builtin; refine wpList_append_st rfl _ _ 96 rfl 83 i0 (.int .u64 0) 8 Try.underlying96 hi hz0 hz1 hz2 rfl _ _ _ [.int .u64 0] rfl rfl (H.out.alloc _) HM.out (one_oneCell _ rfl) ?c1 ?c2 ?_)
    case c1 => simp only [HN.out, List.length_cons, List.length_nil]; unfold maxLen; omega
    case c2 => simp only [HN.out, List.length_cons, List.length_nil]; omega
    intro v1 w1 S1
    have hl1 : (words l ++ [Value.int .u64 0]).length = l.length / 64 + 1 := by
      rw [List.length_append, HN.out]; simp; have := HW.out; omega
    obtain ⟨g, cap1, rfl, hcap1, hcm1⟩ := ownsRow_shape S1.row (by omega)
    rw [hl1] at S1 hcap1 ⊢
    have S2 := S1.swap
    have k0 : w1.cell? ⟨b, 0, none⟩ = some (.slice a nw cap) := S2.cellAt 0
    have kf : w1.frozen? ⟨b, 0, none⟩ = false := S2.freeAt 0
    have S3 : Hid (St w0 (w1.setCell ⟨b, 0, none⟩ (.slice (some ⟨g, 0, none⟩) (l.length / 64 + 1) cap1)) (cellT b (vecObj (.slice (some ⟨g, 0, none⟩) (l.length / 64 + 1) cap1) l.length) :: rowT 83 (.slice (some ⟨g, 0, none⟩) (l.length / 64 + 1) cap1) (words l ++ [Value.int .u64 0]) :: os)) :=
      S2.storeCell 0 (.slice (some ⟨g, 0, none⟩) (l.length / 64 + 1) cap1)
    have hcap1' : cap1 ≤ 9223372036854775807 := by unfold maxLen at hcm1; omega
    have hws : Hid ((words l ++ [Value.int .u64 0])[l.length / 64]? = some (.int .u64 ((0 : Nat) : Int)) ∧ words (l ++ [bit]) = (words l ++ [Value.int .u64 0]).set (l.length / 64) (.int .u64 ((0 ||| (bit.toNat <<< (l.length % 64)) : Nat) : Int)) ∧ (words l ++ [Value.int .u64 0]).length = l.length / 64 + 1) := by
      refine ⟨?_, words_snoc_new l bit h64, hl1⟩
      have : (words l).length = l.length / 64 := by rw [HN.out]; have := HW.out; omega
      rw [← this, List.getElem?_append_right (Nat.le_refl _)]
      simp
    clear S1 S2 H HM hl1 hcm1 c0 c1 hnw1
    go_wp2_with fail
    clear k0 kf h64'
    generalize w1.setCell ⟨b, 0, none⟩ (.slice (some ⟨g, 0, none⟩) (l.length / 64 + 1) cap1) = W at S3
    generalize words l ++ [Value.int .u64 0] = ws at S3 hws
    obtain ⟨q, hq, hqlt⟩ : ∃ q : Nat, q = 0 ∧ q < 18446744073709551616 := ⟨0, rfl, by omega⟩
    rw [← hq] at hws
    clear hq h64 HN HW hcap hcap64
    have hnlt : l.length / 64 < l.length / 64 + 1 := by omega
    generalize l.length / 64 + 1 = nw1 at S3 hws hcap1 hnlt ⊢
    have k0 : W.cell? ⟨b, 0, none⟩ = some (.slice (some ⟨g, 0, none⟩) nw1 cap1) := S3.out.cellAt 0
    have k1 : W.cell? ⟨b, 1, none⟩ = some (.int .i64 l.length) := S3.out.cellAt 1
    have kw : W.cell? ⟨g, l.length / 64, none⟩ = some (.int .u64 (q : Int)) := by
      rw [(S3.out.swap.rowN hws.2.2).cellAt _ (by omega)]; exact hws.1
    have kf : W.frozen? ⟨g, l.length / 64, none⟩ = false := (S3.out.swap.rowN hws.2.2).frozenAt _
    go_region
    have hval : bits BinOp.or IntKind.u64 (q : Int) (IntKind.u64.wrap ((bit.toNat : Nat) * 2 ^ (l.length % 64))) = ((q ||| (bit.toNat <<< (l.length % 64)) : Nat) : Int) := or_shift q bit.toNat (l.length % 64) hqlt hbn hm64
    rw [hval]
    have S4 := Lib.hid ((S3.out.swap.store hws.2.2 (l.length / 64) (.int .u64 ((q ||| (bit.toNat <<< (l.length % 64)) : Nat) : Int))).drew)
    clear k0 k1 kw kf hval
    generalize (W.setCell ⟨g, l.length / 64, none⟩ (.int .u64 ((q ||| (bit.toNat <<< (l.length % 64)) : Nat) : Int))).drew = W2 at S4
    have k1 : W2.cell? ⟨b, 1, none⟩ = some (.int .i64 l.length) := S4.out.swap.cellAt 1
    have kf : W2.frozen? ⟨b, 1, none⟩ = false := S4.out.swap.freeAt 1
    have S5 := S4.out.swap.storeCell 1 (.int .i64 ((l.length + 1 : Nat) : Int))
    have S6 : Hid (St w0 (W2.setCell ⟨b, 1, none⟩ (.int .i64 ((l.length + 1 : Nat) : Int))) (vecT b (.slice (some ⟨g, 0, none⟩) nw1 cap1) (l ++ [bit]) :: os)) :=
      St.join (n := l.length + 1) S5 (by simp) hws.2.1.symm
    clear S3 S4 S5 hws
    go_wp2
    go_end0
    exact ⟨rfl, _, S6.out⟩
  · have h64' : (((l.length : Int) % 64) == 0) = false := beq_eq_false_iff_ne.2 (by omega)
    obtain ⟨g, cap1, he, hcap1, hcm1⟩ := ownsRow_shape (hs.swap.rowN hnw) (by omega)
    rw [he] at hs c0
    have S3 := Lib.hid hs
    have hcap1' : cap1 ≤ 9223372036854775807 := by unfold maxLen at hcm1; omega
    have hnlt : l.length / 64 < nw := by omega
    have hws : Hid ((words l)[l.length / 64]? = some (.int .u64 ((BitsP.word l (l.length / 64) : Nat) : Int)) ∧ words (l ++ [bit]) = (words l).set (l.length / 64) (.int .u64 ((BitsP.word l (l.length / 64) ||| (bit.toNat <<< (l.length % 64)) : Nat) : Int)) ∧ (words l).length = nw) :=
      ⟨words_get l _ (by omega), words_snoc_in l bit h64, hnw⟩
    have hqlt := BitsP.word_lt l (l.length / 64)
    clear h hs hwl hnw he hcm1 hcm
    generalize words l = ws at S3 hws HN
    generalize BitsP.word l (l.length / 64) = q at hws hqlt
    clear HN HW h64 hcap hcap64
    go_enter Try.func53, Try.ntmps53
    go_wp2_with fail
    clear c0 c1 h64'
    generalize hWW : w = W at S3 ⊢
    clear hWW
    have nw1 := nw
    have k0 : W.cell? ⟨b, 0, none⟩ = some (.slice (some ⟨g, 0, none⟩) nw cap1) := S3.out.cellAt 0
    have k1 : W.cell? ⟨b, 1, none⟩ = some (.int .i64 l.length) := S3.out.cellAt 1
    have kw : W.cell? ⟨g, l.length / 64, none⟩ = some (.int .u64 (q : Int)) := by
      rw [(S3.out.swap.rowN hws.2.2).cellAt _ (by omega)]; exact hws.1
    have kf : W.frozen? ⟨g, l.length / 64, none⟩ = false := (S3.out.swap.rowN hws.2.2).frozenAt _
    go_region
    have hval : bits BinOp.or IntKind.u64 (q : Int) (IntKind.u64.wrap ((bit.toNat : Nat) * 2 ^ (l.length % 64))) = ((q ||| (bit.toNat <<< (l.length % 64)) : Nat) : Int) := or_shift q bit.toNat (l.length % 64) hqlt hbn hm64
    rw [hval]
    have S4 := Lib.hid ((S3.out.swap.store hws.2.2 (l.length / 64) (.int .u64 ((q ||| (bit.toNat <<< (l.length % 64)) : Nat) : Int))).drew)
    clear k0 k1 kw kf hval
    generalize (W.setCell ⟨g, l.length / 64, none⟩ (.int .u64 ((q ||| (bit.toNat <<< (l.length % 64)) : Nat) : Int))).drew = W2 at S4
    have k1 : W2.cell? ⟨b, 1, none⟩ = some (.int .i64 l.length) := S4.out.swap.cellAt 1
    have kf : W2.frozen? ⟨b, 1, none⟩ = false := S4.out.swap.freeAt 1
    have S5 := S4.out.swap.storeCell 1 (.int .i64 ((l.length + 1 : Nat) : Int))
    have S6 : Hid (St w0 (W2.setCell ⟨b, 1, none⟩ (.int .i64 ((l.length + 1 : Nat) : Int))) (vecT b (.slice (some ⟨g, 0, none⟩) nw cap1) (l ++ [bit]) :: os)) :=
      St.join (n := l.length + 1) S5 (by simp) hws.2.1.symm
    clear S3 S4 S5 hws
    go_wp2
    go_end0
    exact ⟨rfl, _, S6.out⟩
end Go.Proofs.Ytoipbbobkllddaa

