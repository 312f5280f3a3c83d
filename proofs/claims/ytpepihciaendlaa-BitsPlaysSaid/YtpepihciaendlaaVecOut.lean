/- The contracts of Vec.Bytes, Vec.Ones, Vec.Cut, bits.Of, bits.Same. -/
import Derived.Test.YtpepihciaendlaaReader
import Derived.Test.YtpepihciaendlaaCloneSt
import Derived.Deep.OwnRows
namespace Go.Proofs.Ytpepihciaendlaa
open Go.RowKit

/-- byte number i of some bits -/
def byteAt (l : List Bool) (i : Nat) : Nat := BitsP.num l / 2 ^ (8 * i) % 256
def bytesB (l : List Bool) : List Nat := (List.range ((l.length + 7) / 8)).map (byteAt l)
theorem bytesB_len (l : List Bool) : (bytesB l).length = (l.length + 7) / 8 := by simp [bytesB]
theorem bytesB_lt (l : List Bool) : ∀ x ∈ bytesB l, x < 256 := by
  intro x hx
  obtain ⟨i, _, rfl⟩ := List.mem_map.1 hx
  exact Nat.mod_lt _ (by decide)

theorem byte_of_word (l : List Bool) (i : Nat) : BitsP.word l (i / 8) / 2 ^ (i % 8 * 8) % 256 = byteAt l i := by
  apply Nat.eq_of_testBit_eq
  intro j
  have e : (256 : Nat) = 2 ^ 8 := rfl
  unfold byteAt
  rw [e, Nat.testBit_mod_two_pow, Nat.testBit_mod_two_pow, Nat.testBit_div_two_pow, Nat.testBit_div_two_pow, BitsP.testBit_word, BitsP.testBit_num]
  by_cases h : j < 8
  · rw [show 64 * (i / 8) + (j + i % 8 * 8) = j + 8 * i from by omega]
    simp [h]; omega
  · simp [h]

/-- the row when k bytes are laid -/
def laid (l : List Bool) (n k : Nat) : List Nat := (List.range n).map fun i => if i < k then byteAt l i else 0
theorem laid_len (l : List Bool) (n k : Nat) : (laid l n k).length = n := by simp [laid]
theorem laid_zero (l : List Bool) (n : Nat) : bytesOf (laid l n 0) = List.replicate n (.int .u8 0) := by
  unfold laid bytesOf
  apply List.ext_getElem <;> simp
theorem laid_all (l : List Bool) : laid l ((l.length + 7) / 8) ((l.length + 7) / 8) = bytesB l := by
  unfold laid bytesB
  refine List.map_congr_left fun i hi => ?_
  rw [if_pos (List.mem_range.1 hi)]
theorem laid_set (l : List Bool) (n k : Nat) (hk : k < n) : bytesOf (laid l n (k + 1)) = (bytesOf (laid l n k)).set k (.int .u8 ((byteAt l k : Nat) : Int)) := by
  unfold laid bytesOf
  apply List.ext_getElem
  · simp
  · intro i h1 h2
    simp at h1
    rw [List.getElem_set]
    by_cases h : k = i
    · subst h; simp
    · rw [if_neg h]
      have e : (i < k + 1) = (i < k) := by apply propext; omega
      simp [e]

theorem byte_val (q i : Nat) (hq : q < 18446744073709551616) (k : Nat) (hb : q / 2 ^ k % 256 = i) : ((q : Int) / 2 ^ k) % 256 = (i : Int) := by
  have e : ((q : Int) / 2 ^ k) = ((q / 2 ^ k : Nat) : Int) := by simp
  rw [e]; omega

set_option maxHeartbeats 1000000 in
theorem vecBytes_any {w0 w : World} {os : List Thing} {b : Nat} {v : Value} {l : List Bool} (h : St w0 w os) (hm : vecT b v l ∈ os) (hn : l.length < 1099511627776) :
    Calls Try.prog 31 #[.pointer (some ⟨b, 0, none⟩)] w fun e w' => ∃ g, e = .returned (.slice (some ⟨g, 0, none⟩) ((l.length + 7) / 8) ((l.length + 7) / 8)) ∧ St w0 w' (rowT 5 (.slice (some ⟨g, 0, none⟩) ((l.length + 7) / 8) ((l.length + 7) / 8)) (bytesOf (bytesB l)) :: os) ∧ Keeps [] w w' := by
  have hlen := Lib.hid (vecLen_any h hm)
  have H := Lib.hid h
  have HM := Lib.hid hm
  obtain ⟨n, hnn⟩ : ∃ n, (l.length + 7) / 8 = n := ⟨_, rfl⟩
  have hn8 : 8 * n ≤ l.length + 7 := by omega
  have hn8' : l.length ≤ 8 * n := by omega
  have HA := laid_all l
  rw [hnn] at HA ⊢
  have HAL := Lib.hid HA
  have HNN := Lib.hid hnn
  have hdiv : ((l.length : Int) + 8 - 1) / 8 = (n : Int) := by omega
  have hmk := run_make_row' (P := Try.prog) 22 5 (.int .u8 0) 1 Try.underlying22 info_u8 rfl .i64 .i64 n (by omega) (by omega)
  clear h hm HA hnn
  go_enter Try.func31, Try.ntmps31
  go_wp2_with fail
  refine hlen.out.mono ?_
  rintro e w1 ⟨rfl, rfl⟩
  go_wp2_with fail
  clear hdiv hmk
  have S1 : Hid (St w0 (w.alloc (.cells (madeCells #[.int .u8 0] n) 5)) (rowT 5 (.slice (some ⟨w.heap.size, 0, none⟩) n n) (bytesOf (laid l n 0)) :: os)) := by
    have := World.ownsRow_lit (base := w.heap.size) (e := 5) (size := 1) w (madeCells #[.int .u8 0] n) n (Nat.le_refl _) (by unfold maxLen; omega) (by simp [madeCells])
    rw [toList_madeCells_one, ← laid_zero l n] at this
    exact H.out.newRow ((Keeps.refl _ _).alloc _) this
  have K1 : Hid (Keeps [] w (w.alloc (.cells (madeCells #[.int .u8 0] n) 5))) := (Keeps.refl _ _).alloc _
  have hgw : Hid (w.heap.size = w.heap.size) := rfl
  obtain ⟨g, hg⟩ : ∃ g, w.heap.size = g := ⟨_, rfl⟩
  have HG := Lib.hid hg
  rw [hg] at S1 ⊢
  clear hgw hg
  go_loopw [13] (fun i wr => ∃ k : Nat, k ≤ n ∧ i = .int .i64 k ∧ Keeps [] w wr ∧ St w0 wr (rowT 5 (.slice (some ⟨g, 0, none⟩) n n) (bytesOf (laid l n k)) :: os)) (fun i _ => n - (intOf i).toNat)
  case atStart => exact ⟨0, by omega, rfl, K1.out, S1.out⟩
  case round =>
    obtain ⟨k, hk, rfl, hK, hS⟩ := hrel
    clear S1 K1
    by_cases hlt : k < n
    · obtain ⟨h1, h2⟩ := hS.ok (o := vecT b v l) (by simp [HM.out])
      rw [words_length] at h2
      obtain ⟨g2, cap2, rfl, hcap2, hcm2⟩ := ownsRow_shape h2 (by omega)
      have c0 : wr.cell? ⟨b, 0, none⟩ = some (.slice (some ⟨g2, 0, none⟩) ((l.length + 63) / 64) cap2) := by simp [World.cell?, h1, vecObj]
      have cw : wr.cell? ⟨g2, k / 8, none⟩ = some (.int .u64 ((BitsP.word l (k / 8) : Nat) : Int)) := by
        rw [h2.cellAt (k / 8) (by omega), words_get l _ (by omega)]
      have hbv := byte_val (BitsP.word l (k / 8)) (byteAt l k) (BitsP.word_lt l (k / 8)) (k % 8 * 8) (byte_of_word l k)
      have hwl := BitsP.word_lt l (k / 8)
      have fg : wr.frozen? ⟨g, k, none⟩ = false := (hS.rowN (by rw [bytesOf_len, laid_len])).frozenAt k
      obtain ⟨u0, hu0⟩ : ∃ u0, wr.cell? ⟨g, k, none⟩ = some u0 := by
        have := (hS.rowN (n := n) (by rw [bytesOf_len, laid_len])).cellAt k (by omega)
        rw [this, bytesOf_get _ k (by rw [laid_len]; exact hlt)]
        exact ⟨_, rfl⟩
      have hst := hS.store (by rw [bytesOf_len, laid_len]) k (.int .u8 ((byteAt l k : Nat) : Int))
      rw [← laid_set l n k hlt] at hst
      have HST := Lib.hid hst
      have HK := Lib.hid (hK.setCell (p := ⟨g, k, none⟩) (.inr (by have := HG.out; simp; omega)) (.int .u8 ((byteAt l k : Nat) : Int)))
      have hw63 : k / 8 < (l.length + 63) / 64 := by omega
      generalize BitsP.word l (k / 8) = q at cw hbv hwl
      generalize byteAt l k = by' at hbv HST HK
      have HB := Lib.hid hbv
      clear hS hst h1 h2 hbv hcm2 hK
      go_wp2
      go_roundw
      case rel =>
        refine ⟨k + 1, by omega, by go_num, ?_, ?_⟩
        · rw [HB.out]; exact HK.out
        · rw [HB.out]; exact HST.out
      case measure => simp [intOf]; omega
    · have hkn : k = n := by omega
      subst hkn
      rw [HAL.out] at hS
      have HST := Lib.hid hS
      have HK := Lib.hid hK
      clear hS hK
      go_wp2
      go_ret
      exact ⟨g, rfl, HST.out, HK.out⟩
end Go.Proofs.Ytpepihciaendlaa

