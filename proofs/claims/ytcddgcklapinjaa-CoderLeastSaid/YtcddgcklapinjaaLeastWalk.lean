/- The walk of CoderLeast. -/
import Derived.Test.YtcddgcklapinjaaRefLeast
import Derived.Test.YtcddgcklapinjaaCodeLe
namespace Go.Proofs.Ytcddgcklapinjaa
open Go.RowKit

set_option maxRecDepth 100000 in
set_option maxHeartbeats 4000000 in
theorem coderLeast_walk (a0 : Option Addr) (len0 cap0 : Nat) (z0 : List Int) (a1 : Int) (a2 : Int) (w : World) (w0 : IsRow .u8 w a0 len0 cap0 z0) (w1 : (Lit.int .u8 a1).wf = true) (w2 : (Lit.int .u8 a2).wf = true) :
    Calls Try.prog 7 #[.slice a0 len0 cap0, .int .u8 a1, .int .u8 a2] w fun e w' => e = .returned (.bool true) ∧ Below w.heap.size w w' := by
  obtain ⟨p, e0, hp, R0, m0⟩ := w0.bytes
  have hplen : p.length ≤ 9223372036854775807 := by unfold maxLen at m0; omega
  have H := Lib.hid (St.start w)
  have HR0 := Lib.hid R0
  have HP := Lib.hid (And.intro hp hplen)
  obtain ⟨n, rfl⟩ : ∃ n : Nat, a1 = n := ⟨a1.toNat, by have := wf_u8 w1; omega⟩
  obtain ⟨tm, rfl⟩ : ∃ k : Nat, a2 = k := ⟨a2.toNat, by have := wf_u8 w2; omega⟩
  have hn : n < 256 := by have := wf_u8 w1; omega
  have ht : tm < 256 := by have := wf_u8 w2; omega
  clear w0 w1 w2 m0 R0 hp hplen e0
  go_enter Try.func7, Try.ntmps7
  go_wp2_with fail
  refine (awake18_any H.out).mono ?_
  rintro e w1 ⟨rfl, h1⟩
  have H1 := Lib.hid h1
  clear h1 H
  go_wp2_with fail
  refine (some18_any H1.out _ p HP.out.1 HP.out.2 (fun w' os' h' => h'.arg HR0.out) n tm hn ht).mono ?_
  rintro e w2 ⟨v2, F, rfl, hF, hF2, h2⟩
  clear hF
  obtain ⟨aF, cF, rfl, hcF, hcmF⟩ := ownsRow_slice h2.row
  rw [intsOf_len, bitsOf_len] at h2 hcF ⊢
  have H2 := Lib.hid h2
  clear h2 H1 HP HR0 hcmF
  go_wp2_with fail
  refine (vec18_any H2.out _ F (by omega) (fun w' os' h' => h'.reads (E := 3) (by simp))).mono ?_
  rintro e w3 ⟨b3, v3, rfl, h3⟩
  have H3 := Lib.hid h3
  clear h3 H2
  go_wp2_with fail
  refine (least_any H3.out _ F (by omega) (fun W os' h' => vecLen_any (b := b3) (v := v3) (l := F) h' (by simp)) (fun W os' i hi h' => vecAt_in (b := b3) (v := v3) (l := F) h' (by simp) i hi)).mono ?_
  rintro e w4 ⟨b4, v4, rfl, h4⟩
  have H4 := Lib.hid h4
  clear h4 H3
  go_wp2_with fail
  refine (refLeast_any H4.out _ F (by omega) (fun w' os' h' => h'.reads (E := 3) (by simp))).mono ?_
  rintro e w5 ⟨v5, rfl, h5⟩
  obtain ⟨K, hK⟩ : ∃ K, (CoderP.leastK F 8).1 = K := ⟨_, rfl⟩
  obtain ⟨B, hB⟩ : ∃ B, (CoderP.leastK F 8).2 = B := ⟨_, rfl⟩
  have HLE : Hid (∀ o, o ≤ 8 → B.length ≤ (CoderP.code o F).length) := by
    intro o ho
    rw [← hB]
    exact CoderP.leastK_le F 8 o ho
  have HBL : Hid (B.length < 100000) := by show _ < _; have := HLE.out 0 (by decide); have := CoderP.code_le 0 F; omega
  rw [hB] at h5
  rw [hK]
  have H5 := Lib.hid h5
  clear h5 H4 hB hK
  go_wp2_with fail
  refine (vecText_any (b := b4) (v := v4) (l := B) H5.out (by simp) (by have := HBL.out; omega)).mono ?_
  rintro e w6 ⟨rfl, h6⟩
  have H6 := Lib.hid h6
  clear h6 H5
  go_wp2_with fail
  refine (refText_any _ B _ H6.out.reads1).mono ?_
  rintro e w7 ⟨rfl, rfl⟩
  generalize strOf (textOf B) = TX
  obtain ⟨OS, hOS⟩ : ∃ OS, [rowT 3 v5 (intsOf (bitsOf B)), vecT b4 v4 B, vecT b3 v3 F, rowT 3 (.slice aF F.length cF) (intsOf (bitsOf F))] = OS := ⟨_, rfl⟩
  have HO1 : Hid (vecT b4 v4 B ∈ OS) := by show _ ∈ _; rw [← hOS]; simp
  have HO2 : Hid (rowT 3 (.slice aF F.length cF) (intsOf (bitsOf F)) ∈ OS) := by show _ ∈ _; rw [← hOS]; simp
  rw [hOS] at H6
  clear hOS
  go_wp2_with fail
  go_loopw [44] (fun i wr => ∃ j : Nat, j ≤ 9 ∧ i = .int .i64 j ∧ St w wr OS) (fun i _ => 9 - (intOf i).toNat)
  case atStart => exact ⟨0, by omega, rfl, H6.out⟩
  case round =>
    obtain ⟨j, hj, rfl, hS⟩ := hrel
    have HS := Lib.hid hS
    clear hS H6
    by_cases hlt : j < 9
    · go_wp2_with fail
      refine (vec18_any HS.out _ F (by omega) (fun w' os' h' => h'.reads (List.mem_append_right _ HO2.out))).mono ?_
      rintro e w9 ⟨b9, v9, rfl, h9⟩
      have H9 := Lib.hid h9
      clear h9 HS
      go_wp2_with fail
      refine (encode_vec (b := b9) (v := v9) (l := F) H9.out (by simp) j (by omega) (by omega)).mono ?_
      rintro e w10 ⟨b10, v10, rfl, h10⟩
      have H10 := Lib.hid h10
      clear h10 H9
      go_wp2_with fail
      refine (vecLen_any (b := b10) (v := v10) (l := CoderP.code j F) H10.out (by simp)).mono ?_
      rintro e w11 ⟨rfl, rfl⟩
      go_wp2_with fail
      refine (vecLen_any (b := b4) (v := v4) (l := B) H10.out (by simp [HO1.out])).mono ?_
      rintro e w12 ⟨rfl, rfl⟩
      have hle := HLE.out j (by omega)
      generalize (CoderP.code j F).length = n1 at hle ⊢
      go_wp2_with fail
      go_roundw
      case rel => exact ⟨j + 1, by omega, by go_num, H10.out.tail.tail⟩
      case measure => simp [intOf]; omega
    · obtain rfl : j = 9 := by omega
      have hl0 : Calls Try.prog 21 #[.pointer none] wr fun e w' => ∃ o v, e = .returned (.tuple #[.int .i64 0, .pointer (some ⟨o, 0, none⟩)]) ∧ St w w' (vecT o v [false, true] :: OS) := by
        have := least_any HS.out (.pointer none) [] (by decide) (fun W os' h' => vecLen_nil W) (fun W os' i hi h' => by simp at hi)
        rw [leastK_nil] at this
        exact this
      have hl0 := Lib.hid hl0
      go_wp2_with fail
      refine hl0.out.mono ?_
      rintro e w13 ⟨b13, v13, rfl, h13⟩
      have H13 := Lib.hid h13
      clear h13 HS hl0
      go_wp2_with fail
      refine (vecText_any (b := b13) (v := v13) (l := [false, true]) H13.out (by simp) (by decide)).mono ?_
      rintro e w14 ⟨rfl, h14⟩
      rw [show strOf (textOf [false, true]) = ⟨#[48, 49]⟩ by rfl]
      have H14 := Lib.hid h14
      go_wp2_with fail
      go_ret
      exact ⟨rfl, H14.out.bel⟩
end Go.Proofs.Ytcddgcklapinjaa

