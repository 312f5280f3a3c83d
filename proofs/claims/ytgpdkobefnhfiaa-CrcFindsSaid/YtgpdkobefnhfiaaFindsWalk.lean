/- The walk of CrcFinds. -/
import Derived.Test.YtgpdkobefnhfiaaAwake
import Derived.Test.YtgpdkobefnhfiaaFour
import Derived.Test.YtgpdkobefnhfiaaThings
namespace Go.Proofs.Ytgpdkobefnhfiaa
open Go.RowKit

theorem wf_u16 {n : Int} (h : (Lit.int .u16 n).wf = true) : 0 ≤ n ∧ n < 65536 := by
  have := bounds_u16 h
  omega
theorem wf_u32 {n : Int} (h : (Lit.int .u32 n).wf = true) : 0 ≤ n ∧ n < 4294967296 := by
  have := bounds_u32 h
  omega

theorem bytesOf_set (l : List Nat) (j x : Nat) : bytesOf (l.set j x) = (bytesOf l).set j (.int .u8 (x : Int)) := by
  simp [bytesOf, List.map_set]

set_option maxHeartbeats 1000000 in
set_option maxRecDepth 100000 in
theorem crcFinds_walk (a0 : Option Addr) (len0 cap0 : Nat) (z0 : List Int) (a1 : Int) (a2 : Int) (w : World) (w0 : IsRow .u8 w a0 len0 cap0 z0) (w1 : (Lit.int .u16 a1).wf = true) (w2 : (Lit.int .u32 a2).wf = true) :
    Calls Try.prog 4 #[.slice a0 len0 cap0, .int .u16 a1, .int .u32 a2] w fun e w' => e = .returned (.bool true) ∧ Below w.heap.size w w' := by
  obtain ⟨l0, e0, b0, R0, m0⟩ := w0.bytes
  obtain ⟨x1, x1'⟩ := wf_u16 w1
  obtain ⟨x2, x2'⟩ := wf_u32 w2
  obtain ⟨at', rfl⟩ := Int.eq_ofNat_of_zero_le x1
  obtain ⟨by', rfl⟩ := Int.eq_ofNat_of_zero_le x2
  unfold maxLen at m0
  clear w0 w1 w2
  have p0 := R0.len_le
  obtain ⟨n, hn, n0, n3⟩ : ∃ n, n = min len0 100 ∧ n ≤ len0 ∧ n ≤ 100 := ⟨_, rfl, by omega, by omega⟩
  have hmin : ∀ w, (Builtin.min_ #[3, 3] 3 #[.int .i64 len0, .int .i64 100]).run Try.prog w = .ok (.int .i64 n) w := fun w => by
    simp [Builtin.min_, Builtin.min2]
    omega
  clear hn
  have E0 := Lib.hid e0
  clear e0
  have hncap : n ≤ cap0 := by omega
  go_enter Try.func4, Try.ntmps4
  go_wp2_with fail
  refine (awake_any w).mono ?_
  rintro e w1 ⟨rfl, hb1⟩
  have S1 := Lib.hid ((St.start w).below hb1)
  go_wp2_with fail
  have R1 := (R0.take n n0)
  rw [bytesOf_take] at R1
  have bl : ∀ x ∈ l0.take n, x < 256 := fun x hx => b0 x (List.mem_of_mem_take hx)
  have el : (l0.take n).length = n := by simp [E0.out]; omega
  generalize l0.take n = l at R1 bl el
  subst el
  refine (cloneBytes_st S1.out _ l (S1.out.arg R1) (by omega)).mono ?_
  rintro e w2 ⟨a, cap, rfl, S2, hk2, hcap⟩
  by_cases hz : l.length = 0 ∨ by' = 0
  · have H : Hid (St w w2 (rowT 5 (.slice a l.length cap) (bytesOf l) :: [])) := S2
    clear S2 S1
    have hof : CrcP.of [] = 0 := by decide +kernel
    have hcase : (((l.length : Int) == 0) = true) ∨ (((l.length : Int) == 0) = false ∧ ((by' : Int) == 0) = true) := by
      rcases hz with h | h
      · left; simp [h]
      · by_cases h1 : l.length = 0
        · left; simp [h1]
        · right; exact ⟨beq_eq_false_iff_ne.2 (by omega), beq_iff_eq.2 (by omega)⟩
    rcases hcase with h1 | ⟨h1, h2⟩
    all_goals
      go_wp2_with fail
      refine (crcOf_any _ [] _ (Reads.nil _) (by simp) (by simp)).mono ?_
      rintro e w3 ⟨rfl, hb3⟩
      rw [hof]
      go_wp2
      go_ret
      exact ⟨rfl, (H.out.below hb3).bel⟩
  · have h1 : ((l.length : Int) == 0) = false := beq_eq_false_iff_ne.2 (by omega)
    have h2 : ((by' : Int) == 0) = false := beq_eq_false_iff_ne.2 (by omega)
    have S := Lib.hid S2
    clear S2 S1
    go_wp2_with fail
    refine (cloneBytes_st S.out _ l (S.out.reads (E := 5) (by simp)) (by omega)).mono ?_
    rintro e w3 ⟨a3, cap3, rfl, S3, hk3, hcap3⟩
    clear S
    have S := Lib.hid S3
    clear S3
    go_wp2_with fail
    refine (four_any _ _ (by omega)).mono ?_
    rintro e w4 ⟨v4, rfl, ho4, hk4⟩
    obtain ⟨g4, cap4, rfl, hc4, _⟩ := ownsRow_shape ho4 (by decide)
    obtain ⟨g3, rfl⟩ : ∃ g, a3 = some ⟨g, 0, none⟩ := by
      obtain ⟨g, c, he, _⟩ := ownsRow_shape S.out.row (by rw [bytesOf_len]; omega)
      exact ⟨g, by simp at he; exact he.1⟩
    have S4 := Lib.hid (S.out.newRow hk4 ho4).swap
    clear S
    obtain ⟨k, hkk, hkl⟩ : ∃ k : Nat, (at' : Int) % (l.length : Int) = (k : Int) ∧ k < l.length :=
      ⟨at' % l.length, by omega, Nat.mod_lt _ (by omega)⟩
    clear ho4
    go_wp2_with fail
    clear hkk hmin m0 x1 x1' x2 x2' p0 E0 n0 hncap hz h1 h2 hk2 hk3 hk4 R0 R1 b0 hb1
    go_loopw [9, 10, 38] (fun _ _ i wr => ∃ j : Nat, j ≤ 4 ∧ i = .int .i64 j ∧ St w wr (rowT 5 (.slice (some ⟨g3, 0, none⟩) l.length cap3) (bytesOf (CrcP.turn l k ((four by').take j))) :: rowT 5 (.slice (some ⟨g4, 0, none⟩) 4 cap4) (bytesOf (four by')) :: rowT 5 (.slice a l.length cap) (bytesOf l) :: [])) (fun _ _ i _ => 4 - (intOf i).toNat)
    case atStart => exact ⟨0, by omega, rfl, by rw [List.take_zero, CrcP.turn_nil]; exact S4.out⟩
    case round =>
      obtain ⟨j, hj, rfl, hS⟩ := hrel
      have ht : ∀ x ∈ CrcP.turn l k ((four by').take j), x < 256 := CrcP.turn_lt bl (fun x hx => four_lt by' x (List.mem_of_mem_take hx))
      have hlen : (CrcP.turn l k ((four by').take j)).length = l.length := CrcP.turn_length _ _ _
      by_cases hlt : j < 4
      · have hf : (four by').take (j + 1) = (four by').take j ++ [(four by')[j]'hlt] := List.take_succ_eq_append_getElem (l := four by') hlt
        have hfl : ((four by').take j).length = j := by simp [four]; omega
        have c4 : wr.cell? ⟨g4, j, none⟩ = some (.int .u8 (((four by')[j]'hlt : Nat) : Int)) := by
          have := hS.swap.row.cellAt j (by simp [bytesOf_len, four]; omega)
          rw [this]
          exact bytesOf_get (four by') j hlt
        have y256 : (four by')[j]'hlt < 256 := four_lt by' _ (List.getElem_mem hlt)
        generalize hy : (four by')[j]'hlt = y at hf c4 y256
        by_cases hin : k + j < l.length
        · have hsn := CrcP.turn_snoc l ((four by').take j) k y (by omega)
          rw [hfl, ← hf] at hsn
          have c3 : wr.cell? ⟨g3, k + j, none⟩ = some (.int .u8 (((CrcP.turn l k ((four by').take j)).getD (k + j) 0 : Nat) : Int)) := by
            have := (hS.rowN (by rw [bytesOf_len]; exact hlen)).cellAt (k + j) (by omega)
            rw [this, bytesOf_get _ (k + j) (by omega)]
            simp [List.getD_eq_getElem?_getD, hlen, hin]
          have f3 : wr.frozen? ⟨g3, k + j, none⟩ = false := (hS.rowN (by rw [bytesOf_len]; exact hlen)).frozenAt (k + j)
          have z256 : (CrcP.turn l k ((four by').take j)).getD (k + j) 0 < 256 := by
            rw [List.getD_eq_getElem?_getD]; exact getD_lt ht _
          have hst := fun u => hS.store (by rw [bytesOf_len]; exact hlen) (k + j) u
          generalize (CrcP.turn l k ((four by').take j)).getD (k + j) 0 = z at hsn c3 z256
          have hx := u8_xor_nat z y z256 y256
          have HS := Lib.hid hsn
          have HX := Lib.hid hx
          have HST := Lib.hid hst
          clear hsn hx hst hf hfl hS hlen ht hy
          go_wp2
          go_roundw
          case rel =>
            refine ⟨j + 1, by omega, by go_num, ?_⟩
            rw [HX.out, HS.out, bytesOf_set]
            exact HST.out _
          case measure => simp [intOf]; omega
        · have hin' : l.length ≤ k + j := by omega
          clear hin
          have hsn := CrcP.turn_past l ((four by').take j) k y (by omega)
          rw [← hf] at hsn
          have HS := Lib.hid hsn
          have HST := Lib.hid hS
          clear hsn hf hfl hS hlen ht hy
          go_wp2
          go_roundw
          case rel =>
            refine ⟨j + 1, by omega, by go_num, ?_⟩
            rw [HS.out]
            exact HST.out
          case measure => simp [intOf]; omega
      · have hj4 : j = 4 := by omega
        subst hj4
        have hfour : (four by').take 4 = four by' := by simp [four]
        rw [hfour] at hS ht hlen
        clear hfour hlt hj
        generalize hq : CrcP.turn l k (four by') = q at hS ht hlen
        have HQ := Lib.hid hq
        have HT := Lib.hid hS
        clear hq hS
        have hqb : q.length ≤ 100 := by omega
        have Rq := HT.out.reads (E := 5) (v := .slice (some ⟨g3, 0, none⟩) l.length cap3) (xs := bytesOf q) (by simp)
        have Rp := HT.out.reads (E := 5) (v := .slice a l.length cap) (xs := bytesOf l) (by simp)
        have HL := Lib.hid hlen
        clear hlen
        go_wp2_with fail
        refine (bytesEqual_any _ _ l q _ Rp Rq bl ht).mono ?_
        rintro e w5 ⟨rfl, rfl⟩
        go_wp2_with fail
        refine (crcOf_any _ l _ Rp bl (by omega)).mono ?_
        rintro e w5 ⟨rfl, hb5⟩
        go_wp2_with fail
        refine (crcOf_any _ q _ (Rq.below hb5) ht (by omega)).mono ?_
        rintro e w6 ⟨rfl, hb6⟩
        go_wp2
        go_ret
        refine ⟨ret_bool ?_, ((HT.out.below hb5).below hb6).bel⟩
        rw [beq_iff_eq, Bool.eq_iff_iff, decide_eq_true_iff, beq_iff_eq]
        constructor
        · intro h; rw [h]
        · intro h
          have h' : CrcP.of l = CrcP.of q := by omega
          rw [← HQ.out] at h' ⊢
          exact CrcP.of_turn k bl (four_lt by') (by simp [four]) h'
end Go.Proofs.Ytgpdkobefnhfiaa
