/- The walk of PackStrict. -/
import Derived.Test.YtgmgbgjghncipaaPackHelp
import Derived.Test.YtgmgbgjghncipaaPackLaw
import Derived.Deep.Cut
import Derived.Deep.RegionHeld3
namespace Go.Proofs.Ytgmgbgjghncipaa
open Go.RowKit

theorem decide_and_i64 (a : Int) : decide (300 < a ∧ a ≤ 16777216) = (decide (300 < a) && decide (a ≤ 16777216)) := by simp

set_option maxRecDepth 100000 in
set_option maxHeartbeats 4000000 in
theorem packStrict_walk (a0 : Option Addr) (len0 cap0 : Nat) (z0 : List Int) (a1 : Int) (a2 : Int) (a3 : Int) (a4 : Bool) (a5 : Bool) (w : World) (w0 : IsRow .u8 w a0 len0 cap0 z0) (w1 : (Lit.int .i64 a1).wf = true) (w2 : (Lit.int .u8 a2).wf = true) (w3 : (Lit.int .u8 a3).wf = true) :
    Calls Try.prog 7 #[.slice a0 len0 cap0, .int .i64 a1, .int .u8 a2, .int .u8 a3, .bool a4, .bool a5] w fun e w' => e = .returned (.bool true) ∧ Below w.heap.size w w' := by
  obtain ⟨p, e0, hp, R0, m0⟩ := w0.bytes
  have H := Lib.hid (St.start w)
  have hb1 := wf_i64 w1
  obtain ⟨x2, rfl, hx2⟩ : ∃ x : Nat, a2 = x ∧ x < 256 := ⟨a2.toNat, by have := wf_u8 w2; omega, by have := wf_u8 w2; omega⟩
  obtain ⟨x3, rfl, hx3⟩ : ∃ x : Nat, a3 = x ∧ x < 256 := ⟨a3.toNat, by have := wf_u8 w3; omega, by have := wf_u8 w3; omega⟩
  obtain ⟨m, hm, hm1, hm2⟩ : ∃ m, m = min len0 40 ∧ m ≤ len0 ∧ m ≤ 40 := ⟨_, rfl, by omega, by omega⟩
  have hmin : ∀ w, (Builtin.min_ #[3, 3] 3 #[.int .i64 len0, .int .i64 40]).run Try.prog w = .ok (.int .i64 m) w := fun w => by
    rw [run_min2]
    congr 2
    split <;> omega
  have hlc := R0.len_le
  have hcm : cap0 ≤ 9223372036854775807 := by
    obtain ⟨_, _, he, _, hm, _⟩ := R0
    simp only [Value.slice.injEq] at he
    obtain ⟨_, _, rfl⟩ := he
    unfold maxLen at hm; omega
  have HR := Lib.hid (R0.take m hm1)
  have HPP : Hid (∀ x ∈ p.take m, x < 256) := fun x hx => hp x (List.mem_of_mem_take hx)
  have hpl : Hid ((p.take m).length = m) := by show _ = _; rw [List.length_take]; omega
  have HR2 : Hid (Reads w (.slice a0 m cap0) (bytesOf (p.take m))) := by
    show Reads _ _ _
    have := HR.out
    rwa [show bytesOf (p.take m) = (bytesOf p).take m by simp [bytesOf, List.map_take]]
  generalize p.take m = q at HPP hpl HR2
  clear R0 HR hp w0 w1 w2 w3 m0 hm e0
  go_enter Try.func7, Try.ntmps7
  go_wp2_with fail
  refine (awake19_any H.out).mono ?_
  rintro e w1 ⟨rfl, h1⟩
  have H1 := Lib.hid h1
  clear h1 H
  go_wp2_with fail
  rw [← hpl.out]
  refine (cloneBytes_st H1.out _ q (by rw [hpl.out]; exact H1.out.arg HR2.out) (by have := hpl.out; omega)).mono ?_
  rintro e w2 ⟨a, cap, rfl, h2, _, hqc⟩
  have H2 := Lib.hid h2
  have hq40 : q.length ≤ 40 := by rw [hpl.out]; exact hm2
  clear h2 H1 HR2 hmin hpl hm1 hm2 hlc hcm
  go_upto_region 4 with fail
  go_cut [29] from 16 (fun tv wx => ∃ tb : Bool, tv = .bool tb ∧ (tb = true → 300 < a1) ∧ wx = w2)
  case first =>
    by_cases h1 : 300 < a1
    · by_cases h2 : a1 ≤ 16777216
      · go_wp2_with fail
        go_meet
        exact ⟨true, rfl, fun _ => h1, by first | rfl | trivial⟩
      · go_wp2_with fail
        go_meet
        exact ⟨false, rfl, (fun h => by cases h), by first | rfl | trivial⟩
    · go_wp2_with fail
      go_meet
      exact ⟨false, rfl, (fun h => by cases h), by first | rfl | trivial⟩
  case rest =>
    obtain ⟨tb, rfl, htb, hw⟩ := hcut
    subst hw
    go_upto_if 29 with fail
    go_cut [1] from 16 (fun nv wx => ∃ n1 : Int, nv = .int .i64 n1 ∧ (-9223372036854775808 ≤ n1 ∧ n1 ≤ 9223372036854775807) ∧ wx = wc)
    case first =>
      cases tb
      · go_wp2_with fail
        go_meet
        exact ⟨a1, rfl, ⟨by omega, by omega⟩, by first | rfl | trivial⟩
      · have h3 : 300 < a1 := htb rfl
        go_wp2_with fail
        go_meet
        exact ⟨a1 % 300, rfl, ⟨by omega, by omega⟩, by first | rfl | trivial⟩
    case rest =>
      obtain ⟨n1, rfl, hn1, hw⟩ := hcut
      subst hw
      clear htb hb1
      go_upto_if 32 with fail
      go_cut [0, 1] from 16 (fun pv nv wx => ∃ (PP : List Nat) (n : Int) (pa : Option Addr) (pc : Nat), pv = .slice pa PP.length pc ∧ nv = .int .i64 n ∧ (-9223372036854775808 ≤ n ∧ n ≤ 9223372036854775807) ∧ (∀ x ∈ PP, x < 256) ∧ PP.length ≤ 100 ∧ PP.length ≤ pc ∧ pc ≤ 9223372036854775807 ∧
        ∃ OS, St w wx (rowT 5 (.slice pa PP.length pc) (bytesOf PP) :: OS))
      case first =>
        have hcm : cap ≤ 9223372036854775807 := by
          obtain ⟨_, _, he, _, hm⟩ := ownsRow_slice H2.out.row
          simp only [Value.slice.injEq] at he
          obtain ⟨_, _, rfl⟩ := he
          unfold maxLen at hm; omega
        cases a5
        · go_wp2_with fail
          go_meet
          exact ⟨q, n1, a, cap, rfl, rfl, hn1, HPP.out, by omega, hqc, hcm, [], H2.out⟩
        · obtain ⟨F, hF⟩ : ∃ F, fewOf q (8 * q.length) = F := ⟨_, rfl⟩
          have hFl : F.length ≤ 320 := by rw [← hF]; unfold fewOf; rw [List.length_take]; omega
          have hfew := refFew_any H2.out _ q HPP.out (by omega) (fun w' o h' => h'.reads (E := 5) (v := .slice a q.length cap) (xs := bytesOf q) (by simp)) (8 * q.length) (by omega)
          rw [hF, Int.natCast_mul] at hfew
          have hfew := Lib.hid hfew
          clear hF
          go_wp2_with fail
          refine hfew.out.mono ?_
          rintro e w4 ⟨v4, rfl, h4⟩
          have H4 := Lib.hid h4
          clear h4 hfew
          go_wp2_with fail
          refine (vec19_any H4.out _ F (by omega) (fun w' os' h' => h'.reads (E := 3) (by simp))).mono ?_
          rintro e w5 ⟨b5, v5, rfl, h5⟩
          have H5 := Lib.hid h5
          clear h5 H4
          go_wp2_with fail
          refine (pack_any H5.out _ F a4 (by omega) (VecIs.vec (b := b5) (v := v5) (l := F) (by simp) (by omega))).mono ?_
          rintro e w6 ⟨v6, rfl, h6⟩
          obtain ⟨Q, hQ⟩ : ∃ Q, packB a4 F = Q := ⟨_, rfl⟩
          have hQl : Q.length ≤ 1 + (F.length + 7) / 8 := by rw [← hQ]; exact packK_len a4 F 9
          have hQ0 : 0 < Q.length := by rw [← hQ]; obtain ⟨b0, r0, he0, _⟩ := readU_pack a4 F [] (by omega); rw [List.append_nil] at he0; rw [he0]; simp
          have hQb : ∀ x ∈ Q, x < 256 := by rw [← hQ]; exact packB_byte a4 F
          rw [hQ] at h6
          have hbl : (bytesOf Q).length = Q.length := bytesOf_len Q
          obtain ⟨g, c6, rfl, hc6, hm6⟩ := ownsRow_shape (h6.rowN hbl) hQ0
          obtain ⟨L, hL⟩ : ∃ L, Q.length = L := ⟨_, rfl⟩
          have hLb : 0 < L ∧ L ≤ 41 := by omega
          have HL := Lib.hid hL
          rw [hL] at h6 hc6 ⊢
          obtain ⟨j, hj⟩ : ∃ j, x2 % L = j := ⟨_, rfl⟩
          have hjL : j < L := by rw [← hj]; exact Nat.mod_lt _ (by omega)
          have hji : ((x2 : Int) % (L : Int)) = (j : Int) := by rw [← hj]; omega
          have hjQ : j < Q.length := by omega
          obtain ⟨y, hy, hy256⟩ : ∃ y, Q[j] = y ∧ y < 256 := ⟨_, rfl, hQb _ (List.getElem_mem hjQ)⟩
          have cj : w6.cell? ⟨g, j, none⟩ = some (.int .u8 (y : Int)) := by
            rw [(h6.rowN (hbl.trans hL)).cellAt j (by omega)]; simp only [bytesOf, List.getElem?_map, List.getElem?_eq_getElem hjQ, hy]; rfl
          have fj : w6.frozen? ⟨g, j, none⟩ = false := (h6.rowN (hbl.trans hL)).frozenAt j
          have hxor := u8_xor_nat y x3 hy256 hx3
          have hxl : y ^^^ x3 < 256 := Nat.xor_lt_two_pow (n := 8) (by omega) (by omega)
          have hst := h6.store (hbl.trans hL) j (.int .u8 (bits BinOp.xor IntKind.u8 (y : Int) (x3 : Int)))
          have hset : (bytesOf Q).set j (.int .u8 (bits BinOp.xor IntKind.u8 (y : Int) (x3 : Int))) = bytesOf (Q.set j (y ^^^ x3)) := by rw [bytesOf_set, hxor]
          rw [hset] at hst
          have HST := Lib.hid hst
          have HQS : Hid ((∀ x ∈ Q.set j (y ^^^ x3), x < 256) ∧ (Q.set j (y ^^^ x3)).length = L) := ⟨set_lt Q hQb j _ hxl, by rw [List.length_set]; exact hL⟩
          have hn8 : q.length ≤ 40 := hq40
          have hc6m : c6 ≤ 9223372036854775807 := by unfold maxLen at hm6; omega
          clear hQl hQ0 hQb hbl h6 hy hxor hxl hst hset hQ hL H5 HPP H2 hjQ hj hm6
          go_wp2_with fail
          go_meet
          exact ⟨Q.set j (y ^^^ x3), _, some ⟨g, 0, none⟩, c6, by rw [HQS.out.2], rfl, ⟨by omega, by omega⟩, HQS.out.1, by rw [HQS.out.2]; omega, by rw [HQS.out.2]; exact hc6, hc6m, _, by rw [HQS.out.2]; exact HST.out⟩
      case rest =>
        obtain ⟨PP, n, pa, pc, rfl, rfl, hn, hPb, hPl, hPc, hPm, OS, hS⟩ := hcut
        clear H2 HPP hn1 hqc hq40
        have HU := Lib.hid (unpack_any hS (.slice pa PP.length pc) PP hPb n a4 (by omega) (fun w' os' h' => h'.reads (E := 5) (by simp)))
        go_wp2_with fail
        refine HU.out.mono ?_
        rintro e w3 h3
        clear HU hS
        rcases h3 with ⟨hb, rfl, hS3⟩ | ⟨k, rfl, hk, (⟨l, hl, hpre, o, v, rfl, hS3⟩ | ⟨ev, hev, _, _, rfl, hS3⟩)⟩
        · have HS3 := Lib.hid hS3
          clear hS3
          by_cases hneg : n < 0
          · go_wp2_with fail
            go_ret
            exact ⟨rfl, HS3.out.bel⟩
          · have hbig : 16777216 < n := by omega
            go_wp2_with fail
            go_ret
            exact ⟨rfl, HS3.out.bel⟩
        · obtain ⟨_, _, hh1, hh2, hh3, hro⟩ := hl
          clear hh1 hh2 hh3
          obtain rfl : k = l.length := (readOK_len hro).symm
          obtain ⟨Q, hQ⟩ : ∃ Q, packB a4 l = Q := ⟨_, rfl⟩
          have hQB : ∀ x ∈ Q, x < 256 := by rw [← hQ]; exact packB_byte a4 l
          rw [hQ] at hpre ⊢
          have hSl := hpre.length_le
          have hTK : PP.take Q.length = Q := (List.prefix_iff_eq_take.1 hpre).symm
          obtain ⟨S, hS⟩ : ∃ S, Q.length = S := ⟨_, rfl⟩
          rw [hS] at hSl hTK ⊢
          have HQ := Lib.hid (And.intro hQ (And.intro hQB hTK))
          have HS3 := Lib.hid hS3
          have c1 : w3.cell? ⟨o, 1, none⟩ = some (.int .i64 (l.length : Int)) := by
            have h0 : w3.heap[o]? = some (vecObj v l.length) := (hS3.ok (o := vecT o v l) (by simp)).1
            simp [World.cell?, h0, vecObj]
          have HPK : Hid (Calls Try.prog 16 #[.pointer (some ⟨o, 0, none⟩), .bool a4] w3.drew fun e w' => ∃ v6, e = .returned v6 ∧ w'.cell? ⟨o, 1, none⟩ = some (.int .i64 (l.length : Int)) ∧ Below w.heap.size w w' ∧ Reads w' v6 (bytesOf Q) ∧ Reads w' (.slice pa S pc) (bytesOf Q)) := by
            refine (pack_any HS3.out.drew (.pointer (some ⟨o, 0, none⟩)) l a4 (by omega) (VecIs.vec (b := o) (v := v) (l := l) (by simp) (by omega))).mono ?_
            rintro e w6 ⟨v6, rfl, h6⟩
            rw [HQ.out.1] at h6
            have h0 : w6.heap[o]? = some (vecObj v l.length) := (h6.ok (o := vecT o v l) (by simp)).1
            refine ⟨v6, rfl, by simp [World.cell?, h0, vecObj], h6.bel, h6.reads (List.mem_cons_self ..), ?_⟩
            have := (h6.reads (E := 5) (v := .slice pa PP.length pc) (xs := bytesOf PP) (by simp)).take S hSl
            rwa [bytesOf_take, HQ.out.2.2] at this
          clear hS3 hpre hTK hQ hQB hS hro
          have d1 : decide ((S : Int) ≤ (PP.length : Int)) = true := decide_eq_true (by omega)
          have d2 : decide (S ≤ PP.length) = true := decide_eq_true hSl
          have hs0 : (0 : Int) ≤ (S : Int) := Int.natCast_nonneg S
          have hs1 : (S : Int) ≤ (pc : Int) := by omega
          have hs2 : (S : Int) ≤ (PP.length : Int) := by omega
          have hs3 : S ≤ pc := by omega
          go_wp2_with fail
          go_region_held3 (fun w' => w'.cell? ⟨o, 1, none⟩ = some (.int .i64 (l.length : Int))) (go_keep)
            (first | (go_at_call 17; refine (vecLen_any (b := o) (v := v) (l := l) HS3.out.drew (by simp)).mono ?_; rintro e w5 ⟨rfl, rfl⟩)
                   | (go_at_call 16; refine HPK.out.mono ?_; rintro e w6 ⟨v6, rfl, k6, hb6, hr6, hp6⟩; have HB6 := Lib.hid hb6; have HR6 := Lib.hid hr6; have HP6 := Lib.hid hp6; clear hb6 hr6 hp6)
                   | (go_at_call 14; refine (bytesEqual_any _ _ Q Q _ HR6.out HP6.out HQ.out.2.1 HQ.out.2.1).mono ?_; rintro e w7 ⟨rfl, rfl⟩; rw [decide_eq_true rfl]))
          all_goals (go_wp2_with fail; go_ret; exact ⟨rfl, HB6.out⟩)
        · have HS3 := Lib.hid hS3
          clear hS3
          rcases hev with rfl | rfl
          · by_cases hneg : (k : Int) < 0
            · omega
            · go_wp2_with fail
              go_ret
              exact ⟨rfl, HS3.out.bel⟩
          · go_wp2_with fail
            go_ret
            exact ⟨rfl, HS3.out.bel⟩
end Go.Proofs.Ytgmgbgjghncipaa

