/- The walk of PermIs. -/
import Derived.Test.YtongakmljbebfaaRefInv
import Derived.Test.YtongakmljbebfaaOrbitsWalk
import Derived.Lib.ItoaNum
namespace Go.Proofs.Ytongakmljbebfaa
open Go.RowKit

/-- rows of any length-m values: what is stored over and over -/
theorem St.set0 {w0 w : World} {os : List Thing} {g m cap i : Nat} {ys : List Value} (h : St w0 w (rowT 3 (.slice (some ⟨g, 0, none⟩) m cap) ys :: os)) (hl : ys.length = m) :
    St w0 (w.setCell ⟨g, i, none⟩ (.int .i64 0)) (rowT 3 (.slice (some ⟨g, 0, none⟩) m cap) (ys.set i (.int .i64 0)) :: os) := h.store hl i _

set_option maxRecDepth 100000 in
set_option maxHeartbeats 4000000 in
theorem permIs_walk (a0 : Option Addr) (len0 cap0 : Nat) (z0 : List Int) (w : World) (w0 : IsRow .i64 w a0 len0 cap0 z0) :
    Calls Try.prog 5 #[.slice a0 len0 cap0] w fun e w' => e = .returned (.bool true) ∧ Below w.heap.size w w' := by
  obtain ⟨r1, r2, r3, r4, r5⟩ := w0.reads
  have HAW := Lib.hid (awake05_any (St.start w))
  obtain ⟨m, hm, hm1, hm2⟩ : ∃ m, m = min len0 20 ∧ m ≤ len0 ∧ m ≤ 20 := ⟨_, rfl, by omega, by omega⟩
  have hmin : ∀ w, (Builtin.min_ #[3, 3] 3 #[.int .i64 len0, .int .i64 20]).run Try.prog w = .ok (.int .i64 m) w := fun w => by
    rw [run_min2]
    congr 2
    split <;> omega
  have hlc := r1.len_le
  have hcm : cap0 ≤ 9223372036854775807 := by
    obtain ⟨_, _, he, _, hm, _⟩ := r1
    simp only [Value.slice.injEq] at he
    obtain ⟨_, _, rfl⟩ := he
    unfold maxLen at hm; omega
  obtain ⟨xs, hxs⟩ : ∃ xs, (z0.take len0).take m = xs := ⟨_, rfl⟩
  have hxl : xs.length = m := by rw [← hxs, List.length_take, r2]; omega
  have HR : Hid (Reads w (.slice a0 m cap0) (intsOf xs)) := by
    show Reads _ _ _
    have := r1.take m hm1
    rw [← hxs]
    unfold intsOf
    rw [List.map_take]
    exact this
  have HXL := Lib.hid hxl
  clear r1 r2 r3 r4 r5 w0 hm hxs
  go_enter Try.func5, Try.ntmps5
  go_wp2_with fail
  refine HAW.out.mono ?_
  rintro e w1 ⟨rfl, h1⟩
  have hcl := cloneInts_any (.slice a0 m cap0) (intsOf xs) w1 (h1.arg HR.out) (ints_oneCell xs) (by rw [intsOf_len]; omega)
  have HCL := Lib.hid hcl
  have H1 := Lib.hid h1
  clear hcl h1 HAW
  go_wp2_with fail
  refine HCL.out.mono ?_
  rintro e w2 ⟨v2, rfl, ho, hk⟩
  obtain ⟨a2, c2, rfl, j1, j2⟩ := ownsRow_slice ho
  rw [intsOf_len, hxl] at ho ⊢
  have h2 := H1.out.newRow hk ho
  have HCL2 := Lib.hid (cloneInts_any (.slice a2 m c2) (intsOf xs) w2 (h2.reads (E := 3) (by simp)) (ints_oneCell xs) (by rw [intsOf_len]; omega))
  have H2 := Lib.hid h2
  clear h2 ho hk HCL H1 hmin j1 j2
  go_wp2_with fail
  refine HCL2.out.mono ?_
  rintro e w3 ⟨v3, rfl, ho, hk⟩
  obtain ⟨a3, c3, rfl, j1, j2⟩ := ownsRow_slice ho
  rw [intsOf_len, HXL.out] at ho ⊢
  have h3 := H2.out.newRow hk ho
  have HP := Lib.hid (permOf_any h3 (.slice a3 m c3) xs (by omega) (fun w' os' h' => h'.reads (E := 3) (by simp)))
  clear h3 ho hk HCL2 H2 j1 j2 hxl
  go_wp2_with fail
  refine HP.out.mono ?_
  rintro e w4 hlo
  have hlo2 : ∃ (pv : Value) (f : Int) (B : List Thing), e = .returned (.tuple #[pv, .int .i64 f]) ∧ St w w4 (rowT 3 (.slice a3 m c3) (intsOf xs) :: B) ∧
      ((∃ p v, IsPerm xs ∧ f = 0 ∧ pv = .pointer (some ⟨p, 0, none⟩) ∧ B = [cellT p (permObj v), rowT 3 v (intsOf xs), rowT 3 (.slice a2 m c2) (intsOf xs)]) ∨ (¬ IsPerm xs ∧ f = 4 ∧ pv = .pointer none ∧ B = [rowT 3 (.slice a2 m c2) (intsOf xs)])) := by
    rcases hlo with ⟨hip, p, v, rfl, h3⟩ | ⟨hn, rfl, h3⟩
    · exact ⟨_, 0, _, rfl, h3.rot3, .inl ⟨p, v, hip, rfl, rfl, rfl⟩⟩
    · exact ⟨_, 4, _, rfl, h3, .inr ⟨hn, rfl, rfl, rfl⟩⟩
  obtain ⟨pv, f, B, rfl, h4, hcase⟩ := hlo2
  have H4 := Lib.hid h4
  have HC := Lib.hid hcase
  have HB2 : Hid (rowT 3 (.slice a2 m c2) (intsOf xs) ∈ B) := by
    rcases hcase with ⟨p, v, _, _, _, rfl⟩ | ⟨_, _, _, rfl⟩ <;> (show _ ∈ _; simp)
  clear hlo h4 hcase HP
  go_wp2_with fail
  go_loopw [30] (fun iv wr => ∃ (i : Nat) (ys : List Value), i ≤ m ∧ iv = .int .i64 i ∧ ys.length = m ∧ St w wr (rowT 3 (.slice a3 m c3) ys :: B)) (fun iv _ => m - (intOf iv).toNat)
  case atStart => exact ⟨0, _, by omega, rfl, by rw [intsOf_len, HXL.out], H4.out⟩
  case round =>
    obtain ⟨i, ys, hi, rfl, hyl, hS⟩ := hrel
    have HS := Lib.hid hS
    clear hS H4
    by_cases hlt : i < m
    · have hrow := HS.out.rowN hyl
      obtain ⟨g, cap, he, hcap1, hcap2⟩ := ownsRow_shape hrow (by omega)
      simp only [Value.slice.injEq] at he
      obtain ⟨rfl, hq9, rfl⟩ := he
      clear hq9
      have fz := hrow.frozenAt i
      have cz := hrow.cellAt i (by omega)
      rw [List.getElem?_eq_getElem (by rw [hyl]; exact hlt)] at cz
      obtain ⟨y, hy⟩ : ∃ y, ys[i]'(by rw [hyl]; exact hlt) = y := ⟨_, rfl⟩
      rw [hy] at cz
      have HST := Lib.hid (HS.out.store hyl i (.int .i64 0))
      have hyl2 : (ys.set i (.int .i64 0)).length = m := by rw [List.length_set, hyl]
      have HYL := Lib.hid hyl2
      clear hrow hcap1 hcap2 hy hyl2 HS
      go_wp2_with fail
      go_roundw
      case rel => exact ⟨i + 1, _, by omega, by go_num, HYL.out, HST.out⟩
      case measure => simp [intOf]; omega
    · have S5 := Lib.hid HS.out.tail
      have HIS := Lib.hid (refIs_any (.slice a2 m c2) xs wr (S5.out.reads HB2.out))
      clear hi hyl HS
      go_wp2_with fail
      refine HIS.out.mono ?_
      rintro e w6 ⟨r, rfl, hr, rfl⟩
      cases r
      · have hnp : ¬ IsPerm xs := fun h => by have := hr.2 h; cases this
        rcases HC.out with ⟨p, v, hip, _⟩ | ⟨_, rfl, rfl, rfl⟩
        · exact absurd hip hnp
        · have HB9 := Lib.hid S5.out.bel
          clear HIS hr
          go_wp2_with fail
          go_ret
          exact ⟨rfl, HB9.out⟩
      · have hip : IsPerm xs := hr.1 rfl
        rcases HC.out with ⟨p, v, _, rfl, rfl, rfl⟩ | ⟨hnp, _⟩
        rotate_left
        · exact absurd hip hnp
        have HIP := Lib.hid hip
        have HRI := Lib.hid (refInverse_any S5.out (.slice a2 m c2) xs (fun W os' hW => hW.reads (E := 3) (by simp)) hip (by rw [HXL.out]; omega))
        clear HIS hr hip HC HB2
        go_wp2_with fail
        refine HRI.out.mono ?_
        rintro e w7 ⟨f, rfl, h7⟩
        obtain ⟨af, cf, rfl, j1, j2⟩ := ownsRow_slice h7.row
        obtain ⟨av, cv, rfl, j3, j4⟩ := ownsRow_slice (h7.tail.tail.row)
        rw [intsOf_len, invL_len, HXL.out] at h7 ⊢
        rw [intsOf_len, HXL.out] at h7
        have h8 : St w w7 ([cellT p (permObj (.slice av m cv))] ++ [rowT 3 (.slice af m cf) (intsOf (invL xs)), rowT 3 (.slice av m cv) (intsOf xs), rowT 3 (.slice a2 m c2) (intsOf xs)]) := h7.swap
        have H8 := Lib.hid h8
        clear h7 h8 HRI S5 j1 j2 j3 j4
        obtain ⟨B, hB⟩ : ∃ B, [rowT 3 (.slice af m cf) (intsOf (invL xs)), rowT 3 (.slice av m cv) (intsOf xs), rowT 3 (.slice a2 m c2) (intsOf xs)] = B := ⟨_, rfl⟩
        have HB1 : Hid (rowT 3 (.slice af m cf) (intsOf (invL xs)) ∈ B) := by show _ ∈ _; rw [← hB]; simp
        have HB2 : Hid (rowT 3 (.slice av m cv) (intsOf xs) ∈ B) := by show _ ∈ _; rw [← hB]; simp
        have HB3 : Hid (rowT 3 (.slice a2 m c2) (intsOf xs) ∈ B) := by show _ ∈ _; rw [← hB]; simp
        rw [hB] at H8
        clear hB
        go_wp2_with fail
        go_loopw [8] (fun iv wr => ∃ (i : Int) (o : List Thing), -1 ≤ i ∧ i ≤ (m : Int) + 1 ∧ iv = .int .i64 i ∧ Turned p (.slice av m cv) xs o ∧ St w wr (o ++ B)) (fun iv _ => ((m : Int) + 2 - intOf iv).toNat)
        case atStart => exact ⟨-1, _, by omega, by omega, rfl, Turned.no _ _ _, H8.out⟩
        case round =>
          obtain ⟨i, o, hi0, hi1, rfl, ht, hS⟩ := hrel
          have HS := Lib.hid hS
          have HT := Lib.hid ht
          clear hS ht H8
          have hc0 := HT.out.cell HS.out
          by_cases hle : i ≤ (m : Int)
          · by_cases hin : 0 ≤ i ∧ i < (m : Int)
            · obtain ⟨k, rfl⟩ : ∃ k : Nat, i = k := ⟨i.toNat, by omega⟩
              have hk : k < m := by omega
              have hkx : k < xs.length := by rw [HXL.out]; exact hk
              obtain ⟨hx1, hx2⟩ := toN_lt HIP.out hkx
              obtain ⟨x, hx⟩ : ∃ x, toN xs k = x := ⟨_, rfl⟩
              rw [hx] at hx1 hx2
              have hge : (k : Int) ≥ 0 := by omega
              have HAT := Lib.hid (permAt_in (HT.out.cell HS.out.drew) xs HXL.out (HS.out.drew.reads (List.mem_append_right _ HB2.out)) k hk (x : Int) hx2)
              have HBK := Lib.hid (permBack_any p (.slice av m cv) xs HS.out.drew HT.out HB2.out HIP.out (by rw [HXL.out]; omega) k hkx)
              obtain ⟨y, hy⟩ : ∃ y, backN xs k = y := ⟨_, rfl⟩
              rw [hy] at HBK
              obtain ⟨a8, c8, he8, j1, j2, j3, hc8⟩ := HS.out.reads (E := 3) (v := .slice a2 m c2) (List.mem_append_right _ HB3.out)
              simp only [Value.slice.injEq] at he8
              obtain ⟨rfl, hq8, rfl⟩ := he8
              clear hq8 j1 j2 j3
              have hv8 : (intsOf xs)[k]? = some (.int .i64 x) := by simp only [intsOf, List.getElem?_map, hx2]; rfl
              rcases hc8 with hc8 | ⟨pb, po, rfl, hc8⟩
              · rw [hc8] at hv8; simp at hv8
              have cx := hc8 k _ hv8
              obtain ⟨a9, c9, he9, j1, j2, j3, hc9⟩ := HS.out.reads (E := 3) (v := .slice af m cf) (List.mem_append_right _ HB1.out)
              simp only [Value.slice.injEq] at he9
              obtain ⟨rfl, hq9, rfl⟩ := he9
              clear hq9 j1 j2 j3
              have hv9 : (intsOf (invL xs))[k]? = some (.int .i64 y) := by
                unfold invL
                simp only [intsOf, List.getElem?_map, mapL_get (backN xs) hkx, hy]; rfl
              rcases hc9 with hc9 | ⟨qb, qo, rfl, hc9⟩
              · rw [hc9] at hv9; simp at hv9
              have cy := hc9 k _ hv9
              clear hc8 hc9 hv8 hv9 hx1 hx2 hx hy hkx hi0 hi1 HS hc0
              go_wp2_with fail
              go_region
              go_wp2_with fail
              refine HAT.out.mono ?_
              rintro e w9 ⟨rfl, rfl⟩
              go_wp2_with fail
              refine HBK.out.mono ?_
              rintro e w9 ⟨f9, rfl, h9⟩
              have H9 := Lib.hid h9
              clear h9 HAT HBK
              go_wp2_with fail
              go_roundw
              case rel => exact ⟨(k : Int) + 1, _, by omega, by omega, by go_num, Turned.yes _ _ f9 _, H9.out⟩
              case measure => simp [intOf]; omega
            · have hout : i < 0 ∨ (m : Int) ≤ i := by omega
              have HAT := Lib.hid (permAt_out wr hc0 i hout)
              have HBK := Lib.hid (permBack_out wr hc0 i hout)
              clear hc0 hin
              by_cases hneg : i < 0
              · have hng : ¬ (0 : Int) ≤ i := by omega
                go_wp2_with fail
                refine HAT.out.mono ?_
                rintro e w9 ⟨rfl, rfl⟩
                go_wp2_with fail
                refine HBK.out.mono ?_
                rintro e w9 ⟨rfl, rfl⟩
                go_wp2_with fail
                go_roundw
                case rel => exact ⟨i + 1, o, by omega, by omega, by go_num, HT.out, HS.out⟩
                case measure => simp [intOf]; omega
              · have hge : (0 : Int) ≤ i := by omega
                have hnl : ¬ i < (m : Int) := by omega
                go_wp2_with fail
                refine HAT.out.mono ?_
                rintro e w9 ⟨rfl, rfl⟩
                go_wp2_with fail
                refine HBK.out.mono ?_
                rintro e w9 ⟨rfl, rfl⟩
                go_wp2_with fail
                go_roundw
                case rel => exact ⟨i + 1, o, by omega, by omega, by go_num, HT.out, HS.out⟩
                case measure => simp [intOf]; omega
          · have HTL := Lib.hid (permListV_any HS.out p (.slice av m cv) xs (HT.out.perm HB2.out) (by rw [HXL.out]; omega))
            clear hc0
            go_wp2_with fail
            refine HTL.out.mono ?_
            rintro e w9 ⟨v9, rfl, h9⟩
            obtain ⟨a9, c9, rfl, j1, j2⟩ := ownsRow_slice h9.row
            rw [intsOf_len, HXL.out] at h9 ⊢
            have H9 := Lib.hid h9
            clear h9 HTL HS j1 j2
            go_wp2_with fail
            go_loopw [86] (fun iv wr => ∃ (i : Nat) (ys : List Value), i ≤ m ∧ iv = .int .i64 i ∧ ys.length = m ∧ St w wr (rowT 3 (.slice a9 m c9) ys :: (o ++ B))) (fun iv _ => m - (intOf iv).toNat)
            case atStart => exact ⟨0, _, by omega, rfl, by rw [intsOf_len, HXL.out], H9.out⟩
            case round =>
              obtain ⟨t, ys, ht, rfl, hyl, hS⟩ := hrel
              have HS := Lib.hid hS
              clear hS H9
              by_cases hlt2 : t < m
              · have hrow := HS.out.rowN hyl
                obtain ⟨g, cap, he, hcap1, hcap2⟩ := ownsRow_shape hrow (by omega)
                simp only [Value.slice.injEq] at he
                obtain ⟨rfl, hq9, rfl⟩ := he
                clear hq9
                have fz := hrow.frozenAt t
                have cz := hrow.cellAt t (by omega)
                rw [List.getElem?_eq_getElem (by rw [hyl]; exact hlt2)] at cz
                obtain ⟨y, hy⟩ : ∃ y, ys[t]'(by rw [hyl]; exact hlt2) = y := ⟨_, rfl⟩
                rw [hy] at cz
                have HST := Lib.hid (HS.out.store hyl t (.int .i64 0))
                have hyl2 : (ys.set t (.int .i64 0)).length = m := by rw [List.length_set, hyl]
                have HYL := Lib.hid hyl2
                clear hrow hcap1 hcap2 hy hyl2 HS
                go_wp2_with fail
                go_roundw
                case rel => exact ⟨t + 1, _, by omega, by go_num, HYL.out, HST.out⟩
                case measure => simp [intOf]; omega
              · have S10 := Lib.hid HS.out.tail
                have hc1 := HT.out.cell S10.out
                have HLN := Lib.hid (permLen_any hc1)
                have HTL := Lib.hid (permListV_any S10.out p (.slice av m cv) xs (HT.out.perm HB2.out) (by rw [HXL.out]; omega))
                clear HS hyl hc1
                go_wp2_with fail
                refine HLN.out.mono ?_
                rintro e w11 ⟨rfl, rfl⟩
                clear HLN
                go_wp2_with fail
                refine HTL.out.mono ?_
                rintro e w11 ⟨v11, rfl, h11⟩
                have HEQ := Lib.hid (eqSame h11 v11 (.slice a2 m c2) xs (h11.reads (List.mem_cons_self ..)) (h11.reads (E := 3) (List.mem_cons_of_mem _ (List.mem_append_right _ HB3.out))))
                clear h11 HTL
                go_wp2_with fail
                refine HEQ.out.mono ?_
                rintro e w12 ⟨rfl, h12⟩
                have HIV := Lib.hid (permInverse_any p (.slice av m cv) xs h12.tail HT.out HB2.out HIP.out (by rw [HXL.out]; omega))
                clear h12 HEQ S10
                go_wp2_with fail
                refine HIV.out.mono ?_
                rintro e w13 ⟨f13, q, v13, rfl, h13⟩
                have HTL := Lib.hid (permListV_any h13 q v13 (invL xs) (PermV.of (List.mem_cons_self ..) (List.mem_cons_of_mem _ (List.mem_cons_self ..))) (by rw [invL_len, HXL.out]; omega))
                clear h13 HIV
                go_wp2_with fail
                refine HTL.out.mono ?_
                rintro e w14 ⟨v14, rfl, h14⟩
                have HEQ := Lib.hid (eqSame h14 v14 (.slice af m cf) (invL xs) (h14.reads (List.mem_cons_self ..)) (h14.reads (E := 3) (List.mem_append_right [_, _, _, _, _] HB1.out)))
                clear h14 HTL
                go_wp2_with fail
                refine HEQ.out.mono ?_
                rintro e w15 ⟨rfl, h15⟩
                have HB15 := Lib.hid h15.bel
                clear h15 HEQ
                go_wp2_with fail
                go_ret
                exact ⟨rfl, HB15.out⟩
end Go.Proofs.Ytongakmljbebfaa

