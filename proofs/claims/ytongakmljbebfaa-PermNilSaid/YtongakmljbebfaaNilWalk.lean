/- The walk of PermNil. -/
import Derived.Test.YtongakmljbebfaaNilPm
namespace Go.Proofs.Ytongakmljbebfaa
open Go.RowKit

theorem St.drops {w0 w : World} {os : List Thing} : ∀ ps : List Thing, St w0 w (ps ++ os) → St w0 w os
  | [], h => h
  | _ :: ps, h => St.drops ps (St.tail h)
theorem walk_one {n x : Nat} (hx : x < n) : ∀ k, walkN (oneL n) x k = x
  | 0 => rfl
  | k + 1 => by
    show toN (oneL n) (walkN (oneL n) x k) = x
    rw [walk_one hx k]
    exact mapL_toN (fun i => i) hx
theorem oneL_len (n : Nat) : (oneL n).length = n := mapL_len _ _
theorem lead_one {n x : Nat} (hx : x < n) : leadN (oneL n) x = x := by
  obtain ⟨k, hk⟩ := leadN_rch (oneL n) x
  rw [walk_one hx k] at hk; exact hk.symm
theorem rank_one (n : Nat) : ∀ i, i ≤ n → rankN (oneL n) i = i
  | 0, _ => by have := rankN_le (oneL n) 0; omega
  | i + 1, h => by rw [rankN_succ_lead (lead_one (by omega)), rank_one n i (by omega)]
theorem back_one {n x : Nat} (hx : x < n) : backN (oneL n) x = x := walk_one hx _

set_option maxRecDepth 100000 in
set_option maxHeartbeats 4000000 in
theorem permNil_pos (a0 a1 : Int) (n : Nat) (hcase : (40 < a0 ∧ (n : Int) = 40) ∨ (a0 ≤ 40 ∧ (n : Int) = a0)) (a2 : Option Addr) (len2 cap2 : Nat) (w : World) :
    Calls Try.prog 7 #[.int .i64 a0, .int .i64 a1, .slice a2 len2 cap2] w fun e w' => e = .returned (.bool true) ∧ Below w.heap.size w w' := by
  have HAW := Lib.hid (awake05_any (St.start w))
  rcases hcase with ⟨hc, hz⟩ | ⟨hc, hz⟩
  all_goals
    have hn40 : n ≤ 40 := by omega
    go_enter Try.func7, Try.ntmps7
    go_wp2_with fail
    refine HAW.out.mono ?_
    rintro e w2 ⟨rfl, h2⟩
    have HON := Lib.hid (permOne_nat h2 n (by omega))
    clear h2 HAW
    go_wp2_with fail
    rw [← hz]
    clear hz hc
    have hn0 : (0 : Int) ≤ (n : Int) := by omega
    refine HON.out.mono ?_
    rintro e w3 ⟨p, v, rfl, h3⟩
    have HT1 := Lib.hid (permThen_none (.pointer none) (.pointer (some ⟨p, 0, none⟩)) w3 (.inl ⟨rfl, _, rfl⟩))
    have HT2 := Lib.hid (permThen_none (.pointer (some ⟨p, 0, none⟩)) (.pointer none) w3 (.inr ⟨⟨_, rfl⟩, rfl⟩))
    have hpv : PermV w [cellT p (permObj v), rowT 3 v (intsOf (oneL n))] p v (oneL n) := PermV.of (by simp) (by simp)
    have HPV := Lib.hid hpv
    obtain ⟨a, c, rfl, j1, j2⟩ := ownsRow_slice h3.swap.row
    clear j1 j2
    rw [intsOf_len, oneL_len] at h3
    have HLN := Lib.hid (permLen_any (w := w3) (p := p) (a := a) (n := n) (c := c) (h3.cellAt 0))
    have HOB := Lib.hid (permOrbits_any h3 p (.slice a n c) (oneL n) (by simp) (by simp) (oneL_perm n) (by rw [oneL_len]; omega))
    clear h3 HON hpv
    go_wp2_with fail
    refine HT1.out.mono ?_
    rintro e w4 ⟨rfl, rfl⟩
    go_wp2_with fail
    refine HT2.out.mono ?_
    rintro e w4 ⟨rfl, rfl⟩
    go_wp2_with fail
    refine HLN.out.mono ?_
    rintro e w4 ⟨rfl, rfl⟩
    clear HT1 HT2 HLN
    go_wp2_with fail
    refine HOB.out.mono ?_
    rintro e w5 ⟨v5, ps, rfl, hps, h5⟩
    obtain ⟨a5, c5, rfl, j1, j2⟩ := ownsRow_slice h5.row
    have hpl : (ps.map Prod.fst).length = n := by
      have := congrArg List.length hps
      rw [List.length_map, orbsN_len, oneL_len, rank_one n n (Nat.le_refl _)] at this
      rw [List.length_map]; exact this
    rw [hpl] at h5 ⊢
    have H6 := Lib.hid (St.drops (ps.map orbT) h5.tail)
    clear h5 HOB hpl hps
    go_wp2_with fail
    go_loopw [55] (fun kv wr => ∃ (k : Nat) (o : List Thing), k ≤ n ∧ kv = .int .i64 k ∧ Turned p (.slice a n c) (oneL n) o ∧ St w wr (o ++ [rowT 3 (.slice a n c) (intsOf (oneL n))])) (fun kv _ => n - (intOf kv).toNat)
    case atStart => exact ⟨0, _, by omega, rfl, Turned.no _ _ _, H6.out⟩
    case round =>
      obtain ⟨k, o, hk, rfl, ht, hS⟩ := hrel
      have HS := Lib.hid hS
      have HT := Lib.hid ht
      clear hS ht H6
      by_cases hlt : k < n
      · have hpv := HT.out.perm (w0 := w) (os := [rowT 3 (.slice a n c) (intsOf (oneL n))]) (by simp)
        have HAT := Lib.hid (permAt_in (w := wr) (p := p) (n := n) (a := a) (c := c) (hpv wr [] HS.out).1 (oneL n) (oneL_len n) (hpv wr [] HS.out).2 k hlt (k : Int) (mapL_get (fun i => i) hlt))
        have HBK := Lib.hid (permBack_any p (.slice a n c) (oneL n) HS.out HT.out (by simp) (oneL_perm n) (by rw [oneL_len]; omega) k (by rw [oneL_len]; exact hlt))
        rw [back_one hlt] at HBK
        clear hpv
        go_wp2_with fail
        refine HAT.out.mono ?_
        rintro e w7 ⟨rfl, rfl⟩
        go_wp2_with fail
        refine HBK.out.mono ?_
        rintro e w7 ⟨f, rfl, h7⟩
        have H7 := Lib.hid h7
        clear h7 HAT HBK HS
        go_wp2_with fail
        go_roundw
        case rel => exact ⟨k + 1, _, by omega, by go_num, Turned.yes _ _ f _, H7.out⟩
        case measure => simp [intOf]; omega
      · have hkn : k = n := by omega
        clear hlt hk
        go_wp2_with fail
        have HL := Lib.hid (permLen_nil wr)
        have HLI := Lib.hid (permList_nil wr)
        have HOR := Lib.hid (permOrbit_nil a1 wr)
        have HOS := Lib.hid (permOrbits_nil HS.out)
        refine HL.out.mono ?_
        rintro e w7 ⟨rfl, rfl⟩
        go_wp2_with fail
        refine HLI.out.mono ?_
        rintro e w7 ⟨rfl, rfl⟩
        go_wp2_with fail
        refine HOR.out.mono ?_
        rintro e w7 ⟨rfl, rfl⟩
        go_wp2_with fail
        refine HOS.out.mono ?_
        rintro e w7 ⟨rfl, h7⟩
        have HNM := Lib.hid (permNames_nil h7)
        clear h7 HOS HOR HLI HL
        go_wp2_with fail
        refine HNM.out.mono ?_
        rintro e w8 ⟨a8, c8, rfl, h8⟩
        have HA := Lib.hid (permAt_nil a1 w8)
        have HB := Lib.hid (permBack_nil a1 w8)
        have HI := Lib.hid (permInverse_nil w8)
        have HSN := Lib.hid (permSame_nilnil h8)
        clear h8 HNM
        go_wp2_with fail
        refine HA.out.mono ?_
        rintro e w9 ⟨rfl, rfl⟩
        go_wp2_with fail
        refine HB.out.mono ?_
        rintro e w9 ⟨rfl, rfl⟩
        go_wp2_with fail
        refine HI.out.mono ?_
        rintro e w9 ⟨rfl, rfl⟩
        go_wp2_with fail
        refine HSN.out.mono ?_
        rintro e w9 ⟨rfl, h9⟩
        have HO0 := Lib.hid (permOne_nat h9 0 (by omega))
        clear h9 HSN HI HA HB
        go_wp2_with fail
        refine HO0.out.mono ?_
        rintro e w10 ⟨q, u, rfl, h10⟩
        have HS0 := Lib.hid (permSame_nil h10 q u (oneL 0) (PermV.of (List.mem_cons_self ..) (List.mem_cons_of_mem _ (List.mem_cons_self ..))) (by rw [oneL_len]; omega))
        clear h10 HO0
        go_wp2_with fail
        refine HS0.out.mono ?_
        rintro e w11 ⟨he11, h11⟩
        have he12 : e = .returned (.bool true) := by rw [he11]; rfl
        clear he11
        subst he12
        have hpv : PermV w (o ++ [rowT 3 (.slice a n c) (intsOf (oneL n))]) p (.slice a n c) (oneL n) := HT.out.perm (by simp)
        have HSP := Lib.hid (permSame_nil (h11.tail.tail) p (.slice a n c) (oneL n) hpv (by rw [oneL_len]; omega))
        clear h11 hpv HS0
        by_cases hn : n = 0
        · have hd : decide ([] = oneL n) = true := by rw [hn]; rfl
          have hle : (n : Int) ≤ 0 := by omega
          rw [hd] at HSP
          have HNE := Lib.hid hn
          clear hd hn
          go_wp2_with fail
          refine HSP.out.mono ?_
          rintro e w12 ⟨rfl, h12⟩
          have HB12 := Lib.hid h12.bel
          clear h12
          go_wp2_with fail
          go_ret
          exact ⟨by show Ending.returned (.bool (decide (n = 0))) = _; rw [decide_eq_true HNE.out], HB12.out⟩
        · have hd : decide ([] = oneL n) = false := decide_eq_false (fun e => hn (by have := congrArg List.length e; rw [oneL_len] at this; simpa using this.symm))
          have hle : ¬ (n : Int) ≤ 0 := by omega
          rw [hd] at HSP
          have HNE := Lib.hid hn
          clear hd hn
          go_wp2_with fail
          refine HSP.out.mono ?_
          rintro e w12 ⟨rfl, h12⟩
          have HB12 := Lib.hid h12.bel
          clear h12
          go_wp2_with fail
          go_ret
          exact ⟨by show Ending.returned (.bool (!decide (n = 0))) = _; rw [decide_eq_false HNE.out]; rfl, HB12.out⟩

set_option maxRecDepth 100000 in
set_option maxHeartbeats 4000000 in
theorem permNil_neg (a0 a1 : Int) (hneg : a0 < 0) (a2 : Option Addr) (len2 cap2 : Nat) (w : World) :
    Calls Try.prog 7 #[.int .i64 a0, .int .i64 a1, .slice a2 len2 cap2] w fun e w' => e = .returned (.bool true) ∧ Below w.heap.size w w' := by
  have HAW := Lib.hid (awake05_any (St.start w))
  have hc : a0 ≤ 40 := by omega
  have hle0 : a0 ≤ 0 := by omega
  go_enter Try.func7, Try.ntmps7
  go_wp2_with fail
  refine HAW.out.mono ?_
  rintro e w2 ⟨rfl, h2⟩
  have HON := Lib.hid (permOne_neg h2 a0 hneg)
  clear h2 HAW
  go_wp2_with fail
  refine HON.out.mono ?_
  rintro e w3 ⟨p, v, rfl, h3⟩
  have HT1 := Lib.hid (permThen_none (.pointer none) (.pointer (some ⟨p, 0, none⟩)) w3 (.inl ⟨rfl, _, rfl⟩))
  have HT2 := Lib.hid (permThen_none (.pointer (some ⟨p, 0, none⟩)) (.pointer none) w3 (.inr ⟨⟨_, rfl⟩, rfl⟩))
  have hpv : PermV w [cellT p (permObj v), rowT 3 v (intsOf (oneL 0))] p v (oneL 0) := PermV.of (by simp) (by simp)
  have HPV := Lib.hid hpv
  obtain ⟨a, c, rfl, j1, j2⟩ := ownsRow_slice h3.swap.row
  clear j1 j2
  rw [intsOf_len, oneL_len] at h3
  have HLN := Lib.hid (permLen_any (w := w3) (p := p) (a := a) (n := 0) (c := c) (h3.cellAt 0))
  have HOB := Lib.hid (permOrbits_any h3 p (.slice a 0 c) (oneL 0) (by simp) (by simp) (oneL_perm 0) (by rw [oneL_len]; omega))
  clear h3 HON hpv
  go_wp2_with fail
  refine HT1.out.mono ?_
  rintro e w4 ⟨rfl, rfl⟩
  go_wp2_with fail
  refine HT2.out.mono ?_
  rintro e w4 ⟨rfl, rfl⟩
  go_wp2_with fail
  refine HLN.out.mono ?_
  rintro e w4 ⟨rfl, rfl⟩
  clear HT1 HT2 HLN
  go_wp2_with fail
  refine HOB.out.mono ?_
  rintro e w5 ⟨v5, ps, rfl, hps, h5⟩
  obtain ⟨a5, c5, rfl, j1, j2⟩ := ownsRow_slice h5.row
  have hpl : (ps.map Prod.fst).length = 0 := by
    have := congrArg List.length hps
    rw [List.length_map, orbsN_len, oneL_len, rank_one 0 0 (Nat.le_refl _)] at this
    rw [List.length_map]; exact this
  rw [hpl] at h5 ⊢
  have H6 := Lib.hid (St.drops (ps.map orbT) h5.tail)
  clear h5 HOB hpl hps
  go_wp2_with fail
  go_loopw [55] (fun kv wr => kv = .int .i64 0 ∧ St w wr (([cellT p (permObj (.slice a 0 c))] : List Thing) ++ [rowT 3 (.slice a 0 c) (intsOf (oneL 0))])) (fun _ _ => 0)
  case atStart => exact ⟨rfl, H6.out⟩
  case round =>
      obtain ⟨rfl, hS⟩ := hrel
      have HS := Lib.hid hS
      have HT := Lib.hid (Turned.no p (.slice a 0 c) (oneL 0))
      clear hS H6
      go_wp2_with fail
      have HL := Lib.hid (permLen_nil wr)
      have HLI := Lib.hid (permList_nil wr)
      have HOR := Lib.hid (permOrbit_nil a1 wr)
      have HOS := Lib.hid (permOrbits_nil HS.out)
      refine HL.out.mono ?_
      rintro e w7 ⟨rfl, rfl⟩
      go_wp2_with fail
      refine HLI.out.mono ?_
      rintro e w7 ⟨rfl, rfl⟩
      go_wp2_with fail
      refine HOR.out.mono ?_
      rintro e w7 ⟨rfl, rfl⟩
      go_wp2_with fail
      refine HOS.out.mono ?_
      rintro e w7 ⟨rfl, h7⟩
      have HNM := Lib.hid (permNames_nil h7)
      clear h7 HOS HOR HLI HL
      go_wp2_with fail
      refine HNM.out.mono ?_
      rintro e w8 ⟨a8, c8, rfl, h8⟩
      have HA := Lib.hid (permAt_nil a1 w8)
      have HB := Lib.hid (permBack_nil a1 w8)
      have HI := Lib.hid (permInverse_nil w8)
      have HSN := Lib.hid (permSame_nilnil h8)
      clear h8 HNM
      go_wp2_with fail
      refine HA.out.mono ?_
      rintro e w9 ⟨rfl, rfl⟩
      go_wp2_with fail
      refine HB.out.mono ?_
      rintro e w9 ⟨rfl, rfl⟩
      go_wp2_with fail
      refine HI.out.mono ?_
      rintro e w9 ⟨rfl, rfl⟩
      go_wp2_with fail
      refine HSN.out.mono ?_
      rintro e w9 ⟨rfl, h9⟩
      have HO0 := Lib.hid (permOne_nat h9 0 (by omega))
      clear h9 HSN HI HA HB
      go_wp2_with fail
      refine HO0.out.mono ?_
      rintro e w10 ⟨q, u, rfl, h10⟩
      have HS0 := Lib.hid (permSame_nil h10 q u (oneL 0) (PermV.of (List.mem_cons_self ..) (List.mem_cons_of_mem _ (List.mem_cons_self ..))) (by rw [oneL_len]; omega))
      clear h10 HO0
      go_wp2_with fail
      refine HS0.out.mono ?_
      rintro e w11 ⟨he11, h11⟩
      have he12 : e = .returned (.bool true) := by rw [he11]; rfl
      clear he11
      subst he12
      have hpv : PermV w ([cellT p (permObj (.slice a 0 c))] ++ [rowT 3 (.slice a 0 c) (intsOf (oneL 0))]) p (.slice a 0 c) (oneL 0) := HT.out.perm (by simp)
      have HSP := Lib.hid (permSame_nil (h11.tail.tail) p (.slice a 0 c) (oneL 0) hpv (by rw [oneL_len]; omega))
      clear h11 hpv HS0
      have hd : decide ([] = oneL 0) = true := by rfl
      rw [hd] at HSP
      clear hd
      go_wp2_with fail
      refine HSP.out.mono ?_
      rintro e w12 ⟨rfl, h12⟩
      have HB12 := Lib.hid h12.bel
      clear h12
      go_wp2_with fail
      go_ret
      exact ⟨rfl, HB12.out⟩
theorem permNil_walk (a0 : Int) (a1 : Int) (a2 : Option Addr) (len2 cap2 : Nat) (z2 : List Int) (w : World) (w0 : (Lit.int .i64 a0).wf = true) (w1 : (Lit.int .i64 a1).wf = true) (w2 : IsRow .i64 w a2 len2 cap2 z2) :
    Calls Try.prog 7 #[.int .i64 a0, .int .i64 a1, .slice a2 len2 cap2] w fun e w' => e = .returned (.bool true) ∧ Below w.heap.size w w' := by
  by_cases hn : a0 < 0
  · exact permNil_neg a0 a1 hn a2 len2 cap2 w
  · by_cases h4 : 40 < a0
    · exact permNil_pos a0 a1 40 (.inl ⟨h4, rfl⟩) a2 len2 cap2 w
    · exact permNil_pos a0 a1 a0.toNat (.inr ⟨by omega, by omega⟩) a2 len2 cap2 w
end Go.Proofs.Ytongakmljbebfaa

