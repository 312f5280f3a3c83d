/- The walk of BitsReads. -/
import Derived.Test.YtpepihciaendlaaOf
namespace Go.Proofs.Ytpepihciaendlaa
open Go.RowKit

/-- ints that came in -/
theorem IsRow.ints {w : World} {a : Option Addr} {len cap : Nat} {zs : List Int} (h : IsRow .i64 w a len cap zs) :
    ∃ l : List Int, l.length = len ∧ (∀ x ∈ l, -9223372036854775808 ≤ x ∧ x < 9223372036854775808) ∧ Reads w (.slice a len cap) (intsOf l) ∧ len ≤ maxLen := by
  obtain ⟨h1, h2, h3, h4, h5⟩ := h.reads
  exact ⟨zs.take len, h2, fun x hx => wf_i64 (h4 x hx), h1, h3⟩

theorem St.readsCell {w0 w : World} {os : List Thing} {b : Nat} {c : Array Value} {E : TypeId} {fz : Nat × Nat} (h : St w0 w (cellT b (.cells c E fz) :: os)) (n : Nat) (hn : c.size = n) (hm : n ≤ maxLen) :
    Reads w (.slice (some ⟨b, 0, none⟩) n n) c.toList := by
  refine ⟨_, n, by simp [hn], by simp [hn], hm, by simp, .inr ⟨b, 0, rfl, fun i u hu => ?_⟩⟩
  rw [Nat.zero_add, h.cellAt i]
  simpa using hu

theorem fewOf_len (p : List Nat) (most : Nat) : (fewOf p most).length ≤ most := by
  unfold fewOf; rw [List.length_take]; omega

theorem intsOf_drop (l : List Bool) (k : Nat) : (intsOf (bitsOf l)).drop k = intsOf (bitsOf (l.drop k)) := by simp [intsOf, bitsOf, List.map_drop]
theorem intsOf_take (l : List Bool) (k : Nat) : (intsOf (bitsOf l)).take k = intsOf (bitsOf (l.take k)) := by simp [intsOf, bitsOf, List.map_take]

set_option maxRecDepth 100000 in
set_option maxHeartbeats 4000000 in
theorem bitsReads_walk (a0 : Option Addr) (len0 cap0 : Nat) (z0 : List Int) (a1 : Option Addr) (len1 cap1 : Nat) (z1 : List Int) (w : World) (w0 : IsRow .u8 w a0 len0 cap0 z0) (w1 : IsRow .i64 w a1 len1 cap1 z1) :
    Calls Try.prog 3 #[.slice a0 len0 cap0, .slice a1 len1 cap1] w fun e w' => e = .returned (.bool true) ∧ Below w.heap.size w w' := by
  obtain ⟨p, e0, hp, R0, m0⟩ := w0.bytes
  obtain ⟨xs, e1, hx, R1, m1⟩ := w1.ints
  have hplen : p.length ≤ 9223372036854775807 := by unfold maxLen at m0; omega
  have H := Lib.hid (St.start w)
  have HR0 := Lib.hid R0
  have HR1 := Lib.hid R1
  have HX := Lib.hid hx
  have HPL := Lib.hid hplen
  have HP := Lib.hid hp
  have p1 := R1.len_le
  clear w0 w1 m0 m1 R0 R1 hx hp hplen
  subst e1
  clear e0
  go_enter Try.func3, Try.ntmps3
  go_wp2_with fail
  refine (awake_any H.out).mono ?_
  rintro e w1 ⟨rfl, h1⟩
  have H1 := Lib.hid h1
  clear h1 H
  go_wp2_with fail
  refine (refFew_any H1.out _ p HP.out HPL.out (fun w' o h' => h'.arg HR0.out) 300 (by decide)).mono ?_
  rintro e w2 ⟨v, rfl, h2⟩
  have hL := fewOf_len p 300
  generalize fewOf p 300 = L at h2 hL
  obtain ⟨a, cap, rfl, hcap, hcm⟩ := ownsRow_slice h2.row
  rw [intsOf_len, bitsOf_len] at h2 hcap ⊢
  have HA : Hid (a = none ∨ ∃ g o, a = some ⟨g, o, none⟩) := by
    rcases (h2.rowN (n := L.length) (by rw [intsOf_len, bitsOf_len])).2 with ⟨he, _⟩ | ⟨g, cap, cur, he, _⟩
    · simp only [Value.slice.injEq] at he; exact .inl he.1
    · simp only [Value.slice.injEq] at he; exact .inr ⟨g, 0, he.1⟩
  have H2 := Lib.hid h2
  clear h2 H1 HR0 HP HPL
  go_wp2_with fail
  refine (of_any H2.out _ L (by omega) (fun w' os' h' => h'.reads (E := 3) (by simp))).mono ?_
  rintro e w3 ⟨b, v, rfl, h3⟩
  have H3 := Lib.hid h3
  clear h3 H2
  go_wp2_with fail
  refine (read_any (v := v) (l := L) H3.out (by simp) (by omega)).mono ?_
  rintro e w4 ⟨r, c, v', rfl, h4⟩
  have H4 := Lib.hid h4.rot3
  clear h4 H3
  go_wp2_with fail
  have H5 := Lib.hid (H4.out.newCell (.cells #[.int .i64 1, .int .i64 0, .int .i64 1] 3)).swap
  refine (vecAdd_any H5.out _ [1, 0, 1] (fun w' v' l' h' => h'.swap.readsCell 3 rfl (by decide)) (by simp; omega)).mono ?_
  rintro e w5 ⟨rfl, v5, h5⟩
  have H6 := Lib.hid h5.tail.tail
  clear h5 H5 H4
  go_wp2_with fail
  go_loopw [26, 5] (fun i sv wr => ∃ (k t : Nat) (a' : Option Addr) (cap' : Nat), k ≤ xs.length ∧ t ≤ L.length ∧ (a' = none ∨ ∃ g o, a' = some ⟨g, o, none⟩) ∧ i = .int .i64 k ∧ sv = .slice a' (L.length - t) cap' ∧ (∀ w' : World, Reads w' (.slice a L.length cap) (intsOf (bitsOf L)) → Reads w' (.slice a' (L.length - t) cap') (intsOf (bitsOf (L.drop t)))) ∧
    St w wr (cellT r (readerObj c L.length t) :: vecT c v' L :: rowT 3 (.slice a L.length cap) (intsOf (bitsOf L)) :: [])) (fun i _ _ => xs.length - (intOf i).toNat)
  case atStart => exact ⟨0, 0, a, cap, by omega, by omega, HA.out, rfl, rfl, fun w' h => h, H6.out⟩
  case round =>
    obtain ⟨k, t, a', cap', hk, ht, ha', rfl, rfl, hsub, hS⟩ := hrel
    have HA' := Lib.hid ha'
    clear ha'
    clear H6
    by_cases hlt : k < xs.length
    · obtain ⟨ao', cap1', he, _, _, _, hc⟩ := hS.arg HR1.out
      rw [intsOf_len] at he
      simp only [Value.slice.injEq] at he
      obtain ⟨rfl, hdrop, rfl⟩ := he
      clear hdrop
      rcases hc with hc | ⟨bb, off, rfl, hc⟩
      · have : xs = [] := by simpa [intsOf] using hc
        subst this; simp at hlt
      have cb := hc k _ (intsOf_get xs k hlt)
      have hx2 := HX.out _ (List.getElem_mem hlt)
      generalize xs[k] = x at cb hx2
      have HS := Lib.hid hS
      have HSUB := Lib.hid hsub
      have hRl := (hsub wr (hS.reads (E := 3) (by simp))).len_le
      have hcl := sizeOf_clamp x
      have hcle := clamp_le x
      have HCL := Lib.hid hcl
      clear hS hsub hc hcl
      by_cases h40 : 40 ≤ k
      · go_wp2
        go_ret
        exact ⟨rfl, HS.out.bel⟩
      · by_cases hsh : L.length - t < clamp x
        · go_wp2_with fail
          refine (readerNum_short HS.out x ht (by omega) hsh).mono ?_
          rintro e w6 ⟨rfl, h6⟩
          have HS6 := Lib.hid h6
          clear h6 HS
          go_wp2_with fail
          refine (refSize_any x _).mono ?_
          rintro e w7 ⟨rfl, rfl⟩
          rw [HCL.out]
          go_wp2_with fail
          refine (readerLeft_any (c := c) HS6.out (by simp) ht (by omega)).mono ?_
          rintro e w8 ⟨rfl, hk8⟩
          have HS8 := Lib.hid (HS6.out.same hk8)
          clear hk8 HS6
          go_wp2_with fail
          go_roundw
          case rel => exact ⟨k + 1, t, a', cap', by omega, ht, HA'.out, by go_num, rfl, HSUB.out, HS8.out⟩
          case measure => simp [intOf]; omega
        · have hn : clamp x ≤ L.length - t := by omega
          go_wp2_with fail
          refine (readerNum_any HS.out x ht (by omega) hn).mono ?_
          rintro e w6 ⟨rfl, h6⟩
          have HS6 := Lib.hid h6
          clear h6 HS
          go_wp2_with fail
          refine (refSize_any x _).mono ?_
          rintro e w7 ⟨rfl, rfl⟩
          rw [HCL.out]
          clear hsh
          obtain ⟨n, hnn⟩ : ∃ n, clamp x = n := ⟨_, rfl⟩
          have HNN := Lib.hid hnn
          rw [hnn] at hn hcle ⊢
          have HRV : Hid (Calls Try.prog 17 #[.slice a' n cap'] w6 fun e w' => e = .returned (.int .u64 (BitsP.num ((L.drop t).take n) : Nat)) ∧ w6 = w') := by
            refine refValue_any (.slice a' n cap') ((L.drop t).take n) w6 ?_ ?_
            · rw [← intsOf_take]
              exact (HSUB.out w6 (HS6.out.reads (E := 3) (by simp))).take n hn
            · rw [List.length_take]; omega
          clear hnn
          generalize BitsP.num ((L.drop t).take n) = q at HRV ⊢
          have hncap : n ≤ cap' := by omega
          go_wp2_with fail
          refine HRV.out.mono ?_
          rintro e w7 ⟨rfl, rfl⟩
          have hnt : t + n ≤ L.length := by omega
          have HS7 : Hid (St w w6 (cellT r (readerObj c L.length (t + n)) :: vecT c v' L :: rowT 3 (.slice a L.length cap) (intsOf (bitsOf L)) :: [])) := by
            have := HS6.out
            rw [HNN.out] at this
            exact this
          clear HS6 HRV
          have HLR := Lib.hid ((HSUB.out w6 (HS7.out.reads (E := 3) (by simp))))
          have hcm2 : cap' ≤ 9223372036854775807 := by
            obtain ⟨_, _, he, _, hm, _⟩ := HLR.out
            simp only [Value.slice.injEq] at he
            obtain ⟨_, _, rfl⟩ := he
            unfold maxLen at hm; omega
          by_cases hcn : cap' = n
          · subst hcn
            have h0 : L.length - (t + cap') = 0 := by omega
            have h00 : L.length - t - cap' = 0 := by omega
            have HD : Hid (L.drop (t + cap') = []) := List.drop_eq_nil_of_le (by omega)
            have HZ := Lib.hid h0
            go_wp2_with fail
            refine (readerLeft_any (c := c) HS7.out (by simp) hnt (by omega)).mono ?_
            rintro e w8 ⟨rfl, hk8⟩
            have HS8 := Lib.hid (HS7.out.same hk8)
            clear hk8 HS7
            go_wp2_with fail
            go_roundw
            case rel => exact ⟨k + 1, t + cap', a', 0, by omega, hnt, HA'.out, by go_num, by rw [HZ.out], fun w' _ => by rw [HZ.out, HD.out]; exact ⟨a', 0, rfl, Nat.le_refl _, by decide, fun _ => rfl, .inl rfl⟩, HS8.out⟩
            case measure => simp [intOf]; omega
          · rcases HA'.out with rfl | ⟨g, o, rfl⟩
            · exfalso
              obtain ⟨_, _, he, _, _, hz, _⟩ := HLR.out
              simp only [Value.slice.injEq] at he
              obtain ⟨he1, _, rfl⟩ := he
              have := hz he1.symm
              omega
            have e3 : L.length - (t + n) = L.length - t - n := by omega
            have HE := Lib.hid e3
            clear e3
            go_wp2_with fail
            refine (readerLeft_any (c := c) HS7.out (by simp) hnt (by omega)).mono ?_
            rintro e w8 ⟨rfl, hk8⟩
            have HS8 := Lib.hid (HS7.out.same hk8)
            clear hk8 HS7
            rw [HE.out]
            go_wp2_with fail
            go_roundw
            case rel =>
              refine ⟨k + 1, t + n, some ⟨g, o + n, none⟩, cap' - n, by omega, hnt, .inr ⟨_, _, rfl⟩, by go_num, by rw [HE.out], fun w' hr => ?_, HS8.out⟩
              have := (HSUB.out w' hr).drop n hn
              rw [intsOf_drop, List.drop_drop] at this
              rw [HE.out]
              exact this
            case measure => simp [intOf]; omega
    · have HS := Lib.hid hS
      clear hS hsub
      go_wp2
      go_ret
      exact ⟨rfl, HS.out.bel⟩
end Go.Proofs.Ytpepihciaendlaa

