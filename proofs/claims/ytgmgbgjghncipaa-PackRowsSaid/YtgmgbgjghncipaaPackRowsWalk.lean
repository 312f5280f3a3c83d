/- The walk of PackRows. -/
import Derived.Test.YtgmgbgjghncipaaPackHelp
import Derived.Test.YtgmgbgjghncipaaPackLaw
import Derived.Test.YtgmgbgjghncipaaGrid
import Derived.Test.YtgmgbgjghncipaaSame
namespace Go.Proofs.Ytgmgbgjghncipaa
open Go.RowKit

/-- packs that stand one behind the other -/
def packsB (plain : Bool) (ls : List (List Nat)) : List Nat := ls.flatMap fun p => packB plain (fewOf p 200)

theorem fewOf_le (p : List Nat) (n : Nat) : (fewOf p n).length ≤ n := by unfold fewOf; exact List.length_take_le ..

theorem packsB_len (plain : Bool) (ls : List (List Nat)) : (packsB plain ls).length ≤ 26 * ls.length := by
  induction ls with
  | nil => simp [packsB]
  | cons p ls ih =>
    unfold packsB at ih ⊢
    rw [List.flatMap_cons, List.length_append, List.length_cons]
    have h1 : (packB plain (fewOf p 200)).length ≤ _ := packK_len plain (fewOf p 200) 9
    have h2 := fewOf_le p 200
    omega

theorem packsB_byte (plain : Bool) (ls : List (List Nat)) : ∀ x ∈ packsB plain ls, x < 256 := by
  intro x hx
  unfold packsB at hx
  obtain ⟨p, _, h⟩ := List.mem_flatMap.1 hx
  exact packB_byte plain _ x h

theorem packsB_snoc (plain : Bool) (ls : List (List Nat)) (i : Nat) (h : i < ls.length) : packsB plain (ls.take i) ++ packB plain (fewOf ls[i] 200) = packsB plain (ls.take (i + 1)) := by
  unfold packsB
  rw [List.take_succ_eq_append_getElem h, List.flatMap_append]; simp

theorem packsB_cons (plain : Bool) (ls : List (List Nat)) (i : Nat) (h : i < ls.length) : packsB plain (ls.drop i) = packB plain (fewOf ls[i] 200) ++ packsB plain (ls.drop (i + 1)) := by
  unfold packsB
  rw [List.drop_eq_getElem_cons h, List.flatMap_cons]

theorem packB_true (l : List Bool) : packB true l = 0 :: bytesB l := by
  rcases packK_is true l 9 (Nat.le_refl _) with h | ⟨h, _⟩
  · exact h
  · cases h

set_option maxRecDepth 100000 in
set_option maxHeartbeats 4000000 in
theorem packRows_walk (a0 : Option Addr) (len0 cap0 : Nat) (A0 : Nat → Option Addr) (L0 C0 : Nat → Nat) (Z0 : Nat → List Int) (a1 : Bool) (w : World) (w0 : IsGrid .u8 w a0 len0 cap0 A0 L0 C0 Z0) :
    Calls Try.prog 5 #[.slice a0 len0 cap0, .bool a1] w fun e w' => e = .returned (.bool true) ∧ Below w.heap.size w w' := by
  obtain ⟨i0, hi, hz0, hz1, hz2⟩ := info_parts info_u8
  obtain ⟨ls0, hls0, hG0, hlm⟩ := w0.bytes
  have H := Lib.hid (St.start w)
  obtain ⟨m, hm, hm1, hm2⟩ : ∃ m, m = min len0 5 ∧ m ≤ len0 ∧ m ≤ 5 := ⟨_, rfl, by omega, by omega⟩
  have hmin : ∀ w, (Builtin.min_ #[3, 3] 3 #[.int .i64 len0, .int .i64 5]).run Try.prog w = .ok (.int .i64 m) w := fun w => by
    rw [run_min2]
    congr 2
    split <;> omega
  have hcc : len0 ≤ cap0 ∧ cap0 ≤ 9223372036854775807 := by
    obtain ⟨vs, h1, h2, _⟩ := hG0
    have h3 := h2.len_le
    obtain ⟨_, _, he, _, hm, _⟩ := h2
    simp only [Value.slice.injEq] at he
    obtain ⟨_, _, rfl⟩ := he
    unfold maxLen at hm; omega
  obtain ⟨hlc, hcm⟩ := hcc
  obtain ⟨ls, hls⟩ : ∃ ls, ls0.take m = ls := ⟨_, rfl⟩
  have hlsl : ls.length = m := by rw [← hls, List.length_take]; omega
  have HG : Hid (∀ i (h : i < ls.length), ∃ b off a' cap', a0 = some ⟨b, off, none⟩ ∧ w.cell? ⟨b, off + i, none⟩ = some (.slice a' (ls[i]).length cap') ∧ Reads w (.slice a' (ls[i]).length cap') (bytesOf ls[i]) ∧ (∀ x ∈ ls[i], x < 256) ∧ (ls[i]).length ≤ maxLen) := by
    intro i h
    have h1 := hG0.get i (by omega)
    have h2 : ls[i] = ls0[i]'(by omega) := by simp only [← hls, List.getElem_take]
    rw [h2]; exact h1
  have HPK : Hid (∀ (i : Nat), i ≤ 5 → (bytesOf (packsB a1 (ls.take i))).length ≤ 130) := by
    intro i _
    rw [bytesOf_len]
    have := packsB_len a1 (ls.take i)
    rw [List.length_take] at this; omega
  clear hG0 w0 hls hm hls0
  go_enter Try.func5, Try.ntmps5
  go_wp2_with fail
  refine (awake19_any H.out).mono ?_
  rintro e w1 ⟨rfl, h1⟩
  have H1 : Hid (St w w1 [rowT 5 (.slice none 0 0) (bytesOf (packsB a1 (ls.take 0)))]) := h1.newRow (Keeps.refl _ _) (World.ownsRow_nil _ _ _ _)
  clear h1 H
  go_wp2_with fail
  go_loopw [5, 24] (fun av iv wr => ∃ i : Nat, i ≤ m ∧ iv = .int .i64 i ∧ St w wr [rowT 5 av (bytesOf (packsB a1 (ls.take i)))]) (fun _ iv _ => m - (intOf iv).toNat)
  case atStart => exact ⟨0, by omega, rfl, H1.out⟩
  case round =>
    obtain ⟨i, him, rfl, hS⟩ := hrel
    have HS := Lib.hid hS
    clear hS H1
    by_cases hlt : i < m
    · have hil : i < ls.length := by rw [hlsl]; exact hlt
      obtain ⟨b, off, a', cap', ha0, hcell, hR, hB, hL⟩ := HG.out i hil
      subst ha0
      obtain ⟨p, hp⟩ : ∃ p, ls[i]'(by omega) = p := ⟨_, rfl⟩
      rw [hp] at hcell hR hB hL
      have HPI := Lib.hid hp
      have HR := Lib.hid hR
      have hcr : wr.cell? ⟨b, off + i, none⟩ = some (.slice a' p.length cap') := by
        rw [HS.out.bel.cell (World.block_lt_of_cell? w _ hcell)]; exact hcell
      have HPB := Lib.hid hB
      have hpl : p.length ≤ 9223372036854775807 := by unfold maxLen at hL; omega
      clear hcell hR hB hL hp
      go_wp2_with fail
      refine (refFew_any HS.out _ p HPB.out hpl (fun w' o h' => h'.arg HR.out) 200 (by decide)).mono ?_
      rintro e w2 ⟨v2, rfl, h2⟩
      obtain ⟨F, hF⟩ : ∃ F, fewOf p 200 = F := ⟨_, rfl⟩
      have hFl : F.length ≤ 200 := by rw [← hF]; exact fewOf_le p 200
      have HF := Lib.hid hF
      rw [hF] at h2
      have H2 := Lib.hid h2
      clear h2 HS hF
      go_wp2_with fail
      refine (vec19_any H2.out _ F (by omega) (fun w' os' h' => h'.reads (E := 3) (by simp))).mono ?_
      rintro e w3 ⟨b3, v3, rfl, h3⟩
      have H3 := Lib.hid h3
      clear h3 H2
      go_wp2_with fail
      refine (pack_any H3.out _ F a1 (by omega) (VecIs.vec (b := b3) (v := v3) (l := F) (by simp) (by omega))).mono ?_
      rintro e w4 ⟨v4, rfl, h4⟩
      have RQ := Lib.hid (h4.reads (List.mem_cons_self ..))
      have H4 := Lib.hid h4.rot4
      have HQL : Hid ((bytesOf (packB a1 F)).length ≤ 30) := by show _ ≤ _; rw [bytesOf_len]; have := packK_len a1 F 9; unfold packB; omega
      have HPN := HPK.out i (by omega)
      clear h4 H3
      go_wp2_with (at_builtin; refine wpList_append_st rfl _ _ 23 rfl 5 i0 (.int .u8 0) 1 Try.underlying23 hi hz0 hz1 hz2 rfl _ _ _ (bytesOf (packB a1 F)) rfl rfl H4.out RQ.out (oneCell_bytes _) ?c1 ?c2 ?_)
      case c1 => have := HQL.out; unfold maxLen; omega
      case c2 => have := HQL.out; omega
      intro v5 w5 h5
      have hsn : bytesOf (packsB a1 (ls.take i)) ++ bytesOf (packB a1 F) = bytesOf (packsB a1 (ls.take (i + 1))) := by
        rw [← bytesOf_append, ← HF.out, ← HPI.out, packsB_snoc]
      rw [hsn] at h5
      have H5 := Lib.hid h5
      clear h5 H4 RQ hsn
      go_wp2_with fail
      refine (pack_any H5.out _ F true (by omega) (VecIs.vec (b := b3) (v := v3) (l := F) (by simp) (by omega))).mono ?_
      rintro e w6 ⟨v6, rfl, h6⟩
      obtain ⟨a6, c6, rfl, _, _⟩ := ownsRow_slice h6.row
      obtain ⟨n6, hn6⟩ : ∃ n, (packB true F).length = n := ⟨_, rfl⟩
      have HN6 : Hid (n6 = (F.length + 7) / 8 + 1) := by show _ = _; rw [← hn6, packB_true, List.length_cons, bytesB_len]
      rw [bytesOf_len, hn6] at h6 ⊢
      have H6 := Lib.hid h6
      have HN6b := Lib.hid hn6
      clear h6 H5 hn6
      go_wp2_with fail
      refine (pack_any H6.out _ F false (by omega) (VecIs.vec (b := b3) (v := v3) (l := F) (by simp) (by omega))).mono ?_
      rintro e w7 ⟨v7, rfl, h7⟩
      obtain ⟨a7, c7, rfl, _, _⟩ := ownsRow_slice h7.row
      obtain ⟨n7, hn7⟩ : ∃ n, (packB false F).length = n := ⟨_, rfl⟩
      have HN7 : Hid (n7 ≤ 1 + (F.length + 7) / 8) := by show _ ≤ _; rw [← hn7]; exact packK_len false F 9
      rw [bytesOf_len, hn7] at h7 ⊢
      have H7 := Lib.hid h7
      clear h7 H6 hn7
      have d0 : decide ((n6 : Int) < (n7 : Int)) = false := decide_eq_false (by have := HN6.out; have := HN7.out; omega)
      have d0' : ¬ n6 < n7 := by have := HN6.out; have := HN7.out; omega
      go_wp2_with fail
      refine (pack_any H7.out _ F true (by omega) (VecIs.vec (b := b3) (v := v3) (l := F) (by simp) (by omega))).mono ?_
      rintro e w8 ⟨v8, rfl, h8⟩
      obtain ⟨a8, c8, rfl, _, _⟩ := ownsRow_slice h8.row
      rw [bytesOf_len, HN6b.out] at h8 ⊢
      have H8 := Lib.hid h8
      clear h8 H7
      go_wp2_with fail
      refine (vecBytes_any (b := b3) (v := v3) (l := F) H8.out (by simp) (by omega)).mono ?_
      rintro e w9 ⟨g9, rfl, h9, _⟩
      have H9 : Hid (St w w9 [rowT 5 v5 (bytesOf (packsB a1 (ls.take (i + 1))))]) := h9.tail.tail.tail.tail.swap.tail.swap.tail.swap.tail
      clear h9 H8
      obtain ⟨n9, hn9⟩ : ∃ n, (F.length + 7) / 8 = n := ⟨_, rfl⟩
      have hn6' := HN6.out
      have hn7' := HN7.out
      rw [hn9] at hn6' hn7' ⊢
      have hn9b : n9 ≤ 1000 := by omega
      clear HN6 HN6b HN7 hn9 hn7' d0
      have d1 : ((n6 : Int) != 1 + (n9 : Int)) = false := bne_eq_false_iff_eq.2 (by omega)
      clear hn6'
      go_wp2_with fail
      go_roundw
      case rel => first | exact ⟨i + 1, by omega, by go_num, H9.out⟩ | ((repeat apply Exists.intro); exact ⟨⟨i + 1, by omega, by go_num, H9.out⟩, rfl⟩)
      case measure => simp [intOf]; omega
    · obtain rfl : i = m := by omega
      have hti : ls.take i = ls := by rw [← hlsl]; exact List.take_length ..
      have HS0 : Hid (St w wr [rowT 5 u5 (bytesOf (packsB a1 ls))]) := by show St _ _ _; rw [← hti]; exact HS.out
      obtain ⟨a5, c5, rfl, _, _⟩ := ownsRow_slice HS0.out.row
      rw [bytesOf_len] at HS0 ⊢
      clear HS hti
      obtain ⟨T, hT⟩ : ∃ T, packsB a1 ls = T := ⟨_, rfl⟩
      rw [hT] at HS0 ⊢
      have HT := Lib.hid hT
      clear hT
      go_wp2_with fail
      go_loopw [5, 56] (fun av iv wr => ∃ j : Nat, j ≤ i ∧ iv = .int .i64 j ∧ ∃ a cap, av = .slice a (packsB a1 (ls.drop j)).length cap ∧
        (∀ w' os', St w w' (os' ++ [rowT 5 (.slice a5 T.length c5) (bytesOf T)]) → Reads w' (.slice a (packsB a1 (ls.drop j)).length cap) (bytesOf (packsB a1 (ls.drop j)))) ∧
        St w wr [rowT 5 (.slice a5 T.length c5) (bytesOf T)]) (fun _ iv _ => i - (intOf iv).toNat)
      case atStart =>
        refine ⟨0, by omega, rfl, a5, c5, ?_, ?_, HS0.out⟩
        · rw [List.drop_zero, HT.out]
        · intro w' os' h'
          rw [List.drop_zero, HT.out]
          exact h'.reads (E := 5) (by simp)
      case round =>
        obtain ⟨j, hji, rfl, a, cap, rfl, hV, hS⟩ := hrel
        have HS := Lib.hid hS
        have HV := Lib.hid hV
        clear hS hV HS0
        by_cases hlt2 : j < i
        · obtain ⟨b, off, a', cap', rfl, hcell, hR, hB, hL⟩ := HG.out j (by omega)
          have hcons := packsB_cons a1 ls j (by omega)
          obtain ⟨p, hp⟩ : ∃ p, ls[j]'(by omega) = p := ⟨_, rfl⟩
          rw [hp] at hcell hR hB hL hcons
          have HR := Lib.hid hR
          have hcr : wr.cell? ⟨b, off + j, none⟩ = some (.slice a' p.length cap') := by
            rw [HS.out.bel.cell (World.block_lt_of_cell? w _ hcell)]; exact hcell
          have HPB := Lib.hid hB
          have hpl : p.length ≤ 9223372036854775807 := by unfold maxLen at hL; omega
          obtain ⟨F, hF⟩ : ∃ F, fewOf p 200 = F := ⟨_, rfl⟩
          have hFl : F.length ≤ 200 := by rw [← hF]; exact fewOf_le p 200
          have HF := Lib.hid hF
          rw [hF] at hcons
          obtain ⟨R, hR2⟩ : ∃ R, packsB a1 (ls.drop (j + 1)) = R := ⟨_, rfl⟩
          have hlen1 := packsB_len a1 (ls.drop j)
          rw [List.length_drop] at hlen1
          rw [hR2] at hcons
          have HR2 := Lib.hid hR2
          rw [hcons] at HV hlen1 ⊢
          have hbyte := packsB_byte a1 (ls.drop j)
          rw [hcons] at hbyte
          have HBY := Lib.hid hbyte
          obtain ⟨sz, hsz⟩ : ∃ sz, (packB a1 F).length = sz := ⟨_, rfl⟩
          have hsz0 : 0 < sz := by rw [← hsz]; obtain ⟨b0, r0, he0, _⟩ := readU_pack a1 F [] (by omega); rw [List.append_nil] at he0; rw [he0]; simp
          have hall : (packB a1 F ++ R).length = sz + R.length := by rw [List.length_append, hsz]
          have HALL := Lib.hid hall
          rw [hall] at HV hlen1 ⊢
          obtain ⟨ao, cp2, he, hcp, hcm2, _, hcc⟩ := HV.out wr [] HS.out
          simp only [Value.slice.injEq] at he
          obtain ⟨rfl, hq9, rfl⟩ := he
          clear hq9
          rw [bytesOf_len, hall] at hcp
          rcases hcc with hcc | ⟨g, of2, rfl, _⟩
          · exfalso
            have := congrArg List.length hcc
            rw [bytesOf_len, hall] at this; simp at this; omega
          have hcm3 : cap ≤ 9223372036854775807 := by unfold maxLen at hcm2; omega
          have HSZ := Lib.hid hsz
          clear hcell hR hB hL hp hcons hF hR2 hbyte hall hcm2 hsz
          go_wp2_with fail
          refine (refFew_any HS.out _ p HPB.out hpl (fun w' o h' => h'.arg HR.out) 200 (by decide)).mono ?_
          rintro e w2 ⟨v2, rfl, h2⟩
          rw [HF.out] at h2
          have H2 := Lib.hid h2
          clear h2 HS
          go_wp2_with fail
          refine (vec19_any H2.out _ F (by omega) (fun w' os' h' => h'.reads (E := 3) (by simp))).mono ?_
          rintro e w3 ⟨b3, v3, rfl, h3⟩
          have H3 := Lib.hid h3
          clear h3 H2
          go_wp2_with fail
          refine (vecLen_any (b := b3) (v := v3) (l := F) H3.out (by simp)).mono ?_
          rintro e w4 ⟨rfl, rfl⟩
          have hun := unpack_any H3.out (.slice (some ⟨g, of2, none⟩) (sz + R.length) cap) (packB a1 F ++ R) HBY.out F.length a1 (by rw [HALL.out]; omega) (fun w' os' h' => HV.out w' (os' ++ [_, _]) (by simpa using h'))
          have HUN := Lib.hid hun
          clear hun
          go_wp2_with fail
          refine HUN.out.mono ?_
          rintro e w5 h5
          have hF24 : F.length ≤ 16777216 := by omega
          have h7 := unOut_ok (plain := a1) (l := F) (rest := R) hF24 h5
          obtain ⟨o, v, he, h6⟩ := h7
          subst he
          rw [HSZ.out]
          have H6 := Lib.hid h6
          clear h5 h6 H3 HUN
          go_wp2_with fail
          refine (same_any (b := b3) (b' := o) (v := v3) (v' := v) (l := F) (l' := F) H6.out (by simp) (by simp)).mono ?_
          rw [decide_eq_true rfl]
          rintro e w7 ⟨rfl, m7, rfl⟩
          have H7 : Hid (St w (w5.drewN m7) [rowT 5 (.slice a5 T.length c5) (bytesOf T)]) := (H6.out.drewN m7).tail.tail.tail
          clear H6
          generalize w5.drewN m7 = W7 at H7 ⊢
          by_cases hcs : cap = sz
          · have hr0 : R.length = 0 := by omega
            have HR0 : Hid (R = []) := List.eq_nil_of_length_eq_zero hr0
            go_wp2_with fail
            go_roundw
            case rel =>
              refine ⟨j + 1, by omega, by go_num, some ⟨g, of2, none⟩, 0, ?_, ?_, H7.out⟩
              · rw [HR2.out, HR0.out]; try simp [hr0]
              · intro w' os' h'
                rw [HR2.out, HR0.out]
                exact ⟨_, 0, rfl, Nat.le_refl _, by decide, (fun h => by cases h), .inl rfl⟩
            case measure => simp [intOf]; omega
          · go_wp2_with fail
            go_roundw
            case rel =>
              refine ⟨j + 1, by omega, by go_num, some ⟨g, of2 + sz, none⟩, cap - sz, ?_, ?_, H7.out⟩
              · rw [HR2.out]; try simp
              · intro w' os' h'
                have := (HV.out w' os' h').drop sz (by omega)
                rw [bytesOf_drop, ← HSZ.out, List.drop_left, HSZ.out, Nat.add_sub_cancel_left] at this
                rw [HR2.out]; exact this
            case measure => simp [intOf]; omega
        · obtain rfl : j = i := by omega
          have hr0 : ls.drop j = [] := List.drop_eq_nil_of_le (by omega)
          rw [hr0]
          go_wp2_with fail
          go_ret
          exact ⟨rfl, HS.out.bel⟩
end Go.Proofs.Ytgmgbgjghncipaa

