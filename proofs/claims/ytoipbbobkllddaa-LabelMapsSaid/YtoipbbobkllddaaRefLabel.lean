/- The document's Decode of names. -/
import Derived.Test.YtoipbbobkllddaaLabelDec
namespace Go.Proofs.Ytoipbbobkllddaa
open Go.RowKit

theorem ib_take (l : List Bool) (k : Nat) : (intsOf (bitsOf l)).take k = intsOf (bitsOf (l.take k)) := by simp [intsOf, bitsOf, List.map_take]
theorem ib_drop (l : List Bool) (k : Nat) : (intsOf (bitsOf l)).drop k = intsOf (bitsOf (l.drop k)) := by simp [intsOf, bitsOf, List.map_drop]

set_option maxRecDepth 100000 in
set_option maxHeartbeats 4000000 in
theorem refDec_any {w0 w : World} {os : List Thing} (h : St w0 w os) (sv : Value) (l : List Bool) (n : Nat) (hn : n ≤ 65536) (hln : l.length = n * (widthN n + 1)) (hl : l.length ≤ 1000000) (hd6 : 2 * n ≤ 1000000)
    (hv : ∀ w' os', St w0 w' (os' ++ os) → Reads w' sv (intsOf (bitsOf l))) :
    Calls Try.prog 28 #[sv, .int .i64 n] w fun e w' => ∃ (v : Value) (r : Bool), e = .returned (.tuple #[v, .bool r]) ∧ (r = true ↔ Mates (decL l (widthN n) n)) ∧ St w0 w' (rowT 3 v (intsOf (decL l (widthN n) n)) :: os) := by
  obtain ⟨i0, hi, hz0, hz1, hz2⟩ := info_parts info_i64
  obtain ⟨a0, c0, rfl, hcap0, hcm0, _, _⟩ := hv w [] h
  rw [intsOf_len, bitsOf_len] at *
  have HRW := Lib.hid (refWidth20_any n hn w)
  have hw16 := widthN_16 n hn
  obtain ⟨W, hW⟩ : ∃ W, widthN n = W := ⟨_, rfl⟩
  rw [hW] at HRW hw16 hln ⊢
  have S0 : Hid (St w0 w (rowT 3 (.slice none 0 0) (intsOf (decL l W 0)) :: os)) := h.newRow (Keeps.refl _ _) (World.ownsRow_nil _ _ _ _)
  have HV0 : Hid (∀ w' os', St w0 w' (os' ++ os) → Reads w' (.slice a0 (l.length - 0 * (W + 1)) c0) (intsOf (bitsOf (l.drop (0 * (W + 1)))))) := by
    rw [Nat.zero_mul, Nat.sub_zero, List.drop_zero]; exact hv
  have HLN := Lib.hid hln
  have e0 : l.length = l.length - 0 * (W + 1) := by omega
  clear h hv hW hln hcap0 hcm0
  go_enter Try.func28, Try.ntmps28
  go_wp2_with fail
  refine HRW.out.mono ?_
  rintro e w1 ⟨rfl, rfl⟩
  have HE0 := Lib.hid e0
  clear e0
  go_wp2_with fail
  go_loopw [0, 6, 8] (fun vv ov ev wr => ∃ e : Nat, e ≤ n ∧ ev = .int .i64 e ∧ ∃ a cap, vv = .slice a (l.length - e * (W + 1)) cap ∧
    (∀ w' os', St w0 w' (os' ++ os) → Reads w' (.slice a (l.length - e * (W + 1)) cap) (intsOf (bitsOf (l.drop (e * (W + 1)))))) ∧
    St w0 wr (rowT 3 ov (intsOf (decL l W e)) :: os)) (fun _ _ ev _ => n - (intOf ev).toNat)
  case atStart => exact ⟨0, by omega, rfl, a0, c0, by rw [← HE0.out], HV0.out, S0.out⟩
  case round =>
    obtain ⟨e, he, rfl, a, cap, rfl, hV, hS⟩ := hrel
    have HS := Lib.hid hS
    have HV := Lib.hid hV
    clear hS hV S0 HV0
    by_cases hlt : e < n
    · obtain ⟨A, hA⟩ : ∃ A, e * (W + 1) = A := ⟨_, rfl⟩
      have hAw : A + (W + 1) ≤ l.length := by
        rw [HLN.out, ← hA, ← Nat.succ_mul]; exact Nat.mul_le_mul_right _ (by omega)
      rw [hA] at HV ⊢
      obtain ⟨R, hR⟩ : ∃ R, l.length - A = R := ⟨_, rfl⟩
      have hRw : W + 1 ≤ R := by omega
      have hRl : R ≤ 1000000 := by omega
      rw [hR] at HV ⊢
      have HAR := Lib.hid (And.intro hA (And.intro hR hAw))
      have hrd := HV.out wr [_] HS.out
      have hcapR := hrd.len_le
      have hval := refValue_any (.slice a W cap) ((l.drop A).take W) wr (by have := hrd.take W (by omega); rwa [ib_take] at this) (Nat.le_trans (List.length_take_le ..) (by omega))
      obtain ⟨X, hX⟩ : ∃ X, BitsP.num ((l.drop A).take W) = X := ⟨_, rfl⟩
      have hXb : X < 65536 := by
        have h1 := BitsP.num_lt ((l.drop A).take W)
        have h2 : ((l.drop A).take W).length ≤ 16 := Nat.le_trans (List.length_take_le ..) hw16
        have h3 : 2 ^ ((l.drop A).take W).length ≤ 2 ^ 16 := Nat.pow_le_pow_right (by decide) h2
        have h4 : (2 : Nat) ^ 16 = 65536 := by decide
        omega
      rw [hX] at hval
      have HVAL := Lib.hid hval
      obtain ⟨t, ht⟩ : ∃ t, l.getD (A + W) false = t := ⟨_, rfl⟩
      have htb : t.toNat < 2 := by cases t <;> decide
      obtain ⟨ao, cp, hee, _, hcm, _, hcc⟩ := hrd
      simp only [Value.slice.injEq] at hee
      obtain ⟨rfl, hq9, rfl⟩ := hee
      clear hq9
      have hcm2 : cap ≤ 9223372036854775807 := by unfold maxLen at hcm; omega
      rcases hcc with hcc | ⟨g, off, rfl, hcc⟩
      · exfalso
        have : (l.drop A).length = 0 := by rw [← bitsOf_len, ← intsOf_len, hcc]; rfl
        rw [List.length_drop] at this; omega
      have ct : wr.cell? ⟨g, off + W, none⟩ = some (.int .i64 ((t.toNat : Nat) : Int)) := by
        refine hcc W _ ?_
        have hlt2 : A + W < l.length := by omega
        simp only [intsOf, bitsOf, List.getElem?_map, List.getElem?_drop, List.getElem?_eq_getElem hlt2, Option.map_some]
        rw [← ht, List.getD_eq_getElem?_getD, List.getElem?_eq_getElem hlt2]; rfl
      have hdat : dAt l W e = 2 * X + t.toNat := by unfold dAt; rw [hA, hX, ht]
      have hdi : (2 * (X : Int) + ((t.toNat : Nat) : Int)) = ((2 * X + t.toNat : Nat) : Int) := by omega
      have HMT := Lib.hid (fun W' => mate6_any (2 * (X : Int) + ((t.toNat : Nat) : Int)) (by omega) (by omega) W')
      have HR2 := Lib.hid (fun (w1 : World) (y z : Int) => Reads.made w1 #[.int .i64 y, .int .i64 z] 3 (0, 0) 2 (by simp) (by decide))
      have HLE : Hid ((intsOf (decL l W e)).length ≤ 131072) := by show _ ≤ _; rw [intsOf_len, decL_len]; omega
      have HE : Hid (intsOf (decL l W e) ++ [.int .i64 (2 * (X : Int) + ((t.toNat : Nat) : Int)), .int .i64 (mateI (2 * (X : Int) + ((t.toNat : Nat) : Int)))] = intsOf (decL l W (e + 1))) := by
        show _ = _
        rw [hdi, show decL l W (e + 1) = decL l W e ++ [(dAt l W e : Int), mateI (dAt l W e : Int)] from rfl, hdat]
        simp [intsOf]
      have HPOS : Hid ((e + 1) * (W + 1) = A + (W + 1)) := by show _ = _; rw [Nat.succ_mul, hA]
      clear hcc hdat hdi hA hR hAw hX ht hcm hval
      by_cases hcw : cap = W + 1
      · subst hcw
        go_wp2_with fail
        refine HVAL.out.mono ?_
        rintro e' w2 ⟨rfl, rfl⟩
        go_wp2_with fail
        refine (HMT.out wr).mono ?_
        rintro e' w2 ⟨rfl, rfl⟩
        go_wp2_with (at_builtin; refine wpList_append_st rfl _ _ 22 rfl 3 i0 (.int .i64 0) 8 Try.underlying22 hi hz0 hz1 hz2 rfl _ _ _ [.int .i64 (2 * (X : Int) + ((t.toNat : Nat) : Int)), .int .i64 (mateI (2 * (X : Int) + ((t.toNat : Nat) : Int)))] rfl (by first | rfl | simp) (HS.out.alloc _) (HR2.out _ _ _) two_oneCell ?c1 ?c2 ?_)
        case c1 => have := HLE.out; simp only [List.length_cons, List.length_nil]; unfold maxLen; omega
        case c2 => have := HLE.out; simp only [List.length_cons, List.length_nil]; omega
        intro v6 w6 h6
        rw [HE.out] at h6
        have S6 := Lib.hid h6
        have HR0 : Hid (l.length - (e + 1) * (W + 1) = 0) := by show _ = _; rw [HPOS.out]; have := HAR.out.2.1; omega
        have HRR : Hid (R - (W + 1) = 0) := by show _ = _; omega
        clear h6 HS
        go_wp2_with fail
        go_roundw
        case rel =>
          refine ⟨e + 1, by omega, by go_num, some ⟨g, off, none⟩, 0, by rw [HR0.out], ?_, S6.out⟩
          intro w' os' h'
          rw [HR0.out]
          have : l.drop ((e + 1) * (W + 1)) = [] := List.drop_eq_nil_of_le (by have := HR0.out; omega)
          rw [this]
          exact ⟨_, 0, rfl, Nat.le_refl _, by decide, (fun h => by cases h), .inl rfl⟩
        case measure => simp [intOf]; omega
      · go_wp2_with fail
        refine HVAL.out.mono ?_
        rintro e' w2 ⟨rfl, rfl⟩
        go_wp2_with fail
        refine (HMT.out wr).mono ?_
        rintro e' w2 ⟨rfl, rfl⟩
        go_wp2_with (at_builtin; refine wpList_append_st rfl _ _ 22 rfl 3 i0 (.int .i64 0) 8 Try.underlying22 hi hz0 hz1 hz2 rfl _ _ _ [.int .i64 (2 * (X : Int) + ((t.toNat : Nat) : Int)), .int .i64 (mateI (2 * (X : Int) + ((t.toNat : Nat) : Int)))] rfl (by first | rfl | simp) (HS.out.alloc _) (HR2.out _ _ _) two_oneCell ?c1 ?c2 ?_)
        case c1 => have := HLE.out; simp only [List.length_cons, List.length_nil]; unfold maxLen; omega
        case c2 => have := HLE.out; simp only [List.length_cons, List.length_nil]; omega
        intro v6 w6 h6
        rw [HE.out] at h6
        have S6 := Lib.hid h6
        have HR0 : Hid (l.length - (e + 1) * (W + 1) = R - (W + 1)) := by show _ = _; rw [HPOS.out]; have := HAR.out.2.1; omega
        clear h6 HS
        go_wp2_with fail
        go_roundw
        case rel =>
          refine ⟨e + 1, by omega, by go_num, some ⟨g, off + (W + 1), none⟩, cap - (W + 1), by rw [HR0.out], ?_, S6.out⟩
          intro w' os' h'
          rw [HR0.out, HPOS.out]
          have := (HV.out w' os' h').drop (W + 1) (by omega)
          rwa [ib_drop, List.drop_drop] at this
        case measure => simp [intOf]; omega
    · obtain rfl : e = n := by omega
      have HMA := Lib.hid (refMates_any u6 (decL l W e) wr (HS.out.reads (List.mem_cons_self ..)) (by rw [decL_len]; omega))
      go_wp2_with fail
      refine HMA.out.mono ?_
      rintro e' w3 ⟨r, rfl, hr, hk⟩
      have H3 := Lib.hid (HS.out.same hk)
      have HRR := Lib.hid hr
      clear hk hr
      go_wp2_with fail
      go_ret2
      exact ⟨_, r, rfl, HRR.out, H3.out⟩
end Go.Proofs.Ytoipbbobkllddaa

