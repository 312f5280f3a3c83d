/- label.Size, label.Decode, Perm.List, and the document's Width. -/
import Derived.Test.YtoipbbobkllddaaReadsP
import Derived.Test.YtoipbbobkllddaaReader
import Derived.Test.YtoipbbobkllddaaMates
import Derived.Lib.ItoaNum
namespace Go.Proofs.Ytoipbbobkllddaa
open Go.RowKit

theorem width_least (n : Nat) (h : n ≤ 1099511627776) (k : Nat) : (2 ^ k < n ↔ k < widthN n) ∧ widthN n ≤ 41 := by
  by_cases h2 : n < 2
  · have hw : widthN n = 0 := by unfold widthN; rw [if_pos h2]
    have := Nat.two_pow_pos k
    rw [hw]; omega
  · have hw : widthN n = Lib.bitLen (n - 1) := by unfold widthN; rw [if_neg h2]
    have hb := Lib.bitLenAux_bounds 64 (n - 1) (by omega) (by omega)
    have hl := Lib.bitLen_le (n - 1) 41 (by decide) (by omega)
    obtain ⟨h3, h4, h5⟩ := hb
    rw [hw]
    unfold Lib.bitLen at hl ⊢
    generalize Lib.bitLenAux 64 (n - 1) = W at *
    refine ⟨⟨fun hk => ?_, fun hk => ?_⟩, hl⟩
    · apply Classical.byContradiction
      intro hn
      have : 2 ^ W ≤ 2 ^ k := Nat.pow_le_pow_right (by decide) (by omega)
      omega
    · have : 2 ^ k ≤ 2 ^ (W - 1) := Nat.pow_le_pow_right (by decide) (by omega)
      omega

theorem widthN_16 (n : Nat) (h : n ≤ 65536) : widthN n ≤ 16 := by
  apply Classical.byContradiction
  intro hn
  have := ((width_least n (by omega) 16).1).2 (by omega)
  have h2 : (2 : Nat) ^ 16 = 65536 := by decide
  omega

set_option maxRecDepth 100000 in
set_option maxHeartbeats 1000000 in
theorem refWidth20_any (n : Nat) (hn : n ≤ 65536) (w : World) : Calls Try.prog 25 #[.int .i64 n] w fun e w' => e = .returned (.int .i64 (widthN n : Nat)) ∧ w = w' := by
  have HL := Lib.hid (fun k => (width_least n (by omega) k).1)
  have HW := Lib.hid (widthN_16 n hn)
  go_enter Try.func25, Try.ntmps25
  go_wp2_with fail
  go_loopw [3, 4] (fun kv xv wr => ∃ k : Nat, k ≤ widthN n ∧ kv = .int .i64 k ∧ xv = .int .i64 ((2 ^ k : Nat) : Int) ∧ w = wr) (fun kv _ _ => widthN n - (intOf kv).toNat)
  case atStart => exact ⟨0, by omega, rfl, rfl, rfl⟩
  case round =>
    obtain ⟨k, hk, rfl, rfl, rfl⟩ := hrel
    have HS : Hid ((2 ^ (k + 1) : Nat) = 2 ^ k * 2) := Nat.pow_succ _ _
    have hp16 : 2 ^ k ≤ 2 ^ 16 := Nat.pow_le_pow_right (by decide) (by have := HW.out; omega)
    have h16 : (2 : Nat) ^ 16 = 65536 := by decide
    rw [h16] at hp16
    have hk16 : k ≤ 16 := by have := HW.out; omega
    by_cases hlt : 2 ^ k < n
    · have hkw : k < widthN n := (HL.out k).1 hlt
      generalize 2 ^ k = x at hp16 HS hlt ⊢
      clear h16
      go_wp2_with fail
      go_roundw
      case rel => exact ⟨k + 1, by omega, by go_num, by rw [HS.out]; go_num, by first | rfl | trivial⟩
      case measure => simp [intOf]; omega
    · have hkw : k = widthN n := by
        apply Classical.byContradiction
        intro hne
        exact hlt ((HL.out k).2 (by omega))
      have HKW := Lib.hid hkw
      clear hkw h16 HS
      generalize 2 ^ k = x at hp16 hlt ⊢
      go_wp2_with fail
      go_ret
      exact ⟨by rw [← HKW.out]; rfl, rfl⟩

set_option maxRecDepth 100000 in
theorem labSize_any (n : Nat) (hn : n ≤ 65536) (w : World) : Calls Try.prog 22 #[.int .i64 n] w fun e w' => e = .returned (.int .i64 ((n * (widthN n + 1) : Nat) : Int)) ∧ w = w' := by
  have hw := widthN_16 n hn
  have HW := Lib.hid (width_any (n : Int) (by omega) (by omega) w)
  rw [Int.toNat_natCast] at HW
  obtain ⟨W, hW⟩ : ∃ W, widthN n = W := ⟨_, rfl⟩
  rw [hW] at HW hw ⊢
  have hb : n * (W + 1) ≤ 65536 * 17 := Nat.mul_le_mul hn (by omega)
  have he : ((n * (W + 1) : Nat) : Int) = (n : Int) * ((W : Int) + 1) := by simp
  have hb2 : (n : Int) * ((W : Int) + 1) ≤ 1114112 := by rw [← he]; exact Int.ofNat_le.2 hb
  have hb3 : 0 ≤ (n : Int) * ((W : Int) + 1) := by rw [← he]; exact Int.natCast_nonneg _
  have HE := Lib.hid he
  clear he hb hW
  go_enter Try.func22, Try.ntmps22
  go_wp2_with fail
  refine HW.out.mono ?_
  rintro e w1 ⟨rfl, rfl⟩
  go_wp2
  go_ret
  exact ⟨by rw [HE.out]; rfl, rfl⟩

set_option maxRecDepth 100000 in
theorem permList_any {w0 w : World} {os : List Thing} (h : St w0 w os) (p : Nat) (v : Value) (xs : List Int) (hm1 : cellT p (permObj v) ∈ os) (hm2 : rowT 3 v (intsOf xs) ∈ os) (hl : xs.length ≤ 1000000) :
    Calls Try.prog 30 #[.pointer (some ⟨p, 0, none⟩)] w fun e w' => ∃ v', e = .returned v' ∧ St w0 w' (rowT 3 v' (intsOf xs) :: os) := by
  have hc := h.permAt hm1
  have HCL := Lib.hid (cloneInts_any v (intsOf xs) w (h.reads hm2) (ints_oneCell xs) (by rw [intsOf_len]; omega))
  have H := Lib.hid h
  clear h
  go_enter Try.func30, Try.ntmps30
  go_wp2_with fail
  refine HCL.out.mono ?_
  rintro e w2 ⟨v2, rfl, ho, hk⟩
  have H2 := Lib.hid (H.out.newRow hk ho)
  clear ho hk
  go_wp2
  go_ret
  exact ⟨_, rfl, H2.out⟩

theorem num_one (l : List Bool) (a : Nat) (h : a < l.length) : BitsP.num ((l.drop a).take 1) = (l.getD a false).toNat := by
  rw [List.drop_eq_getElem_cons h, List.getD_eq_getElem?_getD, List.getElem?_eq_getElem h, List.take_succ_cons, List.take_zero, Option.getD_some]
  cases l[a] <;> rfl

theorem two_oneCell {x y : Int} : ∀ u ∈ [Value.int .i64 x, Value.int .i64 y], u.oneCell' = true := by
  intro u hu
  rcases List.mem_cons.1 hu with rfl | hu
  · rfl
  · rcases List.mem_cons.1 hu with rfl | hu
    · rfl
    · cases hu

/-- how Decode answers -/
def DecOut (w0 : World) (os : List Thing) (l : List Bool) (edges : Int) (e : Ending) (w' : World) : Prop :=
  (¬ (0 ≤ edges ∧ edges ≤ 65536 ∧ l.length = edges.toNat * (widthN edges.toNat + 1)) ∧ e = .returned (.tuple #[.pointer none, .int .i64 1]) ∧ St w0 w' os) ∨
  (∃ n : Nat, edges = n ∧ n ≤ 65536 ∧ l.length = n * (widthN n + 1) ∧ ∃ OS, PermOut w0 (OS ++ os) (decL l (widthN n) n) e w')

set_option maxRecDepth 100000 in
set_option maxHeartbeats 4000000 in
theorem labDec_any {w0 w : World} {os : List Thing} (h : St w0 w os) {b : Nat} {v : Value} {l : List Bool} (hm : vecT b v l ∈ os) (edges : Int) (he1 : -9223372036854775808 ≤ edges) (he2 : edges ≤ 9223372036854775807) (hl : l.length ≤ 1000000) :
    Calls Try.prog 13 #[.pointer (some ⟨b, 0, none⟩), .int .i64 edges] w fun e w' => DecOut w0 os l edges e w' := by
  obtain ⟨i0, hi, hz0, hz1, hz2⟩ := info_parts info_i64
  have H := Lib.hid h
  have HM := Lib.hid hm
  clear h hm
  by_cases hneg : edges < 0
  · have HNO : Hid (¬ (0 ≤ edges ∧ edges ≤ 65536 ∧ l.length = edges.toNat * (widthN edges.toNat + 1))) := fun h => by have := h.1; omega
    go_enter Try.func13, Try.ntmps13
    go_wp2_with fail
    go_ret2
    exact .inl ⟨HNO.out, rfl, H.out⟩
  · by_cases hbig : 65536 < edges
    · have HNO : Hid (¬ (0 ≤ edges ∧ edges ≤ 65536 ∧ l.length = edges.toNat * (widthN edges.toNat + 1))) := fun h => by have := h.2.1; omega
      go_enter Try.func13, Try.ntmps13
      go_wp2_with fail
      go_ret2
      exact .inl ⟨HNO.out, rfl, H.out⟩
    · obtain ⟨n, rfl⟩ : ∃ n : Nat, edges = n := ⟨edges.toNat, by omega⟩
      have hn : n ≤ 65536 := by omega
      have HSZ := Lib.hid (labSize_any n hn w)
      obtain ⟨W, hW⟩ : ∃ W, widthN n = W := ⟨_, rfl⟩
      have hw16 := widthN_16 n hn
      rw [hW] at HSZ hw16
      have HW := Lib.hid hW
      obtain ⟨N, hN⟩ : ∃ N, l.length = N := ⟨_, rfl⟩
      have HN := Lib.hid hN
      have HLEN := Lib.hid (vecLen_any (b := b) (v := v) (l := l) H.out HM.out)
      rw [hN] at HLEN hl
      obtain ⟨Z, hZ⟩ : ∃ Z, n * (W + 1) = Z := ⟨_, rfl⟩
      rw [hZ] at HSZ
      have HZ := Lib.hid hZ
      clear hW hN hZ
      by_cases hNZ : N = Z
      · subst hNZ
        go_enter Try.func13, Try.ntmps13
        go_wp2_with fail
        refine HLEN.out.mono ?_
        rintro e w1 ⟨rfl, rfl⟩
        go_wp2_with fail
        refine HSZ.out.mono ?_
        rintro e w1 ⟨rfl, rfl⟩
        go_wp2_with fail
        refine (read_any H.out HM.out (by rw [HN.out]; omega)).mono ?_
        rintro e w2 ⟨r, c, v', rfl, h2⟩
        have S2 : Hid (St w0 w2 (cellT r (readerObj c l.length (0 * (W + 1))) :: vecT c v' l :: rowT 3 (.slice none 0 0) (intsOf (decL l W 0)) :: os)) := by
          rw [Nat.zero_mul]
          have := (h2.newRow (E := 3) (Keeps.refl _ _) (World.ownsRow_nil _ _ _ _)).swap
          exact this.perm (List.Perm.cons _ (List.Perm.swap _ _ _))
        clear h2 H HM HLEN HSZ
        go_wp2_with fail
        go_loopw [7, 29] (fun lv ev wr => ∃ e : Nat, e ≤ n ∧ ev = .int .i64 e ∧ St w0 wr (cellT r (readerObj c l.length (e * (W + 1))) :: vecT c v' l :: rowT 3 lv (intsOf (decL l W e)) :: os)) (fun _ ev _ => n - (intOf ev).toNat)
        case atStart => exact ⟨0, by omega, rfl, S2.out⟩
        case round =>
          obtain ⟨e, he, rfl, hS⟩ := hrel
          have HS := Lib.hid hS
          clear hS S2
          by_cases hlt : e < n
          · obtain ⟨a, ha⟩ : ∃ a, e * (W + 1) = a := ⟨_, rfl⟩
            have haw : a + (W + 1) ≤ l.length := by
              rw [HN.out, ← HZ.out, ← ha, ← Nat.succ_mul]; exact Nat.mul_le_mul_right _ (by omega)
            rw [ha] at HS
            have HAA := Lib.hid (And.intro ha haw)
            have hL6 : l.length ≤ 1000000 := by rw [HN.out]; exact hl
            have HWD := Lib.hid (width_any (n : Int) (by omega) (by omega) wr)
            rw [Int.toNat_natCast, HW.out] at HWD
            have HN1 := Lib.hid (readerNum_any HS.out (W : Int) (by omega) (by omega) (by rw [clamp_nat W (by omega)]; omega))
            rw [clamp_nat W (by omega)] at HN1
            obtain ⟨X, hX⟩ : ∃ X, BitsP.num ((l.drop a).take W) = X := ⟨_, rfl⟩
            have hXb : X < 65536 := by
              have h1 := BitsP.num_lt ((l.drop a).take W)
              have h2 : ((l.drop a).take W).length ≤ 16 := Nat.le_trans (List.length_take_le ..) hw16
              have h3 : 2 ^ ((l.drop a).take W).length ≤ 2 ^ 16 := Nat.pow_le_pow_right (by decide) h2
              have h4 : (2 : Nat) ^ 16 = 65536 := by decide
              omega
            rw [hX] at HN1
            have HX := Lib.hid hX
            clear ha haw hX
            go_wp2_with fail
            refine HWD.out.mono ?_
            rintro e' w3 ⟨rfl, rfl⟩
            go_wp2_with fail
            refine HN1.out.mono ?_
            rintro e' w4 ⟨rfl, h4⟩
            have HN2 := Lib.hid (readerNum_any h4 1 (by have := HAA.out.2; omega) (by omega) (by rw [show clamp 1 = 1 from rfl]; have := HAA.out.2; omega))
            rw [show clamp 1 = 1 from rfl, num_one l (a + W) (by have := HAA.out.2; omega)] at HN2
            obtain ⟨t, ht⟩ : ∃ t, l.getD (a + W) false = t := ⟨_, rfl⟩
            rw [ht] at HN2
            have HT := Lib.hid ht
            clear h4 HN1 HWD HS ht
            go_wp2_with fail
            refine HN2.out.mono ?_
            rintro e' w5 ⟨rfl, h5⟩
            have S5 := Lib.hid h5.rot3
            clear h5 HN2
            have htb : t.toNat < 2 := by cases t <;> decide
            have hdat : dAt l W e = 2 * X + t.toNat := by unfold dAt; rw [HAA.out.1, HX.out, HT.out]
            have hdi : (2 * (X : Int) + ((t.toNat : Nat) : Int)) = ((2 * X + t.toNat : Nat) : Int) := by omega
            have hxo := xor_one (2 * X + t.toNat) (by omega)
            have HR2 := Lib.hid (fun (w1 : World) (y z : Int) => Reads.made w1 #[.int .i64 y, .int .i64 z] 3 (0, 0) 2 (by simp) (by decide))
            have HLN : Hid ((intsOf (decL l W e)).length ≤ 131072) := by show _ ≤ _; rw [intsOf_len, decL_len]; omega
            have HE : Hid (intsOf (decL l W e) ++ [.int .i64 (2 * (X : Int) + ((t.toNat : Nat) : Int)), .int .i64 (bits BinOp.xor IntKind.i64 (2 * (X : Int) + ((t.toNat : Nat) : Int)) 1)] = intsOf (decL l W (e + 1))) := by
              show _ = _
              rw [hdi, hxo, show decL l W (e + 1) = decL l W e ++ [(dAt l W e : Int), mateI (dAt l W e : Int)] from rfl, hdat]
              simp [intsOf]
            have HPOS : Hid ((e + 1) * (W + 1) = a + W + 1) := by show _ = _; rw [Nat.succ_mul, HAA.out.1]; rfl
            clear hdat hdi hxo
            go_wp2_with (at_builtin; refine wpList_append_st rfl _ _ 22 rfl 3 i0 (.int .i64 0) 8 Try.underlying22 hi hz0 hz1 hz2 rfl _ _ _ [.int .i64 (2 * (X : Int) + ((t.toNat : Nat) : Int)), .int .i64 (bits BinOp.xor IntKind.i64 (2 * (X : Int) + ((t.toNat : Nat) : Int)) 1)] rfl (by first | rfl | simp) (S5.out.alloc _) (HR2.out _ _ _) two_oneCell ?c1 ?c2 ?_)
            case c1 => have := HLN.out; simp only [List.length_cons, List.length_nil]; unfold maxLen; omega
            case c2 => have := HLN.out; simp only [List.length_cons, List.length_nil]; omega
            intro v6 w6 h6
            rw [HE.out] at h6
            have S6 := Lib.hid h6.rot3.rot3
            clear h6 S5
            go_wp2_with fail
            go_roundw
            case rel => exact ⟨e + 1, by omega, by go_num, by rw [HPOS.out]; exact S6.out⟩
            case measure => simp [intOf]; omega
          · obtain rfl : e = n := by omega
            have HP := Lib.hid (permOf_any HS.out u7 (decL l W e) (by rw [decL_len]; omega) (fun w' os' h' => h'.reads (E := 3) (v := u7) (xs := intsOf (decL l W e)) (by simp)))
            go_wp2_with fail
            refine HP.out.mono ?_
            rintro e' w3 h3
            have HLL : Hid (l.length = e * (widthN e + 1)) := by show _ = _; rw [HW.out, HN.out, HZ.out]
            rcases h3 with ⟨hip, p, vp, rfl, hS3⟩ | ⟨hip, rfl, hS3⟩
            · have HS3 := Lib.hid hS3
              have HIP := Lib.hid hip
              clear hS3 hip
              go_wp2_with fail
              go_ret2
              exact .inr ⟨e, rfl, hn, HLL.out, [_, _, _], by rw [HW.out]; exact .inl ⟨HIP.out, p, vp, rfl, HS3.out⟩⟩
            · have HS3 := Lib.hid hS3
              have HIP := Lib.hid hip
              clear hS3 hip
              go_wp2_with fail
              go_ret2
              exact .inr ⟨e, rfl, hn, HLL.out, [_, _, _], by rw [HW.out]; exact .inr ⟨HIP.out, rfl, HS3.out⟩⟩
      · have HNO : Hid (¬ (0 ≤ (n : Int) ∧ (n : Int) ≤ 65536 ∧ l.length = (n : Int).toNat * (widthN (n : Int).toNat + 1))) := fun h => by
          have := h.2.2
          rw [Int.toNat_natCast, HW.out, HN.out, HZ.out] at this
          exact hNZ this
        go_enter Try.func13, Try.ntmps13
        go_wp2_with fail
        refine HLEN.out.mono ?_
        rintro e w1 ⟨rfl, rfl⟩
        go_wp2_with fail
        refine HSZ.out.mono ?_
        rintro e w1 ⟨rfl, rfl⟩
        go_wp2_with fail
        go_ret2
        exact .inl ⟨HNO.out, rfl, H.out⟩
end Go.Proofs.Ytoipbbobkllddaa

