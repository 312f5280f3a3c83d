/- The document's Encode of names. -/
import Derived.Test.YtoipbbobkllddaaMixP
import Derived.Test.YtoipbbobkllddaaNilPm
import Derived.Test.YtoipbbobkllddaaRefLabel
import Derived.Deep.RegionHeld3
namespace Go.Proofs.Ytoipbbobkllddaa
open Go.RowKit

theorem enc_snoc (xs : List Int) (n e x : Nat) (hx : xs.getD (2 * e) 0 = x) :
    intsOf (bitsOf (labelB xs n e)) ++ intsOf (bitsOf (numBits (x / 2) (widthN n))) ++ [Value.int .i64 (x % 2 : Nat)] = intsOf (bitsOf (labelB xs n (e + 1))) := by
  show _ = intsOf (bitsOf (labelB xs n e ++ numBits (xs.getD (2 * e) 0 / 2).toNat (widthN n) ++ [xs.getD (2 * e) 0 % 2 != 0]))
  rw [bitsOf_append, bitsOf_append, hx, show ((x : Int) / 2).toNat = x / 2 by omega]
  congr 1
  have hb : (((x : Int) % 2) != 0) = decide (x % 2 = 1) := by
    by_cases h : x % 2 = 1
    · rw [decide_eq_true h]; exact bne_iff_ne.2 (by omega)
    · rw [decide_eq_false h]; exact bne_eq_false_iff_eq.2 (by omega)
  rw [hb]
  by_cases h : x % 2 = 1
  · rw [decide_eq_true h, h]; rfl
  · rw [decide_eq_false h, show x % 2 = 0 by omega]; rfl


set_option maxRecDepth 100000 in
set_option maxHeartbeats 4000000 in
theorem refEnc_any {w0 w : World} {os : List Thing} (h : St w0 w os) (sv : Value) (xs : List Int) (n : Nat) (hv : ∀ w' os', St w0 w' (os' ++ os) → Reads w' sv (intsOf xs)) (hp : IsPerm xs) (hl : xs.length = 2 * n) (hn : n ≤ 1000) :
    Calls Try.prog 20 #[sv] w fun e w' => ∃ v, e = .returned v ∧ St w0 w' (rowT 3 v (intsOf (bitsOf (labelB xs n n))) :: os) := by
  obtain ⟨i0, hii, hz0, hz1, hz2⟩ := info_parts info_i64
  have HR1 := Lib.hid (fun (w1 : World) (y : Int) => Reads.made w1 #[.int .i64 y] 3 (0, 0) 1 (by simp) (by decide))
  obtain ⟨aS, cS, rfl, j1, j2, j3, j4⟩ := hv w [] h
  clear j1 j2 j3 j4
  obtain ⟨N, hN⟩ : ∃ N, 2 * n = N := ⟨_, rfl⟩
  rw [intsOf_len, hl] at hv ⊢
  rw [hN] at hl hv ⊢
  have hq : (N : Int).tdiv 2 = (n : Int) := by rw [Int.tdiv_eq_ediv_of_nonneg (by omega)]; omega
  have hN1 : N ≤ 2000 := by omega
  have hw16 := widthN_16 n (by omega)
  have HW := Lib.hid (fun W => refWidth20_any n (by omega) W)
  obtain ⟨Q, hQ⟩ : ∃ Q, widthN n = Q := ⟨_, rfl⟩
  rw [hQ] at HW hw16
  have HQ := Lib.hid hQ
  have HN := Lib.hid hN
  have HL := Lib.hid hl
  have HP := Lib.hid hp
  have HV0 := Lib.hid hv
  have HV : Hid (∀ a w' os', St w0 w' (os' ++ (a :: os)) → Reads w' (.slice aS N cS) (intsOf xs)) := fun a w' os' hW => hv w' (os' ++ [a]) (by simpa using hW)
  have S1 : Hid (St w0 w (rowT 3 (.slice none 0 0) (intsOf (bitsOf (labelB xs n 0))) :: os)) := h.newRow (Keeps.refl _ _) (World.ownsRow_nil _ _ _ _)
  have HBL : Hid (∀ e, (intsOf (bitsOf (labelB xs n e))).length = e * (Q + 1)) := by
    intro e
    rw [intsOf_len, bitsOf_len, labelB_length, hQ]
  have HNL : Hid (∀ k, (intsOf (bitsOf (numBits k Q))).length = Q) := by
    intro k
    rw [intsOf_len, bitsOf_len, numBits_len]
  clear h hv hl hp hN hQ
  go_enter Try.func20, Try.ntmps20
  go_wp2_with fail
  go_loopw [4, 3] (fun ev ov wr => ∃ (e : Nat) (v : Value), e ≤ n ∧ ev = .int .i64 e ∧ ov = v ∧ St w0 wr (rowT 3 v (intsOf (bitsOf (labelB xs n e))) :: os)) (fun ev _ _ => n - (intOf ev).toNat)
  case atStart => exact ⟨0, _, by omega, rfl, rfl, S1.out⟩
  case round =>
    obtain ⟨e, v, he, rfl, rfl, hS⟩ := hrel
    obtain ⟨al, cl, rfl, j1, j2⟩ := ownsRow_slice hS.row
    clear j1 j2
    have hbe := HBL.out e
    have hbb : e * (Q + 1) ≤ 1000 * 17 := Nat.mul_le_mul (by omega) (by omega)
    obtain ⟨LB, hLB⟩ : ∃ LB, (intsOf (bitsOf (labelB xs n e))).length = LB := ⟨_, rfl⟩
    rw [hLB] at hS hbe ⊢
    have HLB := Lib.hid hLB
    have hLB1 : LB ≤ 17000 := by omega
    have HS := Lib.hid hS
    clear hS S1 hLB hbe hbb
    obtain ⟨d, hd⟩ : ∃ d, 2 * e = d := ⟨_, rfl⟩
    have hdi : 2 * (e : Int) = (d : Int) := by omega
    have hdm : d ≤ 2000 := by omega
    by_cases hlt : e < n
    · have hdN : d < N := by have := HN.out; omega
      have hdx : d < xs.length := by rw [HL.out]; exact hdN
      have hgd := getD_perm HP.out hdx
      obtain ⟨hx1, hx2⟩ := toN_lt HP.out hdx
      obtain ⟨x, hx⟩ : ∃ x, toN xs d = x := ⟨_, rfl⟩
      rw [hx] at hx1 hx2 hgd
      have hxN : x < N := by rw [← HL.out]; exact hx1
      have hsn := enc_snoc xs n e x (by rw [hd]; exact hgd.1)
      rw [HQ.out] at hsn
      obtain ⟨k, hk⟩ : ∃ k, x / 2 = k := ⟨_, rfl⟩
      obtain ⟨r, hr⟩ : ∃ r, x % 2 = r := ⟨_, rfl⟩
      rw [hk, hr] at hsn
      have HSN := Lib.hid hsn
      have htd : (x : Int).tdiv 2 = (k : Int) := by rw [Int.tdiv_eq_ediv_of_nonneg (by omega)]; omega
      have htm : (x : Int).tmod 2 = (r : Int) := by rw [Int.tmod_eq_emod_of_nonneg (by omega)]; omega
      have hkN : k ≤ N := by omega
      have hrl : r ≤ 1 := by omega
      obtain ⟨a8, c8, he8, q1, q2, q3, hc8⟩ := HV.out _ wr [] HS.out
      simp only [Value.slice.injEq] at he8
      obtain ⟨rfl, hq8, rfl⟩ := he8
      have hv8 : (intsOf xs)[d]? = some (.int .i64 x) := by simp only [intsOf, List.getElem?_map, hx2]; rfl
      rcases hc8 with hc8 | ⟨pb, po, rfl, hc8⟩
      · rw [hc8] at hv8; simp at hv8
      have cx := hc8 d _ hv8
      have HNM := Lib.hid (refNum_any HS.out.drew k (by omega) (Q : Int))
      rw [clamp_nat Q (by omega)] at HNM
      have HCX : Hid (∀ W os', St w0 W (os' ++ os) → W.cell? ⟨pb, po + d, none⟩ = some (.int .i64 (x : Nat))) := by
        intro W os' hW
        obtain ⟨a', c', he', _, _, _, hc'⟩ := HV0.out W os' hW
        simp only [Value.slice.injEq] at he'
        obtain ⟨ha', _, _⟩ := he'
        rcases hc' with hc' | ⟨b', off', hb', hc'⟩
        · rw [hc'] at hv8; simp at hv8
        · rw [hb'] at ha'
          cases ha'
          exact hc' d _ hv8
      clear hc8 hv8 hq8 q1 q2 q3 hx hx1 hx2 hgd hdx hsn hk hr
      have hd0 : (0 : Int) ≤ (d : Int) := by omega
      have hw1 : IntKind.i64.wrap (d : Int) = (d : Int) := IntWalk.i64_in _ (by omega)
      have hw2 : IntKind.i64.wrap (k : Int) = (k : Int) := IntWalk.i64_in _ (by omega)
      have hw4 : IntKind.u64.wrap (k : Int) = (k : Int) := IntWalk.u64_in _ (by omega)
      have hw3 : IntKind.i64.wrap (n : Int) = (n : Int) := IntWalk.i64_in _ (by omega)
      have hd1 : (d : Int) < (N : Int) := by omega
      go_wp2_with fail
      go_region_held3 (fun w' => w'.cell? ⟨pb, po + d, none⟩ = some (.int .i64 (x : Nat))) (go_keep)
        (first | (go_at_call 25; refine (HW.out _).mono ?_; rintro e5 w5 ⟨rfl, rfl⟩)
               | (go_at_call 52; refine HNM.out.mono ?_; rintro e6 w6 ⟨v6, rfl, h6⟩; have H6 := Lib.hid h6.swap; have R6 := Lib.hid (h6.reads (List.mem_cons_self ..)); have kU := HCX.out w6 [_, _] h6; clear h6)
               | (refine step_append_st rfl (.tmp 12) (.tmp 24) 22 rfl 3 i0 (.int .i64 0) 8 Try.underlying22 hii hz0 hz1 hz2 rfl (.slice al LB cl) _ (intsOf (bitsOf (labelB xs n e))) (intsOf (bitsOf (numBits k Q))) (by simp [Act.eval, Act.put]) (by simp [Act.eval, Act.put]) H6.out R6.out (bits_oneCell _) (by rw [HLB.out, HNL.out]; unfold maxLen; omega) (by rw [HLB.out, HNL.out]; omega) ?_; intro v7 w7 h7; have kU := HCX.out w7 [_, _] h7; have H7 := Lib.hid h7; clear h7))
      obtain ⟨a7, c7, rfl, j1, j2⟩ := ownsRow_slice H7.out.row
      have hl7 : (intsOf (bitsOf (labelB xs n e)) ++ intsOf (bitsOf (numBits k Q))).length = LB + Q := by rw [List.length_append, HLB.out, HNL.out]
      have HL7 := Lib.hid hl7
      rw [hl7] at H7 ⊢
      clear hl7 j1 j2 HS H6 R6 HNM
      go_wp2_with (at_builtin; refine wpList_append_st rfl _ _ 22 rfl 3 i0 (.int .i64 0) 8 Try.underlying22 hii hz0 hz1 hz2 rfl _ _ _ [.int .i64 (r : Nat)] rfl (by first | rfl | simp) (H7.out.alloc _) (HR1.out _ _) (one_oneCell' _ rfl) ?c1 ?c2 ?_)
      case c1 => simp only [HL7.out, List.length_cons, List.length_nil]; unfold maxLen; omega
      case c2 => simp only [HL7.out, List.length_cons, List.length_nil]; omega
      intro v9 w9 h9
      rw [← List.append_assoc, HSN.out] at h9
      have H9 := Lib.hid h9.swap.tail
      clear h9 H7
      go_wp2_with fail
      go_roundw
      case rel => exact ⟨e + 1, _, by omega, by go_num, rfl, H9.out⟩
      case measure => simp [intOf]; omega
    · have hdN : ¬ (d : Int) < (N : Int) := by have := HN.out; omega
      have hdN2 : ¬ d < N := by omega
      have hen : e = n := by omega
      have HF : Hid (labelB xs n e = labelB xs n n) := by show _ = _; rw [hen]
      clear hen hlt he hd
      go_wp2_with fail
      go_ret
      exact ⟨_, rfl, by have := HS.out; rw [HF.out] at this; exact this⟩
end Go.Proofs.Ytoipbbobkllddaa

