/- label.Encode. -/
import Derived.Test.YtoipbbobkllddaaLabelP
import Derived.Test.YtoipbbobkllddaaLen64
import Derived.Test.YtoipbbobkllddaaRefNum
import Derived.Test.YtoipbbobkllddaaVecMore
import Derived.Laws.BitsAllLaws
namespace Go.Proofs.Ytoipbbobkllddaa
open Go.RowKit

/-- the bits of the first e edges of n -/
def labelB (xs : List Int) (n : Nat) : Nat → List Bool
  | 0 => []
  | e + 1 => labelB xs n e ++ numBits (xs.getD (2 * e) 0 / 2).toNat (widthN n) ++ [xs.getD (2 * e) 0 % 2 != 0]

theorem xor_one (x : Nat) (hx : x < 9223372036854775808) : bits BinOp.xor IntKind.i64 (x : Int) 1 = mateI (x : Int) := by
  have h1 : (x ^^^ 1) / 2 = x / 2 := by rw [Nat.xor_div_two]; simp
  have h2 : (x ^^^ 1) % 2 = (x + 1) % 2 := by
    have := Nat.xor_mod_two_pow (a := x) (b := 1) (n := 1)
    rw [show (2 : Nat) ^ 1 = 2 from rfl] at this
    rw [this]
    rcases Nat.mod_two_eq_zero_or_one x with h | h
    · rw [h, show (x + 1) % 2 = 1 by omega]; rfl
    · rw [h, show (x + 1) % 2 = 0 by omega]; rfl
  have hlt : x ^^^ 1 < 9223372036854775808 := by omega
  show IntKind.i64.wrap ((BitVec.ofInt 64 (x : Int) ^^^ BitVec.ofInt 64 ((1 : Nat) : Int)).toNat : Int) = _
  rw [BitVec.toNat_xor, ofInt_u64 x (by omega), ofInt_u64 1 (by omega)]
  have hw : IntKind.i64.wrap ((x ^^^ 1 : Nat) : Int) = ((x ^^^ 1 : Nat) : Int) := by
    simp only [IntKind.wrap, IntKind.bits, IntKind.signed]; simp; omega
  rw [hw]
  unfold mateI
  by_cases h : (x : Int) % 2 = 0
  · rw [if_pos h]; omega
  · rw [if_neg h]; omega

/-- how Encode answers at a permutation -/
def LabOut (w0 : World) (os : List Thing) (xs : List Int) (e : Ending) (w' : World) : Prop :=
  (xs.length % 2 = 0 ∧ MatesTo xs (xs.length / 2) ∧ ∃ b vv, e = .returned (.tuple #[.pointer (some ⟨b, 0, none⟩), .int .i64 0]) ∧ St w0 w' (vecT b vv (labelB xs (xs.length / 2) (xs.length / 2)) :: os)) ∨
  (¬ (xs.length % 2 = 0 ∧ MatesTo xs (xs.length / 2)) ∧ e = .returned (.tuple #[.pointer none, .int .i64 4]) ∧ ∃ OS, St w0 w' (OS ++ os))

theorem labEnc_nil (w : World) : Calls Try.prog 12 #[.pointer none] w fun e w' => e = .returned (.tuple #[.pointer none, .int .i64 2]) ∧ w = w' := by
  go_enter Try.func12, Try.ntmps12
  go_wp2
  go_ret2
  exact ⟨rfl, rfl⟩

theorem labelB_len (xs : List Int) (n : Nat) (hw : widthN n ≤ 64) : ∀ e, (labelB xs n e).length ≤ 65 * e
  | 0 => by simp [labelB]
  | e + 1 => by
    have := labelB_len xs n hw e
    unfold labelB
    rw [List.length_append, List.length_append, numBits_len]; simp; omega

theorem widthN_le (n : Nat) (h : n < 18446744073709551616) : widthN n ≤ 64 := by
  unfold widthN; split
  · omega
  · exact Lib.bitLen_le (n - 1) 64 (by omega) (by omega)

set_option maxRecDepth 100000 in
set_option maxHeartbeats 4000000 in
theorem labEnc_any {w0 w : World} {os : List Thing} (h : St w0 w os) (p : Nat) (v : Value) (xs : List Int) (hm1 : cellT p (permObj v) ∈ os) (hm2 : rowT 3 v (intsOf xs) ∈ os) (hp : IsPerm xs) (hl : xs.length ≤ 1000000) :
    Calls Try.prog 12 #[.pointer (some ⟨p, 0, none⟩)] w fun e w' => LabOut w0 os xs e w' := by
  obtain ⟨a, c, rfl, hlc, hcm⟩ := ownsRow_slice (h.ok hm2)
  rw [intsOf_len] at *
  obtain ⟨N, hN⟩ : ∃ N, xs.length = N := ⟨_, rfl⟩
  rw [hN] at hm1 hm2
  have HN := Lib.hid hN
  have HX : Hid (∀ i (hi : i < N), 0 ≤ xs.getD i 0 ∧ xs.getD i 0 < (N : Int) ∧ xs[i]? = some (xs.getD i 0)) := by
    intro i hi
    have h1 : i < xs.length := by rw [hN]; exact hi
    have h2 : xs.getD i 0 = xs[i] := by rw [List.getD_eq_getElem?_getD, List.getElem?_eq_getElem h1]; rfl
    have h3 := hp.1 _ (List.getElem_mem h1)
    rw [hN] at h3
    exact ⟨by rw [h2]; exact h3.1, by rw [h2]; exact h3.2, by rw [h2]; exact List.getElem?_eq_getElem h1⟩
  have HLEN : Hid (∀ W os', St w0 W (os' ++ os) → Calls Try.prog 14 #[.pointer (some ⟨p, 0, none⟩)] W fun e w' => e = .returned (.int .i64 N) ∧ W = w') :=
    fun W os' hW => permLen_any (hW.permAt (List.mem_append_right _ hm1))
  have HAT : Hid (∀ W os' (i : Nat), i < N → St w0 W (os' ++ os) → Calls Try.prog 42 #[.pointer (some ⟨p, 0, none⟩), .int .i64 (i : Nat)] W fun e w' => e = .returned (.int .i64 (xs.getD i 0)) ∧ W = w') :=
    fun W os' i hi hW => permAt_in (hW.permAt (List.mem_append_right _ hm1)) xs hN (hW.reads (List.mem_append_right _ hm2)) i hi _ (HX.out i hi).2.2
  have H := Lib.hid h
  have hN6 : N ≤ 1000000 := by omega
  clear h hp hl hN
  by_cases hodd : N % 2 = 1
  · have HNO : Hid (¬ (xs.length % 2 = 0 ∧ MatesTo xs (xs.length / 2))) := by rw [HN.out]; show ¬ _; omega
    have d1 : ((N : Int) % 2 == 1) = true := beq_iff_eq.2 (by omega)
    go_enter Try.func12, Try.ntmps12
    go_wp2_with fail
    refine (HLEN.out w [] H.out).mono ?_
    rintro e w1 ⟨rfl, rfl⟩
    go_wp2_with fail
    go_ret2
    exact .inr ⟨HNO.out, rfl, [], H.out⟩
  · have d1 : ((N : Int) % 2 == 1) = false := beq_eq_false_iff_ne.2 (by omega)
    obtain ⟨n, hn⟩ : ∃ n, N / 2 = n := ⟨_, rfl⟩
    have hn2 : N = 2 * n := by omega
    have hni : ((N : Int) / 2) = (n : Int) := by omega
    have HNN := Lib.hid hni
    clear hn hni
    go_enter Try.func12, Try.ntmps12
    go_wp2_with fail
    refine (HLEN.out w [] H.out).mono ?_
    rintro e w1 ⟨rfl, rfl⟩
    go_wp2_with fail
    refine (bitsNew_any H.out).mono ?_
    rintro e w2 ⟨b, rfl, h2, _⟩
    have H2 := Lib.hid h2
    clear h2 H
    go_wp2_with fail
    refine (HLEN.out w2 [_] H2.out).mono ?_
    rintro e w3 ⟨rfl, rfl⟩
    go_wp2_with fail
    have HW : Hid (widthN n ≤ 64) := widthN_le n (by omega)
    go_loopw [21] (fun ev wr => ∃ (e : Nat) (vv : Value), e ≤ n ∧ ev = .int .i64 e ∧ MatesTo xs e ∧ St w0 wr (vecT b vv (labelB xs n e) :: os)) (fun ev _ => n - (intOf ev).toNat)
    case atStart => exact ⟨0, _, by omega, rfl, (fun j hj => by omega), H2.out⟩
    case round =>
      obtain ⟨e, vv, he, rfl, hM, hS⟩ := hrel
      have HS := Lib.hid hS
      have HM := Lib.hid hM
      clear hS hM H2
      by_cases hlt : e < n
      · obtain ⟨x0, x1, x2⟩ := HX.out (2 * e) (by omega)
        obtain ⟨y0, y1, y2⟩ := HX.out (2 * e + 1) (by omega)
        have ca := HAT.out wr [_] (2 * e) (by omega) HS.out
        have cb := HAT.out wr [_] (2 * e + 1) (by omega) HS.out
        obtain ⟨x, hx⟩ : ∃ x, xs.getD (2 * e) 0 = x := ⟨_, rfl⟩
        obtain ⟨y, hy⟩ : ∃ y, xs.getD (2 * e + 1) 0 = y := ⟨_, rfl⟩
        rw [hx] at x0 x1 ca
        rw [hy] at y0 y1 cb
        have hlb : labelB xs n (e + 1) = labelB xs n e ++ numBits (x / 2).toNat (widthN n) ++ [x % 2 != 0] := by rw [← hx]; rfl
        have hmt : ∀ j, j < e + 1 → (j < e ∨ j = e) := fun j hj => by omega
        have HXY := Lib.hid (And.intro hx (And.intro hy hlb))
        have e1 : (((2 * e : Nat)) : Int) = 2 * (e : Int) := by omega
        have e2 : (((2 * e + 1 : Nat)) : Int) = 2 * (e : Int) + 1 := by omega
        rw [e1] at ca
        rw [e2] at cb
        obtain ⟨X, rfl⟩ : ∃ X : Nat, x = X := ⟨x.toNat, by omega⟩
        have hxo := xor_one X (by omega)
        have HCA := Lib.hid ca
        have HCB := Lib.hid cb
        have HXO := Lib.hid hxo
        clear ca cb hx hy hlb x2 y2 e1 e2 hmt hxo
        go_wp2_with fail
        refine HCA.out.mono ?_
        rintro e' w1 ⟨rfl, rfl⟩
        go_wp2_with fail
        refine HCB.out.mono ?_
        rintro e' w1 ⟨rfl, rfl⟩
        by_cases hmate : y = mateI (X : Int)
        · have d2 : (y != bits BinOp.xor IntKind.i64 (X : Int) 1) = false := by rw [HXO.out, ← hmate]; simp
          have HM2 : Hid (MatesTo xs (e + 1)) := by
            intro j hj
            by_cases hje : j < e
            · exact HM.out j hje
            · obtain rfl : j = e := by omega
              rw [HXY.out.1, HXY.out.2.1]; exact hmate
          clear hmate
          go_wp2_with fail
          refine (width_any (n : Int) (by omega) (by omega) wr).mono ?_
          rintro e' w4 ⟨rfl, rfl⟩
          have HNUM := Lib.hid (vecNum_any (b := b) (v := vv) (l := labelB xs n e) HS.out (X / 2) ((widthN n : Nat) : Int) (by omega) (by have := labelB_len xs n HW.out e; omega))
          rw [clamp_nat (widthN n) HW.out] at HNUM
          have hnn : ((n : Int)).toNat = n := by omega
          rw [hnn]
          have hxd : ((X : Int) / 2) = ((X / 2 : Nat) : Int) := by omega
          have HXD := Lib.hid hxd
          clear hnn hxd
          go_wp2_with fail
          rw [HXD.out]
          refine HNUM.out.mono ?_
          rintro e' w5 ⟨rfl, v5, h5⟩
          have H5 := Lib.hid h5
          clear h5 HNUM HS
          have hrow := World.ownsRow_lit (base := w5.heap.size) (e := 3) (size := 1) w5 #[.int .i64 ((X : Int) % 2)] 1 (Nat.le_refl _) (by decide) (by simp)
          have SR := H5.out.newRow ((Keeps.refl _ _).alloc _) hrow
          have hadd := vecAdd_any (b := b) (v := v5) (l := labelB xs n e ++ numBits (X / 2) (widthN n)) SR.swap (.slice (some ⟨w5.heap.size, 0, none⟩) 1 1) [(X : Int) % 2] (fun w' v' l' h' => h'.reads (E := 3) (by simp [intsOf])) (by rw [List.length_append, numBits_len]; have := labelB_len xs n HW.out e; have := HW.out; simp; omega)
          rw [show labelB xs n e ++ numBits (X / 2) (widthN n) ++ flags [(X : Int) % 2] = labelB xs n (e + 1) by rw [HXY.out.2.2]; rfl] at hadd
          have HADD := Lib.hid hadd
          clear hadd SR hrow
          go_wp2_with fail
          refine HADD.out.mono ?_
          rintro e' w6 ⟨rfl, v6, h6⟩
          have H6 := Lib.hid h6.swap.tail
          clear h6 HADD H5
          go_wp2_with fail
          go_roundw
          case rel => exact ⟨e + 1, v6, by omega, by go_num, HM2.out, H6.out⟩
          case measure => simp [intOf]; omega
        · have d2 : (y != bits BinOp.xor IntKind.i64 (X : Int) 1) = true := by rw [HXO.out]; simpa using hmate
          have HNO : Hid (¬ (xs.length % 2 = 0 ∧ MatesTo xs (xs.length / 2))) := by
            rintro ⟨_, h⟩
            rw [HN.out] at h
            have := h e (by omega)
            rw [HXY.out.1, HXY.out.2.1] at this
            exact hmate this
          clear hmate
          go_wp2_with fail
          go_ret2
          exact .inr ⟨HNO.out, rfl, [_], HS.out⟩
      · obtain rfl : e = n := by omega
        have hne : xs.length / 2 = e := by rw [HN.out]; omega
        have HNE := Lib.hid hne
        clear hne
        go_wp2_with fail
        go_ret2
        exact .inl ⟨by rw [HN.out]; omega, by rw [HNE.out]; exact HM.out, b, vv, rfl, by rw [HNE.out]; exact HS.out⟩
end Go.Proofs.Ytoipbbobkllddaa

