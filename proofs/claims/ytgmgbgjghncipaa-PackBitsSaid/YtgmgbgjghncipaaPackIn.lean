/- pack.coded and pack.Pack. -/
import Derived.Test.YtgmgbgjghncipaaPackNum
import Derived.Test.YtgmgbgjghncipaaCodeLe
import Derived.Test.YtgmgbgjghncipaaEncode
import Derived.Test.YtgmgbgjghncipaaVecOut
import Derived.Test.YtgmgbgjghncipaaNil
namespace Go.Proofs.Ytgmgbgjghncipaa
open Go.RowKit

theorem St.dropL {w0 w : World} {os : List Thing} : ∀ (OS : List Thing), St w0 w (OS ++ os) → St w0 w os
  | [], h => h
  | _ :: OS, h => St.dropL OS h.tail

/-- A vector, nil among them: its length, its bits, its bytes. -/
structure VecIs (w0 : World) (os : List Thing) (pv : Value) (l : List Bool) : Prop where
  len : ∀ W os', St w0 W (os' ++ os) → Calls Try.prog 17 #[pv] W fun e w' => e = .returned (.int .i64 l.length) ∧ W = w'
  at_ : ∀ W os' i, i < l.length → St w0 W (os' ++ os) → Calls Try.prog 44 #[pv, .int .i64 (i : Nat)] W fun e w' => e = .returned (.int .i64 ((l.getD i false).toNat : Nat)) ∧ W = w'
  bytes : ∀ W os', St w0 W (os' ++ os) → Calls Try.prog 20 #[pv] W fun e w' => ∃ a cap OS, e = .returned (.slice a ((l.length + 7) / 8) cap) ∧ St w0 w' (OS ++ (os' ++ os)) ∧ Reads w' (.slice a ((l.length + 7) / 8) cap) (bytesOf (bytesB l))

theorem VecIs.cons {w0 : World} {os : List Thing} {pv : Value} {l : List Bool} (h : VecIs w0 os pv l) (o : Thing) : VecIs w0 (o :: os) pv l := by
  have e : ∀ os' : List Thing, os' ++ o :: os = (os' ++ [o]) ++ os := fun os' => by simp
  refine ⟨fun W os' h' => ?_, fun W os' i hi h' => ?_, fun W os' h' => ?_⟩
  · rw [e] at h'; exact h.len W _ h'
  · rw [e] at h'; exact h.at_ W _ i hi h'
  · rw [e] at h'
    refine (h.bytes W _ h').mono ?_
    rintro e' w' ⟨a, cap, OS, rfl, h1, h2⟩
    exact ⟨a, cap, OS, rfl, by rw [e]; exact h1, h2⟩

theorem VecIs.vec {w0 : World} {os : List Thing} {b : Nat} {v : Value} {l : List Bool} (hm : vecT b v l ∈ os) (hn : l.length < 1099511627776) : VecIs w0 os (.pointer (some ⟨b, 0, none⟩)) l := by
  refine ⟨fun W os' h' => vecLen_any (b := b) (v := v) (l := l) h' (by simp [hm]), fun W os' i hi h' => vecAt_in (b := b) (v := v) (l := l) h' (by simp [hm]) i hi, fun W os' h' => ?_⟩
  refine (vecBytes_any (b := b) (v := v) (l := l) h' (by simp [hm]) hn).mono ?_
  rintro e w' ⟨g, rfl, h1, _⟩
  exact ⟨_, _, [_], rfl, h1, h1.reads (List.mem_cons_self ..)⟩

theorem VecIs.nil {w0 : World} {os : List Thing} : VecIs w0 os (.pointer none) [] := by
  refine ⟨fun W os' h' => vecLen_nil W, fun W os' i hi h' => by simp at hi, fun W os' h' => ?_⟩
  refine (bytes_nil h').mono ?_
  rintro e w' ⟨⟨g, rfl⟩, h1⟩
  exact ⟨_, _, [], rfl, h1, _, _, rfl, Nat.le_refl _, by decide, (fun h => by cases h), .inl rfl⟩

/-- the bytes by an order -/
def codedB (k : Nat) (l : List Bool) : List Nat := (k + 1) :: (PackP.numB (CoderP.code k l).length ++ bytesB (CoderP.code k l))

theorem codedB_byte (k : Nat) (hk : k ≤ 8) (l : List Bool) : ∀ x ∈ codedB k l, x < 256 := by
  intro x hx
  unfold codedB at hx
  rcases List.mem_cons.1 hx with rfl | hx
  · omega
  · rcases List.mem_append.1 hx with hx | hx
    · exact PackP.numB_byte _ x hx
    · exact bytesB_lt _ x hx

set_option maxRecDepth 100000 in
set_option maxHeartbeats 2000000 in
theorem coded_any {w0 w : World} {os : List Thing} (h : St w0 w os) (pv : Value) (l : List Bool) (k : Nat) (hk : k ≤ 8) (hl : l.length ≤ 16777216) (hI : VecIs w0 os pv l) :
    Calls Try.prog 26 #[pv, .int .i64 k] w fun e w' => ∃ v, e = .returned v ∧ St w0 w' (rowT 5 v (bytesOf (codedB k l)) :: os) := by
  obtain ⟨i0, hi, hz0, hz1, hz2⟩ := info_parts info_u8
  have HR := Lib.hid (fun (w1 : World) (y : Int) => Reads.made w1 #[.int .u8 y] 5 (0, 0) 1 (by simp) (by decide))
  have H := Lib.hid h
  have HI := Lib.hid hI
  have HCL := Lib.hid (CoderP.code_le k l)
  have HL := Lib.hid hl
  clear h hI hl
  go_enter Try.func26, Try.ntmps26
  go_wp2_with fail
  refine (encode_any H.out pv l k hk (by have := HL.out; omega) HI.out.len HI.out.at_).mono ?_
  rintro e w1 ⟨o, v', rfl, S1⟩
  obtain ⟨C, hC⟩ : ∃ C, CoderP.code k l = C := ⟨_, rfl⟩
  rw [hC] at S1 HCL
  have HC := Lib.hid hC
  have S1 := Lib.hid S1
  have HN : Hid (C.length < 1000000000) := by show _ < _; have := HCL.out; have := HL.out; omega
  clear hC HCL
  go_wp2_with fail
  refine (vecLen_any (b := o) (v := v') (l := C) (S1.out.alloc _) (by simp)).mono ?_
  rintro e w2 ⟨rfl, rfl⟩
  have S2 := Lib.hid (S1.out.alloc (.cells #[.int .u8 ((k : Int) + 1)] 5))
  have R2 := HR.out w1 ((k : Int) + 1)
  have hk1 : ((k : Int) + 1) = ((k + 1 : Nat) : Int) := by omega
  have R3 : Hid (Reads (w1.alloc (.cells #[.int .u8 ((k : Int) + 1)] 5)) (.slice (some ⟨w1.heap.size, 0, none⟩) 1 1) (bytesOf [k + 1])) := by
    show Reads _ _ _
    have : bytesOf [k + 1] = [.int .u8 ((k : Int) + 1)] := by rw [hk1]; rfl
    rw [this]; exact R2
  have hcn : C.length < 1000000000 := HN.out
  clear R2 hk1 S1
  generalize w1.alloc (.cells #[.int .u8 ((k : Int) + 1)] 5) = W2 at S2 R3 ⊢
  go_wp2_with fail
  refine (packNum_any S2.out _ [k + 1] R3.out C.length (by omega) (by simp)).mono ?_
  rintro e w3 ⟨v3, rfl, S3⟩
  rw [show [k + 1] ++ PackP.numB C.length = (k + 1) :: PackP.numB C.length from rfl] at S3
  have S3 := Lib.hid S3
  clear S2 R3
  go_wp2_with fail
  refine (vecBytes_any (b := o) (v := v') (l := C) S3.out (by simp) (by omega)).mono ?_
  rintro e w4 ⟨g, rfl, S4, _⟩
  have R4 := Lib.hid (S4.reads (List.mem_cons_self ..))
  have S4 := Lib.hid S4.swap
  have HLN : Hid ((bytesOf ((k + 1) :: PackP.numB C.length)).length ≤ 20) := by
    show _ ≤ _
    rw [bytesOf_len, List.length_cons]; have := PackP.numB_len10 C.length (by omega); simp; omega
  have HLB : Hid ((bytesOf (bytesB C)).length ≤ 1000000000) := by show _ ≤ _; rw [bytesOf_len, bytesB_len]; omega
  have HE : Hid (bytesOf ((k + 1) :: PackP.numB C.length) ++ bytesOf (bytesB C) = bytesOf (codedB k l)) := by
    show _ = _
    rw [← bytesOf_append]; unfold codedB; rw [HC.out]; simp
  clear S3
  go_wp2_with (at_builtin; refine wpList_append_st rfl _ _ 23 rfl 5 i0 (.int .u8 0) 1 Try.underlying23 hi hz0 hz1 hz2 rfl _ _ _ (bytesOf (bytesB C)) rfl rfl S4.out R4.out (oneCell_bytes _) ?c1 ?c2 ?_)
  case c1 => have := HLN.out; have := HLB.out; unfold maxLen; omega
  case c2 => have := HLN.out; have := HLB.out; omega
  intro v5 w5 S5
  rw [HE.out] at S5
  have S5 := Lib.hid S5.swap.tail.swap.tail
  go_wp2
  go_ret
  exact ⟨_, rfl, S5.out⟩

def packK (plain : Bool) (l : List Bool) : Nat → List Nat
  | 0 => 0 :: bytesB l
  | k + 1 => if plain = false ∧ (codedB k l).length < (packK plain l k).length then codedB k l else packK plain l k
/-- what is shortest -/
def packB (plain : Bool) (l : List Bool) : List Nat := packK plain l 9

theorem packK_len (plain : Bool) (l : List Bool) : ∀ k, (packK plain l k).length ≤ 1 + (l.length + 7) / 8
  | 0 => by unfold packK; rw [List.length_cons, bytesB_len]; omega
  | k + 1 => by
    have := packK_len plain l k
    unfold packK; split
    · rename_i h; omega
    · exact this

set_option maxRecDepth 100000 in
set_option maxHeartbeats 2000000 in
theorem pack_any {w0 w : World} {os : List Thing} (h : St w0 w os) (pv : Value) (l : List Bool) (plain : Bool) (hl : l.length ≤ 16777216) (hI : VecIs w0 os pv l) :
    Calls Try.prog 16 #[pv, .bool plain] w fun e w' => ∃ v, e = .returned v ∧ St w0 w' (rowT 5 v (bytesOf (packB plain l)) :: os) := by
  obtain ⟨i0, hi, hz0, hz1, hz2⟩ := info_parts info_u8
  have HO : Hid (∀ (W : World) (os2 : List Thing) (y : Nat), St w0 W os2 → St w0 (W.alloc (.cells #[.int .u8 (y : Int)] 5)) (rowT 5 (.slice (some ⟨W.heap.size, 0, none⟩) 1 1) (bytesOf [y]) :: os2)) := by
    intro W os2 y hW
    exact hW.newRow ((Keeps.refl _ _).alloc _) (World.ownsRow_lit (base := W.heap.size) (e := 5) (size := 1) W #[.int .u8 (y : Int)] 1 (Nat.le_refl _) (by decide) (by simp))
  have S0 := Lib.hid (HO.out w os 0 h)
  have HI := Lib.hid hI
  have HL := Lib.hid hl
  clear h hI hl HO
  go_enter Try.func16, Try.ntmps16
  go_wp2_with fail
  refine (HI.out.bytes _ [_] S0.out).mono ?_
  rintro e w1 ⟨a, cap, OS, rfl, S1, R1⟩
  have R1 := Lib.hid R1
  have S1 := Lib.hid (S1.perm (List.perm_middle))
  have HLB : Hid ((bytesOf (bytesB l)).length ≤ 1000000000) := by show _ ≤ _; rw [bytesOf_len, bytesB_len]; have := HL.out; omega
  have HE : Hid (bytesOf [0] ++ bytesOf (bytesB l) = bytesOf (packK plain l 0)) := by
    show _ = _
    rw [← bytesOf_append]; rfl
  clear S0
  go_wp2_with (at_builtin; refine wpList_append_st rfl _ _ 23 rfl 5 i0 (.int .u8 0) 1 Try.underlying23 hi hz0 hz1 hz2 rfl _ _ _ (bytesOf (bytesB l)) rfl rfl S1.out R1.out (oneCell_bytes _) ?c1 ?c2 ?_)
  case c1 => have := HLB.out; unfold maxLen; simp only [bytesOf_len, List.length_cons, List.length_nil] at *; omega
  case c2 => have := HLB.out; simp only [bytesOf_len, List.length_cons, List.length_nil] at *; omega
  intro v2 w2 S2
  rw [HE.out] at S2
  have S2 := Lib.hid S2
  have S2 := Lib.hid (St.dropL (os := _ :: os) OS (S2.out.perm (List.perm_middle).symm))
  clear S1 HE R1
  go_wp2_with fail
  go_loopw [5, 12] (fun bv kv wr => ∃ k : Nat, k ≤ 9 ∧ kv = .int .i64 k ∧ St w0 wr (rowT 5 bv (bytesOf (packK plain l k)) :: os)) (fun _ kv _ => 9 - (intOf kv).toNat)
  case atStart => exact ⟨0, by omega, rfl, S2.out⟩
  case round =>
    obtain ⟨k, hk, rfl, hS⟩ := hrel
    have HS := Lib.hid hS
    clear hS S2
    by_cases hlt : k < 9
    · obtain ⟨ab, cb, rfl, _, _⟩ := ownsRow_slice HS.out.row
      have hpl := packK_len plain l k
      rw [bytesOf_len] at HS ⊢
      obtain ⟨n1, hn1⟩ : ∃ n1, (packK plain l k).length = n1 := ⟨_, rfl⟩
      rw [hn1] at HS hpl ⊢
      go_wp2_with fail
      refine (coded_any HS.out pv l k (by omega) HL.out (HI.out.cons _)).mono ?_
      rintro e w3 ⟨v3, rfl, S3⟩
      obtain ⟨ac, cc, rfl, _, _⟩ := ownsRow_slice S3.row
      rw [bytesOf_len] at S3 ⊢
      obtain ⟨n2, hn2⟩ : ∃ n2, (codedB k l).length = n2 := ⟨_, rfl⟩
      rw [hn2] at S3 ⊢
      have S3 := Lib.hid S3
      clear HS
      cases plain with
      | true =>
        have HE : Hid (packK true l (k + 1) = packK true l k) := by show _ = _; simp [packK]
        go_wp2_with fail
        go_roundw
        case rel => exact ⟨k + 1, by omega, by go_num, by rw [HE.out]; exact S3.out.tail⟩
        case measure => simp [intOf]; omega
      | false =>
        by_cases hless : n2 < n1
        · have HE : Hid (packK false l (k + 1) = codedB k l) := by show _ = _; simp only [packK]; rw [if_pos ⟨trivial, by omega⟩]
          go_wp2_with fail
          go_roundw
          case rel => exact ⟨k + 1, by omega, by go_num, by rw [HE.out]; exact S3.out.swap.tail⟩
          case measure => simp [intOf]; omega
        · have HE : Hid (packK false l (k + 1) = packK false l k) := by show _ = _; simp only [packK]; rw [if_neg (fun h => hless (by omega))]
          go_wp2_with fail
          go_roundw
          case rel => exact ⟨k + 1, by omega, by go_num, by rw [HE.out]; exact S3.out.tail⟩
          case measure => simp [intOf]; omega
    · obtain rfl : k = 9 := by omega
      go_wp2_with fail
      go_ret
      exact ⟨_, rfl, HS.out⟩
end Go.Proofs.Ytgmgbgjghncipaa

