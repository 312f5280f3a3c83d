/- The walk of PackNums. -/
import Derived.Test.YtgmgbgjghncipaaPackHelp
import Derived.Test.YtgmgbgjghncipaaPackRefGet
namespace Go.Proofs.Ytgmgbgjghncipaa
open Go.RowKit

theorem got (p : List Nat) : ∃ (Z K : Int) (ok : Bool), (ok = true ∧ ∃ z, Z = (z : Nat) ∧ K = ((PackP.numB z).length : Nat) ∧ z < 18446744073709551616 ∧ PackP.numB z <+: p) ∨ (ok = false ∧ Z = 0 ∧ K = 0 ∧ ∀ y, y < 18446744073709551616 → ¬ PackP.numB y <+: p) := by
  by_cases h : ∃ z, z < 18446744073709551616 ∧ PackP.numB z <+: p
  · obtain ⟨z, h1, h2⟩ := h
    exact ⟨_, _, true, .inl ⟨rfl, z, rfl, rfl, h1, h2⟩⟩
  · exact ⟨_, _, false, .inr ⟨rfl, rfl, rfl, fun y h1 h2 => h ⟨y, h1, h2⟩⟩⟩

set_option maxRecDepth 100000 in
set_option maxHeartbeats 4000000 in
theorem packNums_walk (a0 : Int) (a1 : Option Addr) (len1 cap1 : Nat) (z1 : List Int) (w : World) (w0 : (Lit.int .u64 a0).wf = true) (w1 : IsRow .u8 w a1 len1 cap1 z1) :
    Calls Try.prog 3 #[.int .u64 a0, .slice a1 len1 cap1] w fun e w' => e = .returned (.bool true) ∧ Below w.heap.size w w' := by
  obtain ⟨i0, hi, hz0, hz1, hz2⟩ := info_parts info_u8
  obtain ⟨p, e0, hp, R0, m0⟩ := w1.bytes
  obtain ⟨x, rfl, hx⟩ : ∃ x : Nat, a0 = x ∧ x < 18446744073709551616 := ⟨a0.toNat, by have := wf_u64 w0; omega, by have := wf_u64 w0; omega⟩
  have H := Lib.hid (St.start w)
  obtain ⟨m, hm, hm1, hm2⟩ : ∃ m, m = min len1 15 ∧ m ≤ len1 ∧ m ≤ 15 := ⟨_, rfl, by omega, by omega⟩
  have hmin : ∀ w, (Builtin.min_ #[3, 3] 3 #[.int .i64 len1, .int .i64 15]).run Try.prog w = .ok (.int .i64 m) w := fun w => by
    rw [run_min2]
    congr 2
    split <;> omega
  have hlc := R0.len_le
  have hcm : cap1 ≤ 9223372036854775807 := by
    obtain ⟨_, _, he, _, hm, _⟩ := R0
    simp only [Value.slice.injEq] at he
    obtain ⟨_, _, rfl⟩ := he
    unfold maxLen at hm; omega
  have HR := Lib.hid (R0.take m hm1)
  have HPP : Hid (∀ x ∈ p.take m, x < 256) := fun x hx => hp x (List.mem_of_mem_take hx)
  have hpl : Hid ((p.take m).length = m) := by show _ = _; rw [List.length_take]; omega
  have HR2 : Hid (Reads w (.slice a1 m cap1) (bytesOf (p.take m))) := by
    show Reads _ _ _
    have := HR.out
    rwa [show bytesOf (p.take m) = (bytesOf p).take m by simp [bytesOf, List.map_take]]
  generalize p.take m = q at HPP hpl HR2
  have HX := Lib.hid hx
  clear R0 HR hp w0 w1 m0 hm e0
  go_enter Try.func3, Try.ntmps3
  go_wp2_with fail
  refine (awake19_any H.out).mono ?_
  rintro e w1 ⟨rfl, h1⟩
  have H1 := Lib.hid h1
  clear h1 H
  go_wp2_with fail
  rw [← hpl.out]
  refine (cloneBytes_st H1.out _ q (by rw [hpl.out]; exact H1.out.arg HR2.out) (by have := hpl.out; omega)).mono ?_
  rintro e w2 ⟨a, cap, rfl, h2, _, hqc⟩
  rw [hpl.out] at h2 hqc ⊢
  have H2 := Lib.hid h2
  clear h2 H1 HR2 hmin
  go_wp2_with fail
  refine (packNum_any H2.out _ q (H2.out.reads (List.mem_cons_self ..)) x hx (by have := hpl.out; omega)).mono ?_
  rintro e w3 ⟨v3, rfl, h3⟩
  have H3 := Lib.hid h3
  clear h3 H2
  go_wp2_with fail
  refine (refNum19_any x H3.out hx).mono ?_
  rintro e w4 ⟨v4, rfl, h4⟩
  obtain ⟨L, hL⟩ : ∃ L, (PackP.numB x).length = L := ⟨_, rfl⟩
  have hL10 := PackP.numB_len10 x hx
  rw [hL] at hL10
  have HLL := Lib.hid hL
  obtain ⟨a4, c4, rfl, _, _⟩ := ownsRow_slice h4.row
  rw [bytesOf_len, hL] at h4 ⊢
  have H4 := Lib.hid h4
  clear h4 H3 hL
  go_wp2_with fail
  rw [← HLL.out]
  refine (cloneBytes_st H4.out _ (PackP.numB x) (by rw [HLL.out]; exact H4.out.reads (List.mem_cons_self ..)) (by rw [HLL.out]; omega)).mono ?_
  rintro e w5 ⟨a5, cap5, rfl, h5, _, _⟩
  rw [HLL.out] at h5 ⊢
  have H5 := Lib.hid h5
  have RP := Lib.hid (h5.reads (E := 5) (v := .slice a m cap) (xs := bytesOf q) (by simp))
  have HLN : Hid ((bytesOf (PackP.numB x)).length ≤ 10) := by show _ ≤ _; rw [bytesOf_len, HLL.out]; exact hL10
  have HLQ : Hid ((bytesOf q).length ≤ 15) := by show _ ≤ _; rw [bytesOf_len, hpl.out]; exact hm2
  clear h5 H4
  go_wp2_with (at_builtin; refine wpList_append_st rfl _ _ 23 rfl 5 i0 (.int .u8 0) 1 Try.underlying23 hi hz0 hz1 hz2 rfl _ _ _ (bytesOf q) rfl rfl H5.out RP.out (oneCell_bytes _) ?c1 ?c2 ?_)
  case c1 => have := HLN.out; have := HLQ.out; unfold maxLen; omega
  case c2 => have := HLN.out; have := HLQ.out; omega
  intro v6 w6 h6
  rw [← bytesOf_append] at h6
  have H6 := Lib.hid h6
  have HB : Hid (∀ y ∈ PackP.numB x ++ q, y < 256) := by
    intro y hy
    rcases List.mem_append.1 hy with h | h
    · exact PackP.numB_byte x y h
    · exact HPP.out y h
  clear h6 H5 RP
  go_wp2_with fail
  refine (getNum_any w6 v6 (PackP.numB x ++ q) HB.out (H6.out.reads (List.mem_cons_self ..))).mono ?_
  rintro e w7 ⟨rfl, (⟨y, hy, hyp, rfl⟩ | ⟨hno, rfl⟩)⟩
  · have hyx : y = x := PackP.numB_uniq _ _ _ hyp (List.prefix_append _ _)
    subst hyx
    rw [HLL.out]
    clear hyp HB
    obtain ⟨Z, K, ok, hZ⟩ := got q
    have HZ := Lib.hid hZ
    clear hZ
    obtain ⟨fv, hfv⟩ : ∃ fv : Int, (if ok then 0 else 3) = fv := ⟨_, rfl⟩
    have HFV := Lib.hid hfv
    have HG1 : Hid (Calls Try.prog 12 #[.slice a m cap] w6 fun e w' => e = .returned (.tuple #[.int .u64 Z, .int .i64 K, .int .i64 fv]) ∧ w6 = w') := by
      rw [← hfv]
      refine (getNum_any w6 _ q HPP.out (H6.out.reads (E := 5) (v := .slice a m cap) (xs := bytesOf q) (by simp))).mono ?_
      rintro e w' ⟨rfl, h⟩
      rcases HZ.out with ⟨rfl, z, rfl, rfl, h1, h2⟩ | ⟨rfl, rfl, rfl, hno⟩
      · rcases h with ⟨y, h3, h4, rfl⟩ | ⟨hno, _⟩
        · rw [PackP.numB_uniq _ _ _ h4 h2]; exact ⟨rfl, rfl⟩
        · exact absurd h2 (hno z h1)
      · rcases h with ⟨y, h3, h4, rfl⟩ | ⟨_, rfl⟩
        · exact absurd h4 (hno y h3)
        · exact ⟨rfl, rfl⟩
    have HG2 : Hid (∀ os2, St w w6 os2 → rowT 5 (.slice a m cap) (bytesOf q) ∈ os2 → Calls Try.prog 13 #[.slice a m cap] w6 fun e w' => e = .returned (.tuple #[.int .u64 Z, .int .i64 K, .bool ok]) ∧ ∃ OS, St w w' (OS ++ os2)) := by
      intro os2 hos hmem
      refine (refGet_any hos _ q HPP.out (fun w' os' h' => h'.reads (List.mem_append_right _ hmem))).mono ?_
      rintro e w' ⟨OS, hS, h⟩
      rcases HZ.out with ⟨rfl, z, rfl, rfl, h1, h2⟩ | ⟨rfl, rfl, rfl, hno⟩
      · rcases h with ⟨y, h3, h4, rfl⟩ | ⟨hno, _⟩
        · rw [PackP.numB_uniq _ _ _ h4 h2]; exact ⟨rfl, OS, hS⟩
        · exact absurd h2 (hno z h1)
      · rcases h with ⟨y, h3, h4, rfl⟩ | ⟨_, rfl⟩
        · exact absurd h4 (hno y h3)
        · exact ⟨rfl, OS, hS⟩
    clear HZ hfv
    go_wp2_with fail
    refine HG1.out.mono ?_
    rintro e w8 ⟨rfl, rfl⟩
    go_wp2_with fail
    refine (HG2.out _ H6.out (by simp)).mono ?_
    rintro e w9 ⟨rfl, OS, h9⟩
    have H9 := Lib.hid (St.dropL OS h9)
    clear h9 HG1 HG2 H6
    go_wp2_with fail
    rw [← hpl.out]
    refine (cloneBytes_st H9.out _ q (by rw [hpl.out]; exact H9.out.reads (E := 5) (v := .slice a m cap) (xs := bytesOf q) (by simp)) (by have := hpl.out; omega)).mono ?_
    rintro e w10 ⟨a10, cap10, rfl, h10, _, _⟩
    rw [hpl.out] at h10 ⊢
    have H10 := Lib.hid h10
    have RN := Lib.hid (h10.reads (E := 5) (v := .slice a4 L c4) (xs := bytesOf (PackP.numB y)) (by simp))
    clear h10 H9
    go_wp2_with (at_builtin; refine wpList_append_st rfl _ _ 23 rfl 5 i0 (.int .u8 0) 1 Try.underlying23 hi hz0 hz1 hz2 rfl _ _ _ (bytesOf (PackP.numB y)) rfl rfl H10.out RN.out (oneCell_bytes _) ?c1 ?c2 ?_)
    case c1 => have := HLN.out; have := HLQ.out; unfold maxLen; omega
    case c2 => have := HLN.out; have := HLQ.out; omega
    intro v11 w11 h11
    rw [← bytesOf_append] at h11
    have H11 := Lib.hid h11
    have HB : Hid (∀ x ∈ q ++ PackP.numB y, x < 256) := by
      intro x hx
      rcases List.mem_append.1 hx with h | h
      · exact HPP.out x h
      · exact PackP.numB_byte y x h
    clear h11 H10 RN
    go_wp2_with fail
    have hq := bytesEqual_any v3 v11 (q ++ PackP.numB y) (q ++ PackP.numB y) w11 (H11.out.reads (E := 5) (by simp)) (H11.out.reads (List.mem_cons_self ..)) HB.out HB.out
    refine hq.mono ?_
    rintro e w12 ⟨rfl, rfl⟩
    have hd : decide (q ++ PackP.numB y = q ++ PackP.numB y) = true := decide_eq_true rfl
    rw [hd]
    clear hq hd HB
    have hfv := HFV.out
    clear HFV
    cases ok
    · obtain rfl : fv = 3 := hfv.symm
      clear hfv
      go_wp2_with fail
      go_ret
      exact ⟨rfl, H11.out.bel⟩
    · obtain rfl : fv = 0 := hfv.symm
      clear hfv
      go_wp2_with fail
      go_ret
      exact ⟨rfl, H11.out.bel⟩
  · exact absurd (List.prefix_append _ _) (hno x HX.out)
end Go.Proofs.Ytgmgbgjghncipaa

