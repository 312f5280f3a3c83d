/- The walk of PackNil. -/
import Derived.Test.YtgmgbgjghncipaaPackHelp
import Derived.Test.YtgmgbgjghncipaaPackLaw
namespace Go.Proofs.Ytgmgbgjghncipaa
open Go.RowKit

set_option maxRecDepth 100000 in
set_option maxHeartbeats 4000000 in
theorem packNil_walk (a0 : Bool) (a1 : Int) (w : World) (w1 : (Lit.int .i64 a1).wf = true) :
    Calls Try.prog 4 #[.bool a0, .int .i64 a1] w fun e w' => e = .returned (.bool true) ∧ Below w.heap.size w w' := by
  have HR1 := Lib.hid (fun (w1 : World) => Reads.made w1 #[.int .u8 0] 5 (0, 0) 1 (by simp) (by decide))
  have HO : Hid (∀ (W : World) (os : List Thing), St w W os → St w (W.alloc (.cells #[.int .u8 0] 5)) (rowT 5 (.slice (some ⟨W.heap.size, 0, none⟩) 1 1) (bytesOf [0]) :: os)) := by
    intro W os hW
    exact hW.newRow ((Keeps.refl _ _).alloc _) (World.ownsRow_lit (base := W.heap.size) (e := 5) (size := 1) W #[.int .u8 0] 1 (Nat.le_refl _) (by decide) (by simp))
  have H := Lib.hid (St.start w)
  clear w1
  go_enter Try.func4, Try.ntmps4
  go_wp2_with fail
  refine (awake19_any H.out).mono ?_
  rintro e w1 ⟨rfl, h1⟩
  have H1 := Lib.hid h1
  clear h1 H
  have H2 := Lib.hid (HO.out w1 [] H1.out)
  have HU1 : Hid (Calls Try.prog 15 #[.slice (some ⟨w1.heap.size, 0, none⟩) 1 1, .int .i64 0, .bool a0] (w1.alloc (.cells #[.int .u8 0] 5)) fun e w' => ∃ o v, e = .returned (.tuple #[.pointer (some ⟨o, 0, none⟩), .int .i64 1, .int .i64 0]) ∧ St w w' (vecT o v [] :: rowT 5 (.slice (some ⟨w1.heap.size, 0, none⟩) 1 1) (bytesOf [0]) :: [])) := by
    have := unpack_any H2.out (.slice (some ⟨w1.heap.size, 0, none⟩) 1 1) [0] (by decide) 0 a0 (by decide) (fun w' os' h' => h'.reads (E := 5) (by simp))
    refine Calls.mono this ?_
    rintro e w' h
    have h2 : UnOut w [rowT 5 (.slice (some ⟨w1.heap.size, 0, none⟩) 1 1) (bytesOf [0])] (packB a0 [] ++ []) (([] : List Bool).length : Nat) a0 e w' := by rw [packB_nil]; exact h
    obtain ⟨o, v, rfl, h3⟩ := unOut_ok (by decide) h2
    exact ⟨o, v, by rw [packB_nil]; rfl, h3⟩
  go_wp2_with fail
  refine HU1.out.mono ?_
  rintro e w2 ⟨o, v, rfl, h3⟩
  have H3 := Lib.hid h3
  have HU2 : Hid (Calls Try.prog 15 #[.slice none 0 0, .int .i64 0, .bool a0] w2 fun e w' => e = .returned (.tuple #[.pointer none, .int .i64 0, .int .i64 3]) ∧ St w w' (vecT o v [] :: rowT 5 (.slice (some ⟨w1.heap.size, 0, none⟩) 1 1) (bytesOf [0]) :: [])) := by
    have := unpack_any H3.out (.slice none 0 0) [] (by decide) 0 a0 (by decide) (fun w' os' h' => Reads.nil w')
    refine Calls.mono this ?_
    rintro e w' (⟨h, _⟩ | ⟨k, _, _, ⟨l, ⟨b, r, he, _⟩, _⟩ | ⟨ev, _, h3, _, rfl, h5⟩⟩)
    · exact absurd h (by omega)
    · cases he
    · obtain rfl := h3 rfl; exact ⟨rfl, h5⟩
  clear h3 HU1 H2 H1
  go_wp2_with fail
  refine HU2.out.mono ?_
  rintro e w3 ⟨rfl, h4⟩
  have H4 := Lib.hid h4
  have HG : Hid (Calls Try.prog 12 #[.slice none 0 0] w3 fun e w' => e = .returned (.tuple #[.int .u64 0, .int .i64 0, .int .i64 3]) ∧ w3 = w') := by
    refine (getNum_any w3 (.slice none 0 0) [] (by decide) (Reads.nil w3)).mono ?_
    rintro e w' ⟨rfl, (⟨x, hx, hxp, rfl⟩ | ⟨hno, rfl⟩)⟩
    · exfalso
      rw [List.prefix_nil] at hxp
      have := PackP.numB_pos x
      rw [hxp] at this; simp at this
    · exact ⟨rfl, rfl⟩
  clear h4 HU2 H3
  go_wp2_with fail
  refine HG.out.mono ?_
  rintro e w4 ⟨rfl, rfl⟩
  have hpk := pack_any H4.out (.pointer none) [] a0 (by decide) VecIs.nil
  rw [packB_nil] at hpk
  have HPK := Lib.hid hpk
  clear HG hpk
  go_wp2_with fail
  refine HPK.out.mono ?_
  rintro e w5 ⟨v5, rfl, h5⟩
  have H5 := Lib.hid h5
  clear h5 HPK H4
  go_wp2_with fail
  have hq := bytesEqual_any v5 _ [0] [0] _ ((H5.out.alloc (.cells #[.int .u8 0] 5)).reads (List.mem_cons_self ..)) (HR1.out w5) (by decide) (by decide)
  refine hq.mono ?_
  rintro e w6 ⟨rfl, rfl⟩
  have H6 := Lib.hid (H5.out.alloc (.cells #[.int .u8 0] 5))
  have hd : decide (([0] : List Nat) = [0]) = true := by decide
  rw [hd]
  clear hq H5 hd
  generalize w5.alloc (.cells #[.int .u8 0] 5) = W6 at H6 ⊢
  go_wp2_with fail
  have hvl : Calls Try.prog 17 #[.pointer (some ⟨o, 0, none⟩)] W6 _ := vecLen_any (b := o) (v := v) (l := []) H6.out (by simp)
  refine hvl.mono ?_
  rintro e w7 ⟨rfl, rfl⟩
  rw [show ((([] : List Bool).length : Nat) : Int) = 0 from rfl]
  clear hvl
  go_wp2_with fail
  have hn : Calls Try.prog 10 #[.slice none 0 0, .int .u64 0] W6 _ := packNum_any H6.out (.slice none 0 0) [] (Reads.nil W6) 0 (by decide) (by decide)
  refine hn.mono ?_
  rintro e w8 ⟨v8, rfl, h8⟩
  rw [List.nil_append, PackP.numB_lt 0 (by decide)] at h8
  have H8 := Lib.hid h8
  clear hn h8 H6
  go_wp2_with fail
  have hq := bytesEqual_any v8 _ [0] [0] _ ((H8.out.alloc (.cells #[.int .u8 0] 5)).reads (List.mem_cons_self ..)) (HR1.out w8) (by decide) (by decide)
  refine hq.mono ?_
  rintro e w9 ⟨rfl, rfl⟩
  have H9 := Lib.hid (H8.out.alloc (.cells #[.int .u8 0] 5))
  have hd : decide (([0] : List Nat) = [0]) = true := by decide
  rw [hd]
  clear hq H8 hd
  go_wp2_with fail
  go_ret
  exact ⟨rfl, H9.out.bel⟩
end Go.Proofs.Ytgmgbgjghncipaa

