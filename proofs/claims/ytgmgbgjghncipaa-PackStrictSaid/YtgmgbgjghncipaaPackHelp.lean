/- What the walks of pack's laws share. -/
import Derived.Test.YtgmgbgjghncipaaPackIn
import Derived.Test.YtgmgbgjghncipaaPackGet
import Derived.Test.YtgmgbgjghncipaaVecMore
namespace Go.Proofs.Ytgmgbgjghncipaa
open Go.RowKit

theorem packK_nil (plain : Bool) : ∀ k, packK plain [] k = [0]
  | 0 => rfl
  | k + 1 => by
    have := packK_nil plain k
    unfold packK
    rw [this, if_neg]
    rintro ⟨_, h⟩
    unfold codedB at h
    simp at h
theorem packB_nil (plain : Bool) : packB plain [] = [0] := packK_nil plain 9

theorem numB_300 : PackP.numB 300 = [172, 2] := by rw [PackP.numB_ge 300 (by decide), PackP.numB_lt _ (by decide)]

set_option maxHeartbeats 1000000 in
theorem vec19_any {w0 w : World} {os : List Thing} (h : St w0 w os) (sv : Value) (l : List Bool) (hn : l.length < 1099511627000)
    (hv : ∀ w' os', St w0 w' (os' ++ os) → Reads w' sv (intsOf (bitsOf l))) :
    Calls Try.prog 18 #[sv] w fun e w' => ∃ b v, e = .returned (.pointer (some ⟨b, 0, none⟩)) ∧ St w0 w' (vecT b v l :: os) := by
  have HV := Lib.hid hv
  have H := Lib.hid h
  clear h hv
  go_enter Try.func18, Try.ntmps18
  go_wp2_with fail
  refine (bitsNew_any H.out).mono ?_
  rintro e w1 ⟨b, rfl, h1, _⟩
  have H1 := Lib.hid h1
  clear h1 H
  go_wp2_with fail
  refine (vecAdd_any H1.out sv (bitsOf l) (fun w' v' l' h' => HV.out w' [_] h') (by rw [bitsOf_len]; simp; omega)).mono ?_
  rintro e w2 ⟨rfl, v2, h2⟩
  rw [flags_bitsOf, List.nil_append] at h2
  have H2 := Lib.hid h2
  go_wp2
  go_ret
  exact ⟨b, v2, rfl, H2.out⟩

/-- so many times over -/
def times (n : Nat) (l : List Bool) : List Bool := (List.replicate n l).flatten

set_option maxRecDepth 100000 in
set_option maxHeartbeats 1000000 in
theorem awake19_any {w0 w : World} {os : List Thing} (h : St w0 w os) : Calls Try.prog 8 #[] w fun e w' => e = .returned (.bool true) ∧ St w0 w' os := by
  have HR2 := Lib.hid (fun (w1 : World) => Reads.made w1 #[.int .u8 172, .int .u8 2] 5 (0, 0) 2 (by simp) (by decide))
  have HR1 := Lib.hid (fun (w1 : World) => Reads.made w1 #[.int .u8 0] 5 (0, 0) 1 (by simp) (by decide))
  have H := Lib.hid h
  clear h
  go_enter Try.func8, Try.ntmps8
  go_wp2_with fail
  have hn : Calls Try.prog 10 #[.slice none 0 0, .int .u64 300] w _ := packNum_any H.out (.slice none 0 0) [] (Reads.nil w) 300 (by decide) (by decide)
  refine hn.mono ?_
  rintro e w1 ⟨v1, rfl, S1⟩
  rw [List.nil_append, numB_300] at S1
  have S1 := Lib.hid S1
  clear hn H
  go_wp2_with fail
  have hq := bytesEqual_any v1 _ [172, 2] [172, 2] _ ((S1.out.alloc (.cells #[.int .u8 172, .int .u8 2] 5)).reads (List.mem_cons_self ..)) (HR2.out w1) (by decide) (by decide)
  refine hq.mono ?_
  rintro e w2 ⟨rfl, rfl⟩
  have S2 := Lib.hid (S1.out.alloc (.cells #[.int .u8 172, .int .u8 2] 5))
  have hd : decide (([172, 2] : List Nat) = [172, 2]) = true := by decide
  rw [hd]
  clear hq S1 hd
  generalize w1.alloc (.cells #[.int .u8 172, .int .u8 2] 5) = W2 at S2 ⊢
  go_wp2_with fail
  refine (bitsNew_any S2.out).mono ?_
  rintro e w3 ⟨b, rfl, h3, _⟩
  have S3 := Lib.hid h3
  clear h3 S2
  go_wp2_with fail
  have hp : Calls Try.prog 16 #[.pointer (some ⟨b, 0, none⟩), .bool false] w3 _ := pack_any S3.out _ [] false (by decide) (VecIs.vec (b := b) (v := .slice none 0 0) (l := []) (by simp) (by decide))
  refine hp.mono ?_
  rintro e w4 ⟨v4, rfl, S4⟩
  rw [packB_nil] at S4
  have S4 := Lib.hid S4
  clear hp S3
  go_wp2_with fail
  have hq := bytesEqual_any v4 _ [0] [0] _ ((S4.out.alloc (.cells #[.int .u8 0] 5)).reads (List.mem_cons_self ..)) (HR1.out w4) (by decide) (by decide)
  refine hq.mono ?_
  rintro e w5 ⟨rfl, rfl⟩
  have S5 := Lib.hid (S4.out.alloc (.cells #[.int .u8 0] 5))
  have hd : decide (([0] : List Nat) = [0]) = true := by decide
  rw [hd]
  clear hq S4 hd
  go_wp2
  go_ret
  exact ⟨rfl, S5.out.tail.tail.tail⟩
end Go.Proofs.Ytgmgbgjghncipaa

