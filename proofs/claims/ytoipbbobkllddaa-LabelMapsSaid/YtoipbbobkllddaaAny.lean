/- The document's map of numbers. -/
import Derived.Test.YtoipbbobkllddaaNilPm
import Derived.Test.YtoipbbobkllddaaMixP
import Derived.Laws.ResultCell
namespace Go.Proofs.Ytoipbbobkllddaa
open Go.RowKit

/-- the document's map in memory -/
def refMap (v : Value) (r l : Int) : Obj := .cells #[v, .int .i64 r, .int .i64 l] 40

set_option maxRecDepth 100000 in
set_option maxHeartbeats 4000000 in
theorem refAny_pos {w0 w : World} {os : List Thing} (h : St w0 w os) (n : Nat) (hn : n ≤ 500) (hn0 : 0 < n) (sv : Value) (by8 : List Nat) (hv : ∀ w' os', St w0 w' (os' ++ os) → Reads w' sv (bytesOf by8)) (hb8 : ∀ x ∈ by8, x < 256) (r : Nat) (hr : r < 256) :
    Calls Try.prog 17 #[.int .i64 n, sv, .int .u8 r] w fun e w' => ∃ (v' : Value) (xs : List Int), e = .returned (.agg #[v', .int .i64 (r % (2 * n) : Nat), .int .i64 0]) ∧ IsPerm xs ∧ xs.length = 2 * n ∧ St w0 w' (rowT 3 v' (intsOf xs) :: os) := by
  have h1 := h.newCell (refMap (.slice none 0 0) 0 0)
  have HM := Lib.hid (refMix_any h1 (2 * n) (by omega) sv by8 (fun W os' hW => hv W (os' ++ [_]) (by simpa using hW)) hb8)
  have hne : ¬ ((2 : Int) * (n : Int)) = 0 := by omega
  have hmul : (2 : Int) * (n : Int) = ((2 * n : Nat) : Int) := by simp
  obtain ⟨M, hM⟩ : ∃ M, r % (2 * n) = M := ⟨_, rfl⟩
  obtain ⟨K, hK⟩ : ∃ K, 2 * n = K := ⟨_, rfl⟩
  rw [hM]
  rw [hK] at HM hmul hM ⊢
  have htm : (r : Int).tmod (K : Int) = (M : Int) := by rw [← hM, Int.tmod_eq_emod_of_nonneg (by omega)]; rfl
  have hK0 : ¬ (K : Int) = 0 := by omega
  clear h h1 hv hb8 hM hne
  go_enter Try.func17, Try.ntmps17
  go_wp2_with fail
  generalize w.heap.size = g6 at HM ⊢
  refine HM.out.mono ?_
  rintro e w2 ⟨v2, xs, rfl, hip, hxl, h2⟩
  obtain ⟨a2, c2, rfl, j1, j2⟩ := ownsRow_slice h2.row
  rw [intsOf_len, hxl] at h2 ⊢
  have H2 := Lib.hid h2
  have HIP := Lib.hid hip
  have HXL := Lib.hid hxl
  have h3 := (h2.swap.alloc (.cells #[.slice a2 K c2, .int .i64 (M : Nat), .int .i64 0] 40))
  have k0 := h3.cellAt 0
  have k1 := h3.cellAt 1
  have k2 := h3.cellAt 2
  have f0 := h3.freeAt 0
  have f1 := h3.freeAt 1
  have f2 := h3.freeAt 2
  have H4 := Lib.hid (((h3.storeCell 0 (.slice a2 K c2)).storeCell 1 (.int .i64 (M : Nat))).storeCell 2 (.int .i64 0))
  clear h2 hip hxl HM j1 j2 h3
  go_wp2_with fail
  have hb : (((((w2.alloc (.cells #[.slice a2 K c2, .int .i64 (M : Nat), .int .i64 0] 40)).setCell ⟨g6, 0, none⟩ (.slice a2 K c2)).setCell ⟨g6, 1, none⟩ (.int .i64 (M : Nat))).setCell ⟨g6, 2, none⟩ (.int .i64 0)).heap[g6]?) = some (.cells #[.slice a2 K c2, .int .i64 (M : Nat), .int .i64 0] 40 (0, 0)) := H4.out.block
  refine bodyPost_ret (v := .agg #[.slice a2 K c2, .int .i64 (M : Nat), .int .i64 0]) (results_cell_row rfl _ _ g6 40 _ (0, 0) _ rfl hb Try.underlying40 rfl (by kernel_rfl)) rfl ?_
  exact ⟨_, xs, rfl, HIP.out, HXL.out, H4.out.tail⟩

set_option maxRecDepth 100000 in
set_option maxHeartbeats 4000000 in
theorem refAny_zero {w0 w : World} {os : List Thing} (h : St w0 w os) (sv : Value) (by8 : List Nat) (hv : ∀ w' os', St w0 w' (os' ++ os) → Reads w' sv (bytesOf by8)) (hb8 : ∀ x ∈ by8, x < 256) (r : Nat) :
    Calls Try.prog 17 #[.int .i64 0, sv, .int .u8 r] w fun e w' => ∃ (v' : Value) (xs : List Int), e = .returned (.agg #[v', .int .i64 (-1), .int .i64 0]) ∧ IsPerm xs ∧ xs.length = 0 ∧ St w0 w' (rowT 3 v' (intsOf xs) :: os) := by
  have h1 := h.newCell (refMap (.slice none 0 0) 0 0)
  have HM := Lib.hid (refMix_any h1 0 (by omega) sv by8 (fun W os' hW => hv W (os' ++ [_]) (by simpa using hW)) hb8)
  clear h h1 hv hb8
  go_enter Try.func17, Try.ntmps17
  go_wp2_with fail
  generalize w.heap.size = g6 at HM ⊢
  refine HM.out.mono ?_
  rintro e w2 ⟨v2, xs, rfl, hip, hxl, h2⟩
  obtain ⟨a2, c2, rfl, j1, j2⟩ := ownsRow_slice h2.row
  rw [intsOf_len, hxl] at h2 ⊢
  have HIP := Lib.hid hip
  have HXL := Lib.hid hxl
  have h3 := (h2.swap.alloc (.cells #[.slice a2 0 c2, .int .i64 (-1), .int .i64 0] 40))
  have k0 := h3.cellAt 0
  have k1 := h3.cellAt 1
  have k2 := h3.cellAt 2
  have f0 := h3.freeAt 0
  have f1 := h3.freeAt 1
  have f2 := h3.freeAt 2
  have H4 := Lib.hid (((h3.storeCell 0 (.slice a2 0 c2)).storeCell 1 (.int .i64 (-1))).storeCell 2 (.int .i64 0))
  clear h2 hip hxl HM j1 j2 h3
  go_wp2_with fail
  have hb : (((((w2.alloc (.cells #[.slice a2 0 c2, .int .i64 (-1), .int .i64 0] 40)).setCell ⟨g6, 0, none⟩ (.slice a2 0 c2)).setCell ⟨g6, 1, none⟩ (.int .i64 (-1))).setCell ⟨g6, 2, none⟩ (.int .i64 0)).heap[g6]?) = some (.cells #[.slice a2 0 c2, .int .i64 (-1), .int .i64 0] 40 (0, 0)) := H4.out.block
  refine bodyPost_ret (v := .agg #[.slice a2 0 c2, .int .i64 (-1), .int .i64 0]) (results_cell_row rfl _ _ g6 40 _ (0, 0) _ rfl hb Try.underlying40 rfl (by kernel_rfl)) rfl ?_
  exact ⟨_, xs, rfl, HIP.out, HXL.out, H4.out.tail⟩

/-- the root of such a map -/
def rootN (n r : Nat) : Int := if n = 0 then -1 else (r % (2 * n) : Nat)
theorem refAny_any {w0 w : World} {os : List Thing} (h : St w0 w os) (n : Nat) (hn : n ≤ 500) (sv : Value) (by8 : List Nat) (hv : ∀ w' os', St w0 w' (os' ++ os) → Reads w' sv (bytesOf by8)) (hb8 : ∀ x ∈ by8, x < 256) (r : Nat) (hr : r < 256) :
    Calls Try.prog 17 #[.int .i64 n, sv, .int .u8 r] w fun e w' => ∃ (v' : Value) (xs : List Int), e = .returned (.agg #[v', .int .i64 (rootN n r), .int .i64 0]) ∧ IsPerm xs ∧ xs.length = 2 * n ∧ St w0 w' (rowT 3 v' (intsOf xs) :: os) := by
  by_cases h0 : n = 0
  · subst h0
    exact refAny_zero h sv by8 hv hb8 r
  · unfold rootN
    rw [if_neg h0]
    exact refAny_pos h n hn (by omega) sv by8 hv hb8 r hr
end Go.Proofs.Ytoipbbobkllddaa

