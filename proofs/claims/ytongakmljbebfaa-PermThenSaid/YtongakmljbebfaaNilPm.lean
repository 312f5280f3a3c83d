/- What perm says of nil. -/
import Derived.Test.YtongakmljbebfaaDo
namespace Go.Proofs.Ytongakmljbebfaa
open Go.RowKit

theorem permAt_nil (i : Int) (w : World) : Calls Try.prog 25 #[.pointer none, .int .i64 i] w fun e w' => e = .returned (.int .i64 (-1)) ∧ w = w' := by
  have HL := Lib.hid (permLen_nil w)
  by_cases h0 : i < 0
  · go_enter Try.func25, Try.ntmps25
    go_wp2_with fail
    go_ret
    exact ⟨rfl, rfl⟩
  · have h1 : (0 : Int) ≤ i := by omega
    go_enter Try.func25, Try.ntmps25
    go_wp2_with fail
    refine HL.out.mono ?_
    rintro e w1 ⟨rfl, rfl⟩
    go_wp2_with fail
    go_ret
    exact ⟨rfl, rfl⟩

theorem permAt_out (w : World) {p n : Nat} {a : Option Addr} {c : Nat} (hc : w.cell? ⟨p, 0, none⟩ = some (.slice a n c)) (i : Int) (hi : i < 0 ∨ (n : Int) ≤ i) :
    Calls Try.prog 25 #[.pointer (some ⟨p, 0, none⟩), .int .i64 i] w fun e w' => e = .returned (.int .i64 (-1)) ∧ w = w' := by
  have HL := Lib.hid (permLen_any hc)
  by_cases h0 : i < 0
  · clear hi
    go_enter Try.func25, Try.ntmps25
    go_wp2_with fail
    go_ret
    exact ⟨rfl, rfl⟩
  · have h1 : (n : Int) ≤ i := by omega
    clear hi
    go_enter Try.func25, Try.ntmps25
    go_wp2_with fail
    refine HL.out.mono ?_
    rintro e w1 ⟨rfl, rfl⟩
    go_wp2_with fail
    go_ret
    exact ⟨rfl, rfl⟩

theorem permOrbit_nil (i : Int) (w : World) : Calls Try.prog 18 #[.pointer none, .int .i64 i] w fun e w' => e = .returned (.slice none 0 0) ∧ w = w' := by
  have HL := Lib.hid (permLen_nil w)
  by_cases h0 : i < 0
  · go_enter Try.func18, Try.ntmps18
    go_wp2_with fail
    go_ret
    exact ⟨rfl, rfl⟩
  · have h1 : (0 : Int) ≤ i := by omega
    go_enter Try.func18, Try.ntmps18
    go_wp2_with fail
    refine HL.out.mono ?_
    rintro e w1 ⟨rfl, rfl⟩
    go_wp2_with fail
    go_ret
    exact ⟨rfl, rfl⟩

set_option maxRecDepth 100000 in
theorem permNames_nil {w0 w : World} {os : List Thing} (h : St w0 w os) :
    Calls Try.prog 14 #[.pointer none] w fun e w' => ∃ a c, e = .returned (.slice a 0 c) ∧ St w0 w' os := by
  have S1 : Hid (St w0 (w.alloc (.cells #[.int .i64 (-1)] 3)) (rowT 3 (.slice (some ⟨w.heap.size, 0, none⟩) 1 1) [.int .i64 (-1)] :: os)) :=
    h.newRow ((Keeps.refl _ _).alloc _) (World.ownsRow_lit (base := w.heap.size) (e := 3) (size := 1) w #[.int .i64 (-1)] 1 (Nat.le_refl _) (by decide) (by simp))
  have HLEN := Lib.hid (permLen_nil (w.alloc (.cells #[.int .i64 (-1)] 3)))
  have HREP := Lib.hid (repeat_any S1.out (.slice (some ⟨w.heap.size, 0, none⟩) 1 1) (-1) 0 (by omega) (fun W os' hW => hW.reads (List.mem_append_right _ (List.mem_cons_self ..))))
  clear h
  go_enter Try.func14, Try.ntmps14
  go_wp2_with fail
  refine HLEN.out.mono ?_
  rintro e w1 ⟨rfl, rfl⟩
  clear HLEN
  go_wp2_with fail
  refine HREP.out.mono ?_
  rintro e w2 ⟨v2, rfl, h2⟩
  obtain ⟨a2, c2, rfl, j1, j2⟩ := ownsRow_slice h2.row
  rw [intsOf_len, List.length_replicate]
  have S3 := Lib.hid h2.tail.tail
  clear h2 HREP S1 j1 j2
  go_wp2_with fail
  go_loopw [14, 4] (fun iv nv wr => iv = .int .i64 0 ∧ St w0 wr os) (fun _ _ _ => 0)
  case atStart => exact ⟨rfl, S3.out⟩
  case round =>
    obtain ⟨rfl, hS⟩ := hrel
    have HS := Lib.hid hS
    clear hS S3
    go_wp2_with fail
    go_ret
    exact ⟨_, _, rfl, HS.out⟩

set_option maxRecDepth 100000 in
theorem permOrbits_nil {w0 w : World} {os : List Thing} (h : St w0 w os) :
    Calls Try.prog 12 #[.pointer none] w fun e w' => e = .returned (.slice none 0 0) ∧ St w0 w' os := by
  have HN := Lib.hid (permNames_nil h)
  clear h
  go_enter Try.func12, Try.ntmps12
  go_wp2_with fail
  refine HN.out.mono ?_
  rintro e w1 ⟨a, c, rfl, h1⟩
  have H1 := Lib.hid h1
  clear h1 HN
  go_wp2_with fail
  go_loopw [11, 3] (fun iv ov wr => iv = .int .i64 0 ∧ ov = .slice none 0 0 ∧ St w0 wr os) (fun _ _ _ => 0)
  case atStart => exact ⟨rfl, rfl, H1.out⟩
  case round =>
    obtain ⟨rfl, rfl, hS⟩ := hrel
    have HS := Lib.hid hS
    clear hS H1
    go_wp2_with fail
    go_ret
    exact ⟨rfl, HS.out⟩

theorem reads_nil (w : World) : Reads w (.slice none 0 0) (List.map (Value.int .i64) []) := ⟨none, 0, rfl, by simp, by decide, fun _ => rfl, .inl rfl⟩

set_option maxRecDepth 100000 in
theorem permSame_nilnil {w0 w : World} {os : List Thing} (h : St w0 w os) :
    Calls Try.prog 20 #[.pointer none, .pointer none] w fun e w' => e = .returned (.bool true) ∧ St w0 w' os := by
  have HL := Lib.hid (permList_nil w)
  have HE := Lib.hid (equalInts_any (.slice none 0 0) (.slice none 0 0) [] [] w (reads_nil w) (reads_nil w))
  have H := Lib.hid h
  clear h
  go_enter Try.func20, Try.ntmps20
  go_wp2_with fail
  refine HL.out.mono ?_
  rintro e w1 ⟨rfl, rfl⟩
  go_wp2_with fail
  refine HL.out.mono ?_
  rintro e w1 ⟨rfl, rfl⟩
  go_wp2_with fail
  refine HE.out.mono ?_
  rintro e w3 ⟨he, m, rfl⟩
  have he2 : e = .returned (.bool true) := by rw [he]; simp
  clear he
  subst he2
  have H4 := Lib.hid (H.out.same (Keeps.drewN _ m))
  generalize w.drewN m = w4 at H4 ⊢
  go_wp2
  go_ret
  exact ⟨rfl, H4.out⟩

set_option maxRecDepth 100000 in
theorem permSame_nil {w0 w : World} {os : List Thing} (h : St w0 w os) (q : Nat) (u : Value) (ys : List Int) (hq : PermV w0 os q u ys) (hl : ys.length ≤ 1000000) :
    Calls Try.prog 20 #[.pointer none, .pointer (some ⟨q, 0, none⟩)] w fun e w' => e = .returned (.bool (decide ([] = ys))) ∧ St w0 w' os := by
  have HL := Lib.hid (permList_nil w)
  have H2 := Lib.hid (permListV_any h q u ys hq hl)
  clear h
  go_enter Try.func20, Try.ntmps20
  go_wp2_with fail
  refine HL.out.mono ?_
  rintro e w1 ⟨rfl, rfl⟩
  go_wp2_with fail
  refine H2.out.mono ?_
  rintro e w2 ⟨v2, rfl, h2⟩
  have HE := Lib.hid (equalInts_any (.slice none 0 0) v2 [] ys w2 (reads_nil _) (h2.reads (List.mem_cons_self ..)))
  have H3 := Lib.hid h2
  clear h2 H2
  go_wp2_with fail
  refine HE.out.mono ?_
  rintro e w3 ⟨rfl, m, rfl⟩
  have H4 := Lib.hid ((H3.out.same (Keeps.drewN _ m)).tail)
  clear H3 HE
  obtain ⟨b, hb⟩ : ∃ b, decide ([] = ys) = b := ⟨_, rfl⟩
  rw [hb]
  generalize w2.drewN m = w4 at H4 ⊢
  go_wp2
  go_ret
  exact ⟨by rw [hb]; rfl, H4.out⟩
end Go.Proofs.Ytongakmljbebfaa

