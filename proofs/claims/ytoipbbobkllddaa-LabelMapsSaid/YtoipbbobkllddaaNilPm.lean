/- What perm says of nil. -/
import Derived.Test.YtoipbbobkllddaaDo
namespace Go.Proofs.Ytoipbbobkllddaa
open Go.RowKit

theorem permAt_nil (i : Int) (w : World) : Calls Try.prog 42 #[.pointer none, .int .i64 i] w fun e w' => e = .returned (.int .i64 (-1)) ∧ w = w' := by
  have HL := Lib.hid (permLen_nil w)
  by_cases h0 : i < 0
  · go_enter Try.func42, Try.ntmps42
    go_wp2_with fail
    go_ret
    exact ⟨rfl, rfl⟩
  · have h1 : (0 : Int) ≤ i := by omega
    go_enter Try.func42, Try.ntmps42
    go_wp2_with fail
    refine HL.out.mono ?_
    rintro e w1 ⟨rfl, rfl⟩
    go_wp2_with fail
    go_ret
    exact ⟨rfl, rfl⟩

theorem permAt_out (w : World) {p n : Nat} {a : Option Addr} {c : Nat} (hc : w.cell? ⟨p, 0, none⟩ = some (.slice a n c)) (i : Int) (hi : i < 0 ∨ (n : Int) ≤ i) :
    Calls Try.prog 42 #[.pointer (some ⟨p, 0, none⟩), .int .i64 i] w fun e w' => e = .returned (.int .i64 (-1)) ∧ w = w' := by
  have HL := Lib.hid (permLen_any hc)
  by_cases h0 : i < 0
  · clear hi
    go_enter Try.func42, Try.ntmps42
    go_wp2_with fail
    go_ret
    exact ⟨rfl, rfl⟩
  · have h1 : (n : Int) ≤ i := by omega
    clear hi
    go_enter Try.func42, Try.ntmps42
    go_wp2_with fail
    refine HL.out.mono ?_
    rintro e w1 ⟨rfl, rfl⟩
    go_wp2_with fail
    go_ret
    exact ⟨rfl, rfl⟩

theorem reads_nil (w : World) : Reads w (.slice none 0 0) (List.map (Value.int .i64) []) := ⟨none, 0, rfl, by simp, by decide, fun _ => rfl, .inl rfl⟩

set_option maxRecDepth 100000 in
theorem permSame_nilnil {w0 w : World} {os : List Thing} (h : St w0 w os) :
    Calls Try.prog 23 #[.pointer none, .pointer none] w fun e w' => e = .returned (.bool true) ∧ St w0 w' os := by
  have HL := Lib.hid (permList_nil w)
  have HE := Lib.hid (equalInts_any (.slice none 0 0) (.slice none 0 0) [] [] w (reads_nil w) (reads_nil w))
  have H := Lib.hid h
  clear h
  go_enter Try.func23, Try.ntmps23
  go_wp2_with fail
  refine HL.out.mono ?_
  rintro e w1 ⟨rfl, rfl⟩
  go_wp2_with fail
  refine HL.out.mono ?_
  rintro e w1 ⟨rfl, rfl⟩
  go_wp2_with fail
  refine HE.out.mono ?_
  rintro e w3 ⟨he, m, rfl⟩
  have he2 : e = .returned (.bool true) := by rw [he]; simp
  clear he
  subst he2
  have H4 := Lib.hid (H.out.same (Keeps.drewN _ m))
  generalize w.drewN m = w4 at H4 ⊢
  go_wp2
  go_ret
  exact ⟨rfl, H4.out⟩

set_option maxRecDepth 100000 in
theorem permSame_nil {w0 w : World} {os : List Thing} (h : St w0 w os) (q : Nat) (u : Value) (ys : List Int) (hq : PermV w0 os q u ys) (hl : ys.length ≤ 1000000) :
    Calls Try.prog 23 #[.pointer none, .pointer (some ⟨q, 0, none⟩)] w fun e w' => e = .returned (.bool (decide ([] = ys))) ∧ St w0 w' os := by
  have HL := Lib.hid (permList_nil w)
  have H2 := Lib.hid (permListV_any h q u ys hq hl)
  clear h
  go_enter Try.func23, Try.ntmps23
  go_wp2_with fail
  refine HL.out.mono ?_
  rintro e w1 ⟨rfl, rfl⟩
  go_wp2_with fail
  refine H2.out.mono ?_
  rintro e w2 ⟨v2, rfl, h2⟩
  have HE := Lib.hid (equalInts_any (.slice none 0 0) v2 [] ys w2 (reads_nil _) (h2.reads (List.mem_cons_self ..)))
  have H3 := Lib.hid h2
  clear h2 H2
  go_wp2_with fail
  refine HE.out.mono ?_
  rintro e w3 ⟨rfl, m, rfl⟩
  have H4 := Lib.hid ((H3.out.same (Keeps.drewN _ m)).tail)
  clear H3 HE
  obtain ⟨b, hb⟩ : ∃ b, decide ([] = ys) = b := ⟨_, rfl⟩
  rw [hb]
  generalize w2.drewN m = w4 at H4 ⊢
  go_wp2
  go_ret
  exact ⟨by rw [hb]; rfl, H4.out⟩
end Go.Proofs.Ytoipbbobkllddaa

