/- The contracts of slices.Clone at words and at integers. -/
import Derived.Test.YtoipbbobkllddaaVecMore
import Derived.WalkSpells
namespace Go.Proofs.Ytoipbbobkllddaa
open Go.RowKit

set_option maxRecDepth 100000 in
theorem info_i64 : (Try.prog.info? 3).map (fun i => (i.zero, i.size, i.bytes)) = some (some (.int .i64 0), 1, 8) := by kernel_rfl

set_option maxRecDepth 100000 in
set_option maxHeartbeats 400000 in
theorem cloneWords_any (v : Value) (xs : List Value) (w : World) (hv : Reads w v xs) (hone : ∀ u ∈ xs, u.oneCell' = true) (hbytes : xs.length * 8 ≤ 140737488355328) :
    Calls Try.prog 62 #[v] w fun e w' => ∃ v', e = .returned v' ∧ w'.ownsRow w.heap.size 83 1 v' xs.length xs ∧ Keeps [] w w' := by
  obtain ⟨ao, cap, rfl, hl, hm, hnil, hc⟩ := hv
  have hq := fun (w : World) => Lib.run_eql_slice_nil (P := Try.prog) w 96 83 ao xs.length cap 0 0 Try.underlying96
  obtain ⟨i0, hi, hz0, hz1, hz2⟩ := info_parts info_u64
  cases ao with
  | none =>
    have hx : xs = [] := by
      rcases hc with hc | ⟨b, off, h, _⟩
      · exact hc
      · cases h
    subst hx
    obtain rfl := hnil rfl
    have hq0 : ∀ w, (binOp .eql 96 (.slice none 0 0) (.slice none 0 0)).run Try.prog w = .ok (.bool true) w := hq
    clear hq
    show Calls Try.prog _ #[.slice none 0 0] w _
    go_enter Try.func62, Try.ntmps62
    go_wp2
    go_ret
    exact ⟨_, rfl, World.ownsRow_nil _ _ _ _, Keeps.refl _ _⟩
  | some ad =>
    have hnews : ∀ j u, xs[j]? = some u → (w.alloc (.cells #[] 83)).cell? (ad.add j) = some u := by
      intro j u hu
      rcases hc with hc | ⟨b, off, h, hc⟩
      · subst hc; simp at hu
      · cases h
        have ha : (⟨b, off, none⟩ : Addr).add j = ⟨b, off + j, none⟩ := by unfold Addr.add; split <;> simp_all
        rw [ha]
        have h1 := hc j u hu
        have hb : Below w.heap.size w (w.alloc (.cells #[] 83)) := (Below.refl _ _).alloc (Nat.le_refl _) _
        rw [hb.cell (p := ⟨b, off + j, none⟩) (World.block_lt_of_cell? w _ h1)]
        exact h1
    have H := Lib.hid hnews
    have hown := Lib.hid (World.ownsRow_made (base := w.heap.size) (e := 83) (size := 1) w #[] 0 (Nat.le_refl _) (by decide) (by simp))
    clear hnews hc
    go_enter Try.func62, Try.ntmps62
    go_wp2_with (at_builtin; refine wpList_append_own _ rfl _ _ 96 rfl w.heap.size 83 i0 (.int .u64 0) 1 8 Try.underlying96 hi hz0 hz1 hz2 rfl (by decide) _ _ _ rfl hown.out ad xs.length cap xs rfl (by simp) H.out hone ?c3 ?c4 ?c5 ?_)
    case c3 => omega
    case c4 => omega
    case c5 => simp
    intro v' w1 hown' hgrow _
    try simp only [Nat.zero_add, List.nil_append] at hown'
    go_wp2
    go_ret
    refine ⟨_, rfl, hown', ((Keeps.refl [] w).alloc _).grown hgrow ?_⟩
    intro k hk
    simp [Value.ownBlock] at hk
    omega

set_option maxRecDepth 100000 in
set_option maxHeartbeats 400000 in
theorem cloneInts_any (v : Value) (xs : List Value) (w : World) (hv : Reads w v xs) (hone : ∀ u ∈ xs, u.oneCell' = true) (hbytes : xs.length * 8 ≤ 140737488355328) :
    Calls Try.prog 10 #[v] w fun e w' => ∃ v', e = .returned v' ∧ w'.ownsRow w.heap.size 3 1 v' xs.length xs ∧ Keeps [] w w' := by
  obtain ⟨ao, cap, rfl, hl, hm, hnil, hc⟩ := hv
  have hq := fun (w : World) => Lib.run_eql_slice_nil (P := Try.prog) w 22 3 ao xs.length cap 0 0 Try.underlying22
  obtain ⟨i0, hi, hz0, hz1, hz2⟩ := info_parts info_i64
  cases ao with
  | none =>
    have hx : xs = [] := by
      rcases hc with hc | ⟨b, off, h, _⟩
      · exact hc
      · cases h
    subst hx
    obtain rfl := hnil rfl
    have hq0 : ∀ w, (binOp .eql 22 (.slice none 0 0) (.slice none 0 0)).run Try.prog w = .ok (.bool true) w := hq
    clear hq
    show Calls Try.prog _ #[.slice none 0 0] w _
    go_enter Try.func10, Try.ntmps10
    go_wp2
    go_ret
    exact ⟨_, rfl, World.ownsRow_nil _ _ _ _, Keeps.refl _ _⟩
  | some ad =>
    have hnews : ∀ j u, xs[j]? = some u → (w.alloc (.cells #[] 3)).cell? (ad.add j) = some u := by
      intro j u hu
      rcases hc with hc | ⟨b, off, h, hc⟩
      · subst hc; simp at hu
      · cases h
        have ha : (⟨b, off, none⟩ : Addr).add j = ⟨b, off + j, none⟩ := by unfold Addr.add; split <;> simp_all
        rw [ha]
        have h1 := hc j u hu
        have hb : Below w.heap.size w (w.alloc (.cells #[] 3)) := (Below.refl _ _).alloc (Nat.le_refl _) _
        rw [hb.cell (p := ⟨b, off + j, none⟩) (World.block_lt_of_cell? w _ h1)]
        exact h1
    have H := Lib.hid hnews
    have hown := Lib.hid (World.ownsRow_made (base := w.heap.size) (e := 3) (size := 1) w #[] 0 (Nat.le_refl _) (by decide) (by simp))
    clear hnews hc
    go_enter Try.func10, Try.ntmps10
    go_wp2_with (at_builtin; refine wpList_append_own _ rfl _ _ 22 rfl w.heap.size 3 i0 (.int .i64 0) 1 8 Try.underlying22 hi hz0 hz1 hz2 rfl (by decide) _ _ _ rfl hown.out ad xs.length cap xs rfl (by simp) H.out hone ?c3 ?c4 ?c5 ?_)
    case c3 => omega
    case c4 => omega
    case c5 => simp
    intro v' w1 hown' hgrow _
    try simp only [Nat.zero_add, List.nil_append] at hown'
    go_wp2
    go_ret
    refine ⟨_, rfl, hown', ((Keeps.refl [] w).alloc _).grown hgrow ?_⟩
    intro k hk
    simp [Value.ownBlock] at hk
    omega

end Go.Proofs.Ytoipbbobkllddaa

