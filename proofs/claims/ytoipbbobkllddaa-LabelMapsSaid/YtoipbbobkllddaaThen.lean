/- perm.Then. -/
import Derived.Test.YtoipbbobkllddaaOne
namespace Go.Proofs.Ytoipbbobkllddaa
open Go.RowKit

theorem permThen_none (x : Value) (q : Value) (w : World) (h : (x = .pointer none ∧ ∃ a, q = .pointer a) ∨ (∃ a, x = .pointer (some a)) ∧ q = .pointer none) :
    Calls Try.prog 33 #[x, q] w fun e w' => e = .returned (.tuple #[.pointer none, .int .i64 2]) ∧ w = w' := by
  rcases h with ⟨rfl, a, rfl⟩ | ⟨⟨a, rfl⟩, rfl⟩
  · go_enter Try.func33, Try.ntmps33
    go_wp2
    go_ret2
    exact ⟨rfl, rfl⟩
  · go_enter Try.func33, Try.ntmps33
    go_wp2
    go_ret2
    exact ⟨rfl, rfl⟩

theorem permThen_range {w : World} (p q : Nat) (a b : Option Addr) (n m c d : Nat) (hp : w.cell? ⟨p, 0, none⟩ = some (.slice a n c)) (hq : w.cell? ⟨q, 0, none⟩ = some (.slice b m d)) (hne : n ≠ m) :
    Calls Try.prog 33 #[.pointer (some ⟨p, 0, none⟩), .pointer (some ⟨q, 0, none⟩)] w fun e w' => e = .returned (.tuple #[.pointer none, .int .i64 1]) ∧ w = w' := by
  have HL := Lib.hid (permLen_any hp)
  have HM := Lib.hid (permLen_any hq)
  have hb : ((n : Int) != (m : Int)) = true := bne_iff_ne.2 (by omega)
  go_enter Try.func33, Try.ntmps33
  go_wp2_with fail
  refine HL.out.mono ?_
  rintro e w1 ⟨rfl, rfl⟩
  go_wp2_with fail
  refine HM.out.mono ?_
  rintro e w1 ⟨rfl, rfl⟩
  go_wp2_with fail
  go_ret2
  exact ⟨rfl, rfl⟩

/-- the first numbers of one behind the other -/
def thenR (xs ys : List Int) (i : Nat) : List Int := (List.range i).map fun j => (toN ys (toN xs j) : Int)
theorem thenR_len (xs ys : List Int) (i : Nat) : (intsOf (thenR xs ys i)).length = i := by rw [intsOf_len]; simp [thenR]
theorem thenR_snoc (xs ys : List Int) (i : Nat) : intsOf (thenR xs ys i) ++ [Value.int .i64 (toN ys (toN xs i) : Nat)] = intsOf (thenR xs ys (i + 1)) := by simp [thenR, intsOf, List.range_succ]
theorem thenR_all (xs ys : List Int) : thenR xs ys xs.length = thenL xs ys := rfl

set_option maxRecDepth 100000 in
set_option maxHeartbeats 4000000 in
theorem permThen_any {w0 w : World} {os : List Thing} (h : St w0 w os) (p q : Nat) (v u : Value) (xs ys : List Int) (hp : PermV w0 os p v xs) (hq : PermV w0 os q u ys) (hpx : IsPerm xs) (hpy : IsPerm ys) (hl : xs.length = ys.length) (hN : xs.length ≤ 1000000) :
    Calls Try.prog 33 #[.pointer (some ⟨p, 0, none⟩), .pointer (some ⟨q, 0, none⟩)] w fun e w' => ∃ r v', e = .returned (.tuple #[.pointer (some ⟨r, 0, none⟩), .int .i64 0]) ∧ St w0 w' (cellT r (permObj v') :: rowT 3 v' (intsOf (thenL xs ys)) :: os) := by
  obtain ⟨i0, hii, hz0, hz1, hz2⟩ := info_parts info_i64
  have HR1 := Lib.hid (fun (w1 : World) (y : Int) => Reads.made w1 #[.int .i64 y] 3 (0, 0) 1 (by simp) (by decide))
  obtain ⟨n, hn⟩ : ∃ n, xs.length = n := ⟨_, rfl⟩
  have hcp := (hp w [] h).1
  have hcq := (hq w [] h).1
  obtain ⟨ap, cp, rfl, j1, j2, j3, j4⟩ := (hp w [] h).2
  obtain ⟨aq, cq, rfl, j5, j6, j7, j8⟩ := (hq w [] h).2
  clear j1 j2 j3 j4 j5 j6 j7 j8
  have HX := Lib.hid hn
  have HY : Hid (ys.length = n) := by show _ = _; rw [← hl, hn]
  have HPX := Lib.hid hpx
  have HPY := Lib.hid hpy
  rw [intsOf_len, hn] at hcp hp
  rw [intsOf_len, HY.out] at hcq hq
  rw [hn] at hN
  have HP := Lib.hid hp
  have HQ := Lib.hid hq
  have HLP := Lib.hid (permLen_any hcp)
  have HLQ := Lib.hid (permLen_any hcq)
  obtain ⟨g, hg⟩ : ∃ g, w.heap.size = g := ⟨_, rfl⟩
  have h0 := (h.newRow (E := 3) (v := .slice none 0 0) (n := 0) (xs := []) (Keeps.refl _ _) (World.ownsRow_nil _ _ _ _)).newCell (permObj (.slice none 0 0))
  rw [hg] at h0
  have H0 : Hid (St w0 (w.alloc (permObj (.slice none 0 0))) (rowT 3 (.slice none 0 0) (intsOf (thenR xs ys 0)) :: cellT g (permObj (.slice none 0 0)) :: os)) := h0.swap
  have HG := Lib.hid hg
  have k0 : (w.alloc (permObj (.slice none 0 0))).cell? ⟨p, 0, none⟩ = some (.slice ap n cp) := (HP.out _ [_, _] H0.out).1
  unfold permObj at k0
  clear h hp hq hn hl hpx hpy h0 hg
  go_enter Try.func33, Try.ntmps33
  go_wp2_with fail
  refine HLP.out.mono ?_
  rintro e w1 ⟨rfl, rfl⟩
  go_wp2_with fail
  refine HLQ.out.mono ?_
  rintro e w1 ⟨rfl, rfl⟩
  clear HLP HLQ
  go_wp2_with fail
  rw [HG.out]
  go_loopw [29] (fun iv wr => ∃ (i : Nat) (v : Value), i ≤ n ∧ iv = .int .i64 i ∧ St w0 wr (rowT 3 v (intsOf (thenR xs ys i)) :: cellT g (permObj v) :: os)) (fun iv _ => n - (intOf iv).toNat)
  case atStart => exact ⟨0, _, by omega, rfl, H0.out⟩
  case round =>
    obtain ⟨i, v, hi, rfl, hS⟩ := hrel
    obtain ⟨av, cv, rfl, _, _⟩ := ownsRow_slice hS.row
    rw [thenR_len] at hS
    have HS := Lib.hid hS
    clear hS H0 k0 hcp hcq
    by_cases hlt : i < n
    · have hix : i < xs.length := by rw [HX.out]; exact hlt
      obtain ⟨hx1, hx2⟩ := toN_lt HPX.out hix
      obtain ⟨x, hx⟩ : ∃ x, toN xs i = x := ⟨_, rfl⟩
      rw [hx] at hx1 hx2
      have hxn : x < n := by rw [← HX.out]; exact hx1
      have hxy : x < ys.length := by rw [HY.out]; exact hxn
      obtain ⟨hy1, hy2⟩ := toN_lt HPY.out hxy
      obtain ⟨y, hy⟩ : ∃ y, toN ys x = y := ⟨_, rfl⟩
      rw [hy] at hy1 hy2
      have HE : Hid (intsOf (thenR xs ys i) ++ [Value.int .i64 y] = intsOf (thenR xs ys (i + 1))) := by
        show _ = _
        rw [← thenR_snoc, hx, hy]
      have kp := (HP.out wr [_, _] HS.out).1
      have kq := (HQ.out wr [_, _] HS.out).1
      have kg : wr.cell? ⟨g, 0, none⟩ = some (.slice av i cv) := HS.out.swap.cellAt 0
      obtain ⟨a8, c8, he8, _, _, _, hc8⟩ := (HP.out wr [_, _] HS.out).2
      simp only [Value.slice.injEq] at he8
      obtain ⟨rfl, hq8, rfl⟩ := he8
      clear hq8
      have hv8 : (intsOf xs)[i]? = some (.int .i64 x) := by simp only [intsOf, List.getElem?_map, hx2]; rfl
      rcases hc8 with hc8 | ⟨pb, po, rfl, hc8⟩
      · rw [hc8] at hv8; simp at hv8
      have cx := hc8 i _ hv8
      obtain ⟨a9, c9, he9, _, _, _, hc9⟩ := (HQ.out wr [_, _] HS.out).2
      simp only [Value.slice.injEq] at he9
      obtain ⟨rfl, hq9, rfl⟩ := he9
      clear hq9
      have hv9 : (intsOf ys)[x]? = some (.int .i64 y) := by simp only [intsOf, List.getElem?_map, hy2]; rfl
      rcases hc9 with hc9 | ⟨qb, qo, rfl, hc9⟩
      · rw [hc9] at hv9; simp at hv9
      have cy := hc9 x _ hv9
      have kg2 : (wr.alloc (.cells #[.int .i64 (y : Nat)] 3)).cell? ⟨g, 0, none⟩ = some (.slice av i cv) := (HS.out.alloc (.cells #[.int .i64 (y : Nat)] 3)).swap.cellAt 0
      have HL := Lib.hid (thenR_len xs ys i)
      have HL1 := Lib.hid (thenR_len xs ys (i + 1))
      clear hc8 hc9 hv8 hv9 hx hy hx1 hx2 hy1 hy2 hxy hix
      go_wp2_with fail
      go_region_law (refine step_append_st rfl (.tmp 37) (.tmp 45) 22 rfl 3 i0 (.int .i64 0) 8 Try.underlying22 hii hz0 hz1 hz2 rfl (.slice av i cv) _ (intsOf (thenR xs ys i)) [.int .i64 (y : Nat)] (by simp [Act.eval, Act.put]) (by simp [Act.eval, Act.put]) (HS.out.drew.alloc _) (HR1.out _ _) (one_oneCell' _ rfl) (by rw [HL.out]; simp only [List.length_cons, List.length_nil]; unfold maxLen; omega) (by rw [HL.out]; simp only [List.length_cons, List.length_nil]; omega) ?_; intro v5 w5 h5; rw [HE.out] at h5; obtain ⟨a5, c5, rfl, _, _⟩ := ownsRow_slice h5.row; rw [HL1.out] at h5 ⊢; have k5 : w5.cell? ⟨g, 0, none⟩ = some (.slice av i cv) := h5.swap.cellAt 0; have f5 : w5.frozen? ⟨g, 0, none⟩ = false := h5.swap.freeAt 0; have S6 : Hid (St w0 (w5.setCell ⟨g, 0, none⟩ (.slice a5 (i + 1) c5)) (cellT g (permObj (.slice a5 (i + 1) c5)) :: rowT 3 (.slice a5 (i + 1) c5) (intsOf (thenR xs ys (i + 1))) :: os)) := h5.swap.storeCell 0 (.slice a5 (i + 1) c5); clear h5)
      all_goals
        clear HS
        go_wp2_with fail
        go_roundw
        case rel => exact ⟨i + 1, _, by omega, by go_num, S6.out.swap⟩
        case measure => simp [intOf]; omega
    · obtain rfl : i = n := by omega
      have HE : Hid (thenR xs ys i = thenL xs ys) := by show _ = _; rw [← thenR_all, HX.out]
      go_wp2_with fail
      go_ret2
      exact ⟨_, _, rfl, by have := HS.out.swap; rw [HE.out] at this; exact this⟩
end Go.Proofs.Ytoipbbobkllddaa

