/- coder.of and coder.right. -/
import Derived.Test.YtgmgbgjghncipaaModel
namespace Go.Proofs.Ytgmgbgjghncipaa
open Go.RowKit

theorem info_pair : (Try.prog.info? 76).map (fun i => (i.zero.map Value.cells, i.size, i.bytes)) = some (some #[.int .u64 0, .int .u64 0], 2, 16) := by kernel_rfl

theorem right_in (k : Nat) (h : k ≤ 8) (w : World) : Calls Try.prog 37 #[.int .i64 k] w fun e w' => e = .returned (.bool true) ∧ w = w' := by
  go_enter Try.func37, Try.ntmps37
  go_wp2
  go_ret
  exact ⟨ret_bool (decide_eq_true (by omega)), rfl⟩

theorem right_out (k : Int) (h : k < 0 ∨ 8 < k) (w : World) : Calls Try.prog 37 #[.int .i64 k] w fun e w' => e = .returned (.bool false) ∧ w = w' := by
  by_cases h0 : k < 0
  · clear h
    go_enter Try.func37, Try.ntmps37
    go_wp2
    go_ret
    exact ⟨rfl, rfl⟩
  · have h1 : 8 < k := by omega
    have H1 := Lib.hid h1
    clear h
    go_enter Try.func37, Try.ntmps37
    go_wp2
    go_ret
    exact ⟨ret_bool (decide_eq_false (by have := H1.out; omega)), rfl⟩

theorem pow_le_8 (k : Nat) (h : k ≤ 8) : 1 ≤ 2 ^ k ∧ 2 ^ k ≤ 256 := by
  have h1 : 2 ^ k ≤ 2 ^ 8 := Nat.pow_le_pow_right (by decide) h
  have h2 := Nat.two_pow_pos k
  omega

theorem run_make_pairs (n : Nat) (h : n ≤ 256) (w : World) :
    (Instr.makeSlice 77 (.int .i64 (n : Int)) (.int .i64 (n : Int))).run Try.prog w = .ok (.slice (some ⟨w.heap.size, 0, none⟩) n n) (w.alloc (.cells (madeCells #[.int .u64 0, .int .u64 0] (n * 2)) 76)) := by
  obtain ⟨i, hi, hzz⟩ := Option.map_eq_some_iff.1 info_pair
  simp only [Prod.mk.injEq, Option.map_eq_some_iff] at hzz
  obtain ⟨⟨z, hz, hzc⟩, hs, hb⟩ := hzz
  have hr := run_make (P := Try.prog) w 77 76 i z Try.underlying77 hi hz .i64 .i64 n n (by omega) (Int.le_refl _) (by rw [hb]; omega) (by omega)
  simp only [Int.toNat_natCast, hs, hzc] at hr
  exact hr

/-- ones up to i, noughts behind -/
def laid2 (i : Nat) : Nat → Nat × Nat := fun x => if x < i then (1, 1) else (0, 0)
theorem laid2_succ (i : Nat) : setc (laid2 i) i (1, 1) = laid2 (i + 1) := by
  funext x; unfold setc laid2
  by_cases h : x = i
  · simp [h]
  · by_cases h2 : x < i
    · simp [h, h2, show x < i + 1 by omega]
    · simp [h, h2, show ¬ x < i + 1 by omega]
theorem cnt_made (n : Nat) : madeCells #[.int .u64 0, .int .u64 0] (n * 2) = cnt (laid2 0) n := by
  apply Array.ext_getElem?
  intro i
  by_cases h : i < 2 * n
  · rw [cnt_get _ _ _ h]
    have : cc (laid2 0) i = 0 := by unfold cc laid2; split <;> simp
    rw [this]
    simp [madeCells, show i < n * 2 by omega]
    rcases Nat.mod_two_eq_zero_or_one i with h | h <;> rw [h] <;> rfl
  · have h1 : (madeCells #[.int .u64 0, .int .u64 0] (n * 2))[i]? = none := by rw [Array.getElem?_eq_none_iff, size_madeCells]; omega
    have h2 : (cnt (laid2 0) n)[i]? = none := by simp [cnt]; omega
    rw [h1, h2]
theorem cnt_laid (n : Nat) : cnt (laid2 n) n = cnt (fun _ => (1, 1)) n := by
  apply Array.ext_getElem?
  intro i
  by_cases h : i < 2 * n
  · rw [cnt_get _ _ _ h, cnt_get _ _ _ h]
    have : i / 2 < n := by omega
    simp [cc, laid2, this]
  · have h1 : (cnt (laid2 n) n)[i]? = none := by simp [cnt]; omega
    have h2 : (cnt (fun _ => (1, 1)) n)[i]? = none := by simp [cnt]; omega
    rw [h1, h2]

set_option maxHeartbeats 2000000 in
theorem coderOf_any {w0 w : World} {os : List Thing} (h : St w0 w os) (k : Nat) (hk : k ≤ 8) :
    Calls Try.prog 39 #[.int .i64 k] w fun e w' => ∃ m g, e = .returned (.pointer (some ⟨m, 0, none⟩)) ∧
      St w0 w' (cellT m (modelObj g (2 ^ k) 0) :: cellT g (cntObj (fun _ => (1, 1)) (2 ^ k)) :: os) := by
  have hp := pow_le_8 k hk
  have hwr : IntKind.i64.wrap (2 ^ k) = ((2 ^ k : Nat) : Int) := by
    rw [IntKind.wrap_i64]
    have : ((2 : Int) ^ k) = ((2 ^ k : Nat) : Int) := by simp
    rw [this]; omega
  have hmk := run_make_pairs (2 ^ k) hp.2
  have H := Lib.hid h
  clear h
  generalize 2 ^ k = n at hp hmk hwr
  go_enter Try.func39, Try.ntmps39
  go_wp2_with fail
  clear hmk
  have S1 : Hid (St w0 ((w.alloc (.cells (madeCells #[.int .u64 0, .int .u64 0] (n * 2)) 76)).alloc (.cells #[.slice (some ⟨w.heap.size, 0, none⟩) n n, .int .u64 0] 79))
      (cellT (w.heap.size + 1) (modelObj w.heap.size n 0) :: cellT w.heap.size (cntObj (laid2 0) n) :: os)) := by
    have h1 := H.out.newCell (.cells (madeCells #[.int .u64 0, .int .u64 0] (n * 2)) 76 (0, 0))
    have h2 := h1.newCell (modelObj w.heap.size n 0)
    have hsz : (w.alloc (.cells (madeCells #[.int .u64 0, .int .u64 0] (n * 2)) 76 (0, 0))).heap.size = w.heap.size + 1 := by simp
    rw [hsz] at h2
    unfold cntObj
    rw [← cnt_made n]
    exact h2
  obtain ⟨m, hm⟩ : ∃ m, w.heap.size + 1 = m := ⟨_, rfl⟩
  obtain ⟨g, hg⟩ : ∃ g, w.heap.size = g := ⟨_, rfl⟩
  rw [hm, hg] at S1
  rw [hm, hg]
  clear hm hg H
  go_loopw [15] (fun i wr => ∃ j : Nat, j ≤ n ∧ i = .int .i64 j ∧ St w0 wr (cellT m (modelObj g n 0) :: cellT g (cntObj (laid2 j) n) :: os)) (fun i _ => n - (intOf i).toNat)
  case atStart => exact ⟨0, by omega, rfl, S1.out⟩
  case round =>
    obtain ⟨j, hj, rfl, hS⟩ := hrel
    clear S1
    by_cases hlt : j < n
    · have c0 : wr.cell? ⟨m, 0, none⟩ = some (.slice (some ⟨g, 0, none⟩) n n) := hS.cellAt 0
      have k0 : wr.cell? ⟨g, j * 2, none⟩ = some (.int .u64 ((laid2 j j).1 : Nat)) := hS.swap.cntLo hlt
      have k1 : wr.cell? ⟨g, j * 2 + 1, none⟩ = some (.int .u64 ((laid2 j j).2 : Nat)) := hS.swap.cntHi hlt
      have f0 : wr.frozen? ⟨g, j * 2, none⟩ = false := hS.swap.freeAt _
      have f1 : wr.frozen? ⟨g, j * 2 + 1, none⟩ = false := hS.swap.freeAt _
      have HS := Lib.hid hS
      clear hS
      go_wp2_with fail
      go_roundw
      case rel =>
        refine ⟨j + 1, by omega, by go_num, ?_⟩
        have := ((HS.out.swap.setLo j 1).setHi j 1).swap
        rw [setc_setc, setc_at, laid2_succ] at this
        exact this
      case measure => simp [intOf]; omega
    · obtain rfl : n = j := by omega
      have HS := Lib.hid hS
      unfold cntObj at HS
      rw [cnt_laid] at HS
      clear hS
      go_wp2
      go_ret
      exact ⟨m, g, rfl, HS.out⟩
end Go.Proofs.Ytgmgbgjghncipaa

