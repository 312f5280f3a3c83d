/- slices.Repeat of one number. -/
import Derived.Test.YtongakmljbebfaaOrbit
import Derived.Laws.CopyOwn
import Derived.Deep.RegionLaw
import Derived.Laws.BitsAllLaws
namespace Go.Proofs.Ytongakmljbebfaa
open Go.RowKit

theorem mask32 (n : Nat) (h : n < 4294967296) : bits BinOp.and IntKind.u64 (n : Int) 4294967295 = (n : Int) := by
  refine (u64_and_nat n 4294967295 (by omega) (by decide)).trans ?_
  rw [show (4294967295 : Nat) = 2 ^ 32 - 1 from rfl, Nat.and_two_pow_sub_one_eq_mod, Nat.mod_eq_of_lt (by omega)]

set_option maxRecDepth 100000 in
set_option maxHeartbeats 1000000 in
theorem mul64_one (n : Nat) (h : n < 4294967296) (w : World) : Calls Try.prog 37 #[.int .u64 1, .int .u64 n] w fun e w' => e = .returned (.tuple #[.int .u64 0, .int .u64 n]) ∧ w = w' := by
  have h1 : bits BinOp.and IntKind.u64 1 4294967295 = 1 := by have := mask32 1 (by decide); exact this
  have h2 := mask32 n h
  have h0 : bits BinOp.and IntKind.u64 0 4294967295 = 0 := by have := mask32 0 (by decide); exact this
  have hd : ((n : Int) / 4294967296) = 0 := by omega
  go_enter Try.func37, Try.ntmps37
  go_wp2
  go_ret2
  exact ⟨rfl, rfl⟩

set_option maxRecDepth 100000 in
theorem mul_one (n : Nat) (h : n < 4294967296) (w : World) : Calls Try.prog 33 #[.int .u64 1, .int .u64 n] w fun e w' => e = .returned (.tuple #[.int .u64 0, .int .u64 n]) ∧ w = w' := by
  have HM := Lib.hid (mul64_one n h w)
  go_enter Try.func33, Try.ntmps33
  go_wp2_with fail
  refine HM.out.mono ?_
  rintro e w1 ⟨rfl, rfl⟩
  go_wp2
  go_ret2
  exact ⟨rfl, rfl⟩

/-- a row of which the first m are z -/
def fillR (z : Int) (m n : Nat) : List Value := List.replicate m (.int .i64 z) ++ List.replicate (n - m) (.int .i64 0)
theorem fillR_len (z : Int) (m n : Nat) (h : m ≤ n) : (fillR z m n).length = n := by simp [fillR]; omega
theorem fillR_get (z : Int) (m n j : Nat) (h : j < m) : (fillR z m n)[j]? = some (.int .i64 z) := by
  unfold fillR; rw [List.getElem?_append_left (by simpa using h)]; simp [h]
theorem fillR_splice (z : Int) (m d n : Nat) (h : m + d ≤ n) : splice (fillR z m n) m (List.replicate d (Value.int .i64 z)) = fillR z (m + d) n := by
  unfold splice fillR
  have e1 : (List.replicate m (Value.int .i64 z) ++ List.replicate (n - m) (Value.int .i64 0)).take m = List.replicate m (Value.int .i64 z) := by
    rw [List.take_left' (by simp)]
  have e2 : (List.replicate m (Value.int .i64 z) ++ List.replicate (n - m) (Value.int .i64 0)).drop (m + (List.replicate d (Value.int .i64 z)).length) = List.replicate (n - (m + d)) (Value.int .i64 0) := by
    rw [List.length_replicate, ← List.drop_drop, List.drop_left' (by simp), List.drop_replicate]
    congr 1; omega
  rw [e1, e2, ← List.append_assoc, List.replicate_append_replicate]

set_option maxRecDepth 100000 in
set_option maxHeartbeats 4000000 in
theorem repeat_any {w0 w : World} {os : List Thing} (h : St w0 w os) (sv : Value) (z : Int) (n : Nat) (hn : n ≤ 1000000)
    (hv : ∀ w' os', St w0 w' (os' ++ os) → Reads w' sv [.int .i64 z]) :
    Calls Try.prog 30 #[sv, .int .i64 n] w fun e w' => ∃ v, e = .returned v ∧ St w0 w' (rowT 3 v (intsOf (List.replicate n z)) :: os) := by
  obtain ⟨ao, cap, rfl, hcap, hm, hnil, hc⟩ := hv w [] h
  simp only [List.length_singleton] at *
  have hcm : cap ≤ 9223372036854775807 := by unfold maxLen at hm; omega
  rcases hc with hc | ⟨ab, aof, rfl, hc⟩
  · cases hc
  have cz := hc 0 _ rfl
  rw [Nat.add_zero] at cz
  have HM := Lib.hid (mul_one n (by omega) w)
  have hmk := run_make_row' (P := Try.prog) 24 3 (.int .i64 0) 8 Try.underlying24 info_i64 rfl .i64 .i64 n (by omega) (by omega)
  have hsz : (Try.prog.info? 3).map (·.size) = some 1 := by kernel_rfl
  have H := Lib.hid h
  obtain ⟨g, hg⟩ : ∃ g, w.heap.size = g := ⟨_, rfl⟩
  have HG := Lib.hid hg
  have hrow0 : (w.alloc (.cells (madeCells #[.int .i64 0] n) 3)).heap[g]? = some (.cells (fillR z 0 n).toArray 3 (0, 0)) := by
    rw [← hg, heap_alloc_new]
    have : madeCells #[Value.int .i64 0] n = (fillR z 0 n).toArray := by
      apply Array.ext'
      rw [toList_madeCells_one]; simp [fillR]
    rw [this]
  have hb0 : Below w.heap.size w (w.alloc (.cells (madeCells #[.int .i64 0] n) 3)) := (Below.refl _ _).alloc (Nat.le_refl _) _
  have cz0 : (w.alloc (.cells (madeCells #[.int .i64 0] n) 3)).cell? ⟨ab, aof, none⟩ = some (.int .i64 z) := by
    rw [hb0.cell (World.block_lt_of_cell? w _ cz)]; exact cz
  have HROW := Lib.hid hrow0
  have HB0 := Lib.hid hb0
  clear hc hnil h hv hm hrow0 hb0 hg
  go_enter Try.func30, Try.ntmps30
  go_wp2_with fail
  refine HM.out.mono ?_
  rintro e w1 ⟨rfl, rfl⟩
  obtain ⟨m0, hm0⟩ : ∃ m0, min 1 n = m0 := ⟨_, rfl⟩
  obtain ⟨C0, hC0⟩ : ∃ C0, List.replicate m0 (Value.int .i64 z) = C0 := ⟨_, rfl⟩
  have hC0l : C0.length = m0 := by rw [← hC0]; simp
  have HM0 := Lib.hid hm0
  have HC0 := Lib.hid hC0
  have HC0l := Lib.hid hC0l
  clear hm0 hC0 hC0l
  go_wp2_with (refine wpList_copy_splice (o := ⟨some 33, _, _, _, _, _⟩) rfl (.tmp 31) (.tmp 32) 24 24 rfl 3 Try.underlying24 hsz _ _ _ _ _ _ rfl rfl g 0 (fillR z 0 n) 3 ?d0 C0 ?d1 ?d2 ?d3 ?d4 w.heap.size w HB0.out ?d5 ?_)
  case d0 => exact HROW.out
  case d1 => rw [HC0l.out, ← HM0.out]
  case d2 =>
    rw [HC0l.out, HG.out]
    intro hp
    refine ⟨rfl, _, rfl, fun j v hv => ?_⟩
    rw [← HC0.out, List.getElem?_replicate] at hv
    split at hv
    · rename_i hj
      have : j = 0 := by have := HM0.out; omega
      subst this
      cases hv
      exact cz0
    · cases hv
  case d3 => rw [HC0l.out, fillR_len z 0 n (by omega)]; have := HM0.out; omega
  case d4 =>
    rw [← HC0.out]
    intro v hv
    rw [List.eq_of_mem_replicate hv]; rfl
  case d5 => exact Nat.le_of_eq HG.out
  intro w2 HG2 HB2
  rw [HC0l.out]
  have HG3 : Hid (w2.heap[g]? = some (.cells (fillR z m0 n).toArray 3 (0, 0))) := by
    have := HG2.out
    rw [← HC0.out, fillR_splice z 0 m0 n (by have := HM0.out; omega), Nat.zero_add] at this
    exact this
  have HB3 := Lib.hid HB2
  clear HB2 HG2 HROW HB0 cz0 cz
  rw [HG.out]
  go_wp2_with fail
  go_loopw [8] (fun mv wr => ∃ m : Nat, m ≤ n ∧ (0 < n → 0 < m) ∧ mv = .int .i64 m ∧ Below w.heap.size w wr ∧ Hid (wr.heap[g]? = some (.cells (fillR z m n).toArray 3 (0, 0)))) (fun mv _ => n - (intOf mv).toNat)
  case atStart =>
    exact ⟨m0, by have := HM0.out; omega, fun hp => by have := HM0.out; omega, rfl, HB3.out, HG3⟩
  case round =>
    obtain ⟨m, hm, hpm, rfl, hB, HGm⟩ := hrel
    have HB := Lib.hid hB
    clear hB HB3 HG3 HC0 HC0l HM0
    by_cases hlt : m < n
    · have hm1 : 0 < m := hpm (by omega)
      obtain ⟨d, hd⟩ : ∃ d, min m (n - m) = d := ⟨_, rfl⟩
      obtain ⟨C, hC⟩ : ∃ C, List.replicate d (Value.int .i64 z) = C := ⟨_, rfl⟩
      have hd1 : 0 < d := by omega
      have hdm : d ≤ m := by omega
      have hdn : m + d ≤ n := by omega
      have hCl : C.length = d := by rw [← hC]; simp
      have HCl := Lib.hid hCl
      have HC := Lib.hid hC
      have e1 : Hid (C.length = Nat.min m (n - m)) := by show _ = _; rw [hCl, ← hd]
      have hone : ∀ v ∈ C, v.oneCell' = true := by
        rw [← hC]; intro v hv; rw [List.eq_of_mem_replicate hv]; rfl
      have HONE := Lib.hid hone
      have hcell : ∀ j v, C[j]? = some v → wr.cell? ⟨g, j, none⟩ = some v := by
        intro j v hv
        rw [← hC, List.getElem?_replicate] at hv
        split at hv
        · rename_i hj
          cases hv
          simp [World.cell?, HGm.out, fillR_get z m n j (by omega)]
        · cases hv
      have HCELL : Hid (∀ W : World, W.heap = wr.heap → ∀ j v, C[j]? = some v → W.cell? ((⟨g, 0, none⟩ : Addr).add j) = some v) := by
        intro W hW j v hv
        have h1 := hcell j v hv
        have e : ((⟨g, 0, none⟩ : Addr).add j) = ⟨g, j, none⟩ := by
          unfold Addr.add
          by_cases h0 : j = 0
          · subst h0; rfl
          · simp [h0]
        rw [e]
        unfold World.cell? at h1 ⊢
        rw [hW]
        exact h1
      have e2 : Hid (m + C.length ≤ (fillR z m n).length) := by show _ ≤ _; rw [hCl, fillR_len z m n hm]; exact hdn
      have hnm : ¬ n = m := by omega
      clear hd hC hCl hone hcell hpm
      go_wp2_with fail
      go_region_law (refine step_copy_splice rfl (.tmp 41) (.tmp 44) 24 24 rfl 3 Try.underlying24 hsz (some ⟨g, m, none⟩) (some ⟨g, 0, none⟩) (n - m) (n - m) m n (by simp [Act.eval, Act.put]) (by simp [Act.eval, Act.put]) g m (fillR z m n) 3 HGm.out C e1.out (fun _ => ⟨rfl, _, rfl, HCELL.out _ rfl⟩) e2.out HONE.out w.heap.size w HB.out.drew (Nat.le_of_eq HG.out) ?_; intro w4 hg4 hb4; rw [HCl.out])
      have hwr : IntKind.i64.wrap ((m : Int) + (d : Int)) = ((m + d : Nat) : Int) := by rw [IntWalk.i64_in _ (by omega)]; omega
      rw [hwr]
      show Exit.inBlock 1 _ Exit.normal (Act.put (Act.put _ (some 46) (.int .i64 (m + d : Nat))) (some 8) (.int .i64 (m + d : Nat))) _
      simp only [Act.put, Array.setIfInBounds_def, List.size_toArray, List.length_cons, List.length_nil, Nat.reduceAdd, Nat.reduceLT, dite_true, List.set_toArray, List.set]
      have HG4 : Hid (w4.heap[g]? = some (.cells (fillR z (m + d) n).toArray 3 (0, 0))) := by
        have := hg4.out
        rw [← HC.out, fillR_splice z m d n hdn] at this
        exact this
      have HB4 := Lib.hid hb4
      clear hg4 hb4 HGm HB
      go_wp2_with fail
      go_roundw
      case rel => exact ⟨m + d, hdn, fun _ => by omega, by go_num, HB4.out, HG4⟩
      case measure => simp [intOf]; omega
    · obtain rfl : m = n := by omega
      go_wp2_with fail
      go_ret
      refine ⟨_, rfl, ?_⟩
      have hl : (intsOf (List.replicate m z)).length = m := by rw [intsOf_len]; simp
      have hf : (fillR z m m) = intsOf (List.replicate m z) := by simp [fillR, intsOf]
      have := HGm.out
      rw [hf] at this
      exact H.out.newRow (Keeps.of_below HB.out) (n := m) ⟨by rw [hl]; simp, .inr ⟨g, m, _, rfl, Nat.le_of_eq HG.out, this, Nat.le_refl _, by unfold maxLen; omega, by simp [hl], by rw [List.toList_toArray, Nat.mul_one]; exact List.take_of_length_le (by rw [hl]; exact Nat.le_refl _)⟩⟩
end Go.Proofs.Ytongakmljbebfaa

