/- TopCounts by reckoning: slices.Insert of one number, all its roads. -/
import Derived.Test.YtljkldmjakabdaaGreatEvB
import Derived.Lib.Walk
import Derived.Lib.SliceRun
import Derived.Lib.JoinLaws
import Derived.Lib.AppendZeros
import Derived.Lib.Overlaps
import Derived.Laws.IdiomCopy
import Derived.Deep.AppendSrc
import Derived.Shelf.Spec.SlicesInsert
namespace Go.Proofs.YtljkldmjakabdaaGreat.Ev
open Go Go.Lib Go.RowKit

theorem info_int : (Tryz.prog.info? 3).map (fun i => (i.zero, i.size, i.bytes)) = some (some (.int .i64 0), 1, 8) := by kernel_rfl

/-- append(s, make([]int, n)...), where it must grow. -/
theorem run_append_grow_zeros {P : Program} (w : World) (t tn ty e : TypeId) (i : TypeInfo) (z : Value) (k kn : IntKind) (ht : P.underlying t = some (.slice e)) (htn : P.underlying tn = some (.int kn)) (hi : P.info? e = some i) (hz : i.zero = some z) (base : Option Addr) (sLen sCap : Nat) (olds : List Value)
    (hold : (Builtin.firstCells i.size sLen (.slice base sLen sCap)).run P w.drew = .ok olds.toArray w.drew)
    (n : Nat) (h0 : 0 < n) (hs : 0 < i.size) (hg : sCap < sLen + n) (h63 : ((sLen + n : Nat) : Int) ≤ 9223372036854775807) (h48 : n * i.bytes ≤ 281474976710656) (hfit : Builtin.nextslicecap (sLen + n) sCap * i.bytes ≤ 281474976710656) :
    (Builtin.append_ #[t, tn] ty #[.slice base sLen sCap, .int k n]).run P w =
      .ok (.slice (some ⟨w.heap.size, 0, none⟩) (sLen + n) (grownCap w (sLen + n) sCap e)) (w.drew.alloc (.cells (olds.toArray ++ Builtin.zeroCells z.cells n ++ Builtin.zeroCells z.cells (grownCap w (sLen + n) sCap e - (sLen + n))) e)) := by
  have hn : n ≠ 0 := by omega
  have hnn : ¬ (sLen + n ≤ sCap) := by omega
  have hw : IntKind.i64.wrap (n : Int) = n := by rw [IntKind.wrap_i64]; omega
  have h63' : ¬ (9223372036854775807 < ((sLen : Int) + (n : Int))) := by omega
  have h48' : ¬ (281474976710656 < Builtin.nextslicecap (sLen + n) sCap * i.bytes) := by omega
  have h48i : ¬ (281474976710656 < (n : Int) * (i.bytes : Int)) := by
    rw [← Int.natCast_mul]
    omega
  have hneg : ¬ ((n : Int) < 0) := by omega
  have hns : ¬ (n * i.size = 0) := Nat.mul_ne_zero hn (by omega)
  simp [Builtin.append_, run_underlying ht, run_underlying htn, sizeOf, typeInfo, zeroValue, hi, hz, asInt, asIntOf, hw, hnn, hneg, hns, h63', h48', h48i, Question.forced, hold, newRow, grownCap]

section
variable (b off n c i vb voff vc : Nat) (cs : List Value) (x : Value) (w : World)

set_option maxHeartbeats 4000000 in
set_option maxRecDepth 100000 in
/-- THERE IS ROOM, i < len(s): in place. -/
theorem insShift (hn : n < 1000) (hi : i < n) (hroom : n + 1 ≤ c) (hvb : vb ≠ b)
    (hcl : cs.length = n)
    (hcs : ∀ j v, cs[j]? = some v → w.cell? ⟨b, off + j, none⟩ = some v) (hsp : ∀ j, j < n + 1 → (w.cell? ⟨b, off + j, none⟩).isSome = true) (hfz : ∀ j, j < n + 1 → w.frozen? ⟨b, off + j, none⟩ = false)
    (hvs : w.cell? ⟨vb, voff, none⟩ = some x) (h1c : ∀ v ∈ cs, v.oneCell' = true) (h1v : x.oneCell' = true)
    (tA tB : TypeId) (kA kB : Nat) (hsa : w.shape? vb = some (tA, kA)) (hsb : w.shape? b = some (tB, kB)) (hkB : kB ≠ 0) (hfa : w.frozen? ⟨vb, voff, none⟩ = false) (hfe : w.frozen? ⟨vb, kA, none⟩ = false) :
    Calls Tryz.prog 15 #[.slice (some ⟨b, off, none⟩) n c, .int .i64 i, .slice (some ⟨vb, voff, none⟩) 1 vc] w fun e w' =>
      e = .returned (.slice (some ⟨b, off, none⟩) (n + 1) c) ∧ w' = (w.drew.setCells b (off + (i + 1)) (cs.drop i)).setCells b (off + i) [x] := by
  have hz2 : ¬ ((i : Int) = (n : Int)) := by omega
  have hsz : (Tryz.prog.info? 3).map (·.size) = some 1 := by kernel_rfl
  have hov : ∀ lb cb, (callFunc 45 #[.slice (some ⟨vb, voff, none⟩) 1 vc, .slice (some ⟨b, off + (i + 1), none⟩) lb cb]).run Tryz.prog w = .ok (.value (.bool false)) w := fun lb cb => by
    rw [run_callFunc_extern Tryz.func45 (by kernel_rfl) (by kernel_rfl) (by kernel_rfl) (e := Extern.SlicesOverlaps.overlaps #[26, 26] #[4]) (by kernel_rfl),
      Lib.run_overlaps_apart w 26 4 3 Tryz.underlying26 1 (fun w => run_size hsz w) ⟨vb, voff, none⟩ ⟨b, off + (i + 1), none⟩ 1 vc lb cb hvb tA tB kA kB hsa hsb hkB hfa hfe]
    rfl
  have hdl : (cs.drop i).length = n - i := by rw [List.length_drop, hcl]
  have mixed : Tryz.prog.follows Departure.mixedOrders = true := by kernel_rfl
  have hw1 : IntKind.i64.wrap ((i : Int) + 1) = (i : Int) + 1 := by rw [IntKind.wrap_i64]; omega
  have hb1 : (0 : Int) ≤ (i : Int) + 1 := by omega
  have hin : i ≤ n := by omega
  have htn : ((i : Int) + 1).toNat = i + 1 := by omega
  have hb2 : ¬ (c = i + 1) := by omega
  have hb3 : (i : Int) ≤ (n : Int) + 1 := by omega
  have hb4 : ¬ (c = i) := by omega
  have hcp1 : ∀ ty dc sc, (Builtin.copy_ #[26, 26] ty #[.slice (some ⟨b, off + (i + 1), none⟩) (n - i) dc, .slice (some ⟨b, off + i, none⟩) (n + 1 - i) sc]).run Tryz.prog w.drew = .ok (goInt (cs.drop i).length) (w.drew.setCells b (off + (i + 1)) (cs.drop i)) := fun ty dc sc =>
    run_copy_cells w.drew _ _ ty 3 b (off + (i + 1)) (n - i) dc ⟨b, off + i, none⟩ (n + 1 - i) sc (cs.drop i) Tryz.underlying26 hsz (by rw [hdl]; simp only [Nat.min_def]; split <;> omega)
      (fun j v hj => by rw [Addr.add_lit, Nat.add_assoc]; exact hcs (i + j) v (by rwa [List.getElem?_drop] at hj))
      (fun j hj => by rw [Nat.add_assoc]; exact hsp _ (by omega)) (fun j hj => by rw [Nat.add_assoc]; exact hfz _ (by omega)) (fun v hv => h1c v (List.mem_of_mem_drop hv))
  obtain ⟨W1, hW1⟩ : ∃ W1, W1 = w.drew.setCells b (off + (i + 1)) (cs.drop i) := ⟨_, rfl⟩
  have hsp1 : ∀ k, k < n + 1 → (W1.cell? ⟨b, off + k, none⟩).isSome = true := fun k hk => by
    rw [hW1]
    exact isSome_setCells b _ _ _ (fun j hj => by rw [Nat.add_assoc]; exact hsp _ (by omega)) _ (hsp k hk)
  have hcp2 : ∀ (W : World), (∀ x, W.cell? x = W1.cell? x) → (∀ x, W.frozen? x = W1.frozen? x) → ∀ ty dc, (Builtin.copy_ #[26, 26] ty #[.slice (some ⟨b, off + i, none⟩) (n + 1 - i) dc, .slice (some ⟨vb, voff, none⟩) 1 vc]).run Tryz.prog W = .ok (goInt [x].length) (W.setCells b (off + i) [x]) := fun W hWc hWf ty dc =>
    run_copy_cells W _ _ ty 3 b (off + i) (n + 1 - i) dc ⟨vb, voff, none⟩ 1 vc [x] Tryz.underlying26 hsz (by simp only [Nat.min_def, List.length_cons, List.length_nil]; split <;> omega)
      (fun j v hj => by
        rw [Addr.add_lit, hWc, hW1, World.cell?_setCells_out b _ _ _ _ (fun h _ => absurd h hvb)]
        cases j with
        | zero => simp at hj; subst hj; exact hvs
        | succ j => simp at hj)
      (fun j hj => by rw [hWc, Nat.add_assoc]; simp at hj; exact hsp1 _ (by omega)) (fun j hj => by rw [hWf, hW1, World.frozen?_setCells, Nat.add_assoc]; simp at hj; exact hfz _ (by omega)) (fun v hv => by simp at hv; subst hv; exact h1v)
  rw [← hW1] at hcp1
  go_enter Tryz.func15, Tryz.ntmps15
  go_wp2_with (simp only [hov])
  go_region_law_o (refine step_copy_runI rfl _ _ 26 26 rfl _ _ (by simp [Act.eval, Act.put]) (by simp [Act.eval, Act.put]) (hcp1 _ _ _) ?_)
  go_wp2_with (at_builtin; refine wpList_copy_runI _ rfl _ _ 26 26 rfl _ _ rfl rfl (hcp2 _ (fun _ => rfl) (fun _ => rfl) _ _) ?_)
  go_ret
  first | exact ⟨rfl, rfl⟩ | exact ⟨rfl, by rw [hW1]⟩

set_option maxHeartbeats 4000000 in
set_option maxRecDepth 100000 in
/-- AT THE END (i = len(s)), THERE IS ROOM. -/
theorem insEndRoom (hn : n < 1000) (hroom : n + 1 ≤ c) (hsp : (w.cell? ⟨b, off + n, none⟩).isSome = true) (hfz : w.frozen? ⟨b, off + n, none⟩ = false)
    (hvs : w.cell? ⟨vb, voff, none⟩ = some x) (h1v : x.oneCell' = true) :
    Calls Tryz.prog 15 #[.slice (some ⟨b, off, none⟩) n c, .int .i64 n, .slice (some ⟨vb, voff, none⟩) 1 vc] w fun e w' =>
      e = .returned (.slice (some ⟨b, off, none⟩) (n + 1) c) ∧ w' = w.setCells b (off + n) [x] := by
  have mixed : Tryz.prog.follows Departure.mixedOrders = true := by kernel_rfl
  have hsrc : Src Tryz.prog 1 26 (.slice (some ⟨vb, voff, none⟩) 1 vc) 1 [x] w := Src.ofSlice w Tryz.underlying26 ⟨vb, voff, none⟩ 1 vc [x] rfl (fun j u hj => by
    rw [Addr.add_lit]
    cases j with
    | zero => simp at hj; subst hj; exact hvs
    | succ j => simp at hj) (fun v hv => by simp at hv; subst hv; exact h1v)
  go_enter Tryz.func15, Tryz.ntmps15
  go_wp2_with (at_builtin; refine wpList_append_room1 _ rfl _ _ 26 26 rfl 3 _ _ Tryz.underlying26 info_int b off n c rfl _ rfl 1 [x] hsrc hroom (fun j hj => by simp at hj; subst hj; exact hsp) (fun j hj => by simp at hj; subst hj; exact hfz) ?_)
  go_ret
  exact ⟨rfl, rfl⟩

set_option maxHeartbeats 4000000 in
set_option maxRecDepth 100000 in
/-- AT THE END, NO ROOM. -/
theorem insEndGrow (hn : n < 1000) (hnc : n ≤ c) (hroom : c < n + 1) (hcl : cs.length = n)
    (hcs : ∀ j v, cs[j]? = some v → w.cell? ⟨b, off + j, none⟩ = some v)
    (hvs : w.cell? ⟨vb, voff, none⟩ = some x) (h1v : x.oneCell' = true) :
    Calls Tryz.prog 15 #[.slice (some ⟨b, off, none⟩) n c, .int .i64 n, .slice (some ⟨vb, voff, none⟩) 1 vc] w fun e w' =>
      e = .returned (.slice (some ⟨w.heap.size, 0, none⟩) (n + 1) (grownCap w (n + 1) c 3)) ∧
      w' = w.drew.alloc (.cells ((cs ++ [x]).toArray ++ Builtin.zeroCells (Value.int .i64 0).cells (grownCap w (n + 1) c 3 - (n + 1))) 3) := by
  have mixed : Tryz.prog.follows Departure.mixedOrders = true := by kernel_rfl
  obtain ⟨i0, hi0, hz0, hzs, hzb⟩ := info_parts info_int
  have hsrc : Src Tryz.prog i0.size 26 (.slice (some ⟨vb, voff, none⟩) 1 vc) 1 [x] w := by
    rw [hzs]
    exact Src.ofSlice w Tryz.underlying26 ⟨vb, voff, none⟩ 1 vc [x] rfl (fun j u hj => by
      rw [Addr.add_lit]
      cases j with
      | zero => simp at hj; subst hj; exact hvs
      | succ j => simp at hj) (fun v hv => by simp at hv; subst hv; exact h1v)
  have hold : (Builtin.firstCells i0.size n (.slice (some ⟨b, off, none⟩) n c)).run Tryz.prog w.drew = .ok cs.toArray w.drew := by
    rw [hzs]
    exact run_firstCells_some w.drew 1 n ⟨b, off, none⟩ n c cs (by omega) (fun j v hj => by rw [Addr.add_lit]; exact hcs j v hj)
  have hrun : ∀ ty, (Builtin.append_ #[26, 26] ty #[.slice (some ⟨b, off, none⟩) n c, .slice (some ⟨vb, voff, none⟩) 1 vc]).run Tryz.prog w = _ := fun ty =>
    run_append_grow_src w 26 26 ty 3 i0 _ Tryz.underlying26 hi0 hz0 (some ⟨b, off, none⟩) n c cs hold _ 1 [x] hsrc hroom (by omega) (by rw [hzb]; exact growslice_fits hroom (by omega))
  go_enter Tryz.func15, Tryz.ntmps15
  go_wp2_with (at_builtin; refine Lib.wpList_append_run _ rfl _ _ _ _ rfl _ _ rfl rfl _ _ (hrun _) ?_)
  go_ret
  exact ⟨rfl, rfl⟩

set_option maxHeartbeats 4000000 in
set_option maxRecDepth 100000 in
/-- IN THE MIDST, NO ROOM: a new row. -/
theorem insGrow (hn : n < 1000) (hi : i < n) (hnc : n ≤ c) (hroom : c < n + 1) (hcl : cs.length = n) (hvb : vb < w.heap.size) (hbb : b < w.heap.size)
    (hcs : ∀ j v, cs[j]? = some v → w.cell? ⟨b, off + j, none⟩ = some v)
    (hvs : w.cell? ⟨vb, voff, none⟩ = some x) (h1c : ∀ v ∈ cs, v.oneCell' = true) (h1v : x.oneCell' = true) :
    Calls Tryz.prog 15 #[.slice (some ⟨b, off, none⟩) n c, .int .i64 i, .slice (some ⟨vb, voff, none⟩) 1 vc] w fun e w' =>
      ∃ W cap, W = w.drew.alloc (.cells ((cs.take i).toArray ++ Builtin.zeroCells (Value.int .i64 0).cells (n + 1 - i) ++ Builtin.zeroCells (Value.int .i64 0).cells (cap - (n + 1))) 3) ∧ n + 1 ≤ cap ∧
      e = .returned (.slice (some ⟨w.heap.size, 0, none⟩) (n + 1) cap) ∧ w' = ((W.setCells w.heap.size i [x]).drew.setCells w.heap.size (i + 1) (cs.drop i)) := by
  have hz2 : ¬ ((i : Int) = (n : Int)) := by omega
  have hsz : (Tryz.prog.info? 3).map (·.size) = some 1 := by kernel_rfl
  have mixed : Tryz.prog.follows Departure.mixedOrders = true := by kernel_rfl
  obtain ⟨i0, hi0, hz0, hzs, hzb⟩ := info_parts info_int
  have hdl : (cs.drop i).length = n - i := by rw [List.length_drop, hcl]
  have htl : (cs.take i).length = i := by rw [List.length_take, hcl]; omega
  have hold : (Builtin.firstCells i0.size i (.slice (some ⟨b, off, none⟩) i c)).run Tryz.prog w.drew = .ok (cs.take i).toArray w.drew := by
    rw [hzs]
    exact run_firstCells_some w.drew 1 i ⟨b, off, none⟩ i c (cs.take i) (by omega) (fun j v hj => by
      rw [Addr.add_lit]
      rw [List.getElem?_take] at hj
      split at hj
      · exact hcs j v hj
      · cases hj)
  have hrun : ∀ ty, (Builtin.append_ #[26, 3] ty #[.slice (some ⟨b, off, none⟩) i c, .int .i64 (n + 1 - i : Nat)]).run Tryz.prog w = _ := fun ty =>
    run_append_grow_zeros w 26 3 ty 3 i0 _ .i64 .i64 Tryz.underlying26 Tryz.underlying3 hi0 hz0 (some ⟨b, off, none⟩) i c (cs.take i) hold (n + 1 - i) (by omega) (by omega) (by omega) (by omega) (by rw [hzb]; omega) (by rw [hzb]; exact growslice_fits (by omega) (by omega))
  have hge := grownCap_ge w (i + (n + 1 - i)) c 3
  obtain ⟨cap, hcap⟩ : ∃ cap, cap = grownCap w (i + (n + 1 - i)) c 3 := ⟨_, rfl⟩
  rw [← hcap] at hge hrun
  have hin1 : i + (n + 1 - i) = n + 1 := by omega
  rw [hin1] at hrun hge
  obtain ⟨W, hW⟩ : ∃ W, W = w.drew.alloc (.cells ((cs.take i).toArray ++ Builtin.zeroCells (Value.int .i64 0).cells (n + 1 - i) ++ Builtin.zeroCells (Value.int .i64 0).cells (cap - (n + 1))) 3) := ⟨_, rfl⟩
  rw [← hW] at hrun
  have hcast : ((n + 1 - i : Nat) : Int) = (n : Int) + 1 - (i : Int) := by omega
  have hw1 : IntKind.i64.wrap ((n : Int) + 1 - (i : Int)) = (n : Int) + 1 - (i : Int) := by rw [IntKind.wrap_i64]; omega
  have hWb : W.heap[w.heap.size]? = some (.cells ((cs.take i).toArray ++ Builtin.zeroCells (Value.int .i64 0).cells (n + 1 - i) ++ Builtin.zeroCells (Value.int .i64 0).cells (cap - (n + 1))) 3 (0, 0)) := by
    rw [hW]; exact heap_alloc_new w.drew _
  have hWsz : ((cs.take i).toArray ++ Builtin.zeroCells (Value.int .i64 0).cells (n + 1 - i) ++ Builtin.zeroCells (Value.int .i64 0).cells (cap - (n + 1))).size = cap := by
    have h1 : (Value.int .i64 0).cells.size = 1 := rfl
    rw [Array.size_append, Array.size_append, zeroCells_size, zeroCells_size, h1, List.size_toArray, htl]
    omega
  have hWold : ∀ (k o : Nat), k < w.heap.size → W.cell? ⟨k, o, none⟩ = w.cell? ⟨k, o, none⟩ := fun k o hk => by
    have : W.heap[k]? = w.heap[k]? := by rw [hW]; exact heap_alloc_old w.drew _ hk
    simp [World.cell?, this]
  have hsome : ∀ k, k < n + 1 → (W.cell? ⟨w.heap.size, k, none⟩).isSome = true := fun k hk => by
    rw [cell_at hWb, Array.getElem?_eq_getElem (by rw [hWsz]; omega)]; rfl
  have hfree : ∀ k, W.frozen? ⟨w.heap.size, k, none⟩ = false := fun k => frozen_at hWb (by simp)
  generalize hgg : w.heap.size = g at *
  have hcp1 : ∀ ty dc, (Builtin.copy_ #[26, 26] ty #[.slice (some ⟨g, i, none⟩) (n + 1 - i) dc, .slice (some ⟨vb, voff, none⟩) 1 vc]).run Tryz.prog W = .ok (goInt [x].length) (W.setCells g i [x]) := fun ty dc =>
    run_copy_cells W _ _ ty 3 g i (n + 1 - i) dc ⟨vb, voff, none⟩ 1 vc [x] Tryz.underlying26 hsz (by simp only [Nat.min_def, List.length_cons, List.length_nil]; split <;> omega)
      (fun j v hj => by
        rw [Addr.add_lit, hWold _ _ hvb]
        cases j with
        | zero => simp at hj; subst hj; exact hvs
        | succ j => simp at hj)
      (fun j hj => by simp at hj; exact hsome _ (by omega)) (fun j hj => hfree _) (fun v hv => by simp at hv; subst hv; exact h1v)
  obtain ⟨W2, hW2⟩ : ∃ W2, W2 = (W.setCells g i [x]).drew := ⟨_, rfl⟩
  have hcp2 : ∀ ty dc sc, (Builtin.copy_ #[26, 26] ty #[.slice (some ⟨g, i + 1, none⟩) (n - i) dc, .slice (some ⟨b, off + i, none⟩) (n - i) sc]).run Tryz.prog (W.setCells g i [x]).drew = .ok (goInt (cs.drop i).length) ((W.setCells g i [x]).drew.setCells g (i + 1) (cs.drop i)) := fun ty dc sc =>
    run_copy_cells (W.setCells g i [x]).drew _ _ ty 3 g (i + 1) (n - i) dc ⟨b, off + i, none⟩ (n - i) sc (cs.drop i) Tryz.underlying26 hsz (by rw [hdl]; simp only [Nat.min_def]; split <;> omega)
      (fun j v hj => by
        rw [Addr.add_lit, World.cell?_drew, World.cell?_setCells_out g _ _ _ _ (fun h _ => absurd (show b = g from h) (by omega)), hWold _ _ hbb, Nat.add_assoc]
        exact hcs (i + j) v (by rwa [List.getElem?_drop] at hj))
      (fun j hj => by rw [World.cell?_drew]; exact isSome_setCells g _ _ _ (fun k hk => by simp at hk; exact hsome _ (by omega)) _ (hsome _ (by omega)))
      (fun j hj => by rw [World.frozen?_drew, World.frozen?_setCells]; exact hfree _) (fun v hv => h1c v (List.mem_of_mem_drop hv))
  rw [hcast] at hrun
  have hb1 : (0 : Int) ≤ (i : Int) + 1 := by omega
  have hw2 : IntKind.i64.wrap ((i : Int) + 1) = (i : Int) + 1 := by rw [IntKind.wrap_i64]; omega
  have hw3 : IntKind.i64.wrap ((n : Int) + 1) = (n : Int) + 1 := by rw [IntKind.wrap_i64]; omega
  have htn : ((i : Int) + 1).toNat = i + 1 := by omega
  have hb2 : ¬ (cap = i + 1) := by omega
  have hb4 : ¬ (cap = i) := by omega
  have hb5 : ¬ (c = i) := by omega
  have hin : i ≤ n := by omega
  have hb3 : (i : Int) + 1 ≤ (n : Int) + 1 := by omega
  have hlt : ((c : Int) < (n : Int) + 1) := by omega
  have HW := Lib.hid hW
  have HG := Lib.hid hge
  clear hcap hin1 hW hWb hWsz hWold hsome hfree hold hcs hvs h1c h1v hcl hdl htl hW2 hgg hvb hbb
  go_enter Tryz.func15, Tryz.ntmps15
  go_wp2_with (first | (at_builtin; refine Lib.wpList_append_run _ rfl _ _ _ _ rfl _ _ rfl rfl _ _ (hrun _) ?_) | (at_builtin; refine wpList_copy_runI _ rfl _ _ 26 26 rfl _ _ rfl rfl (hcp1 _ _) ?_))
  go_region_law_o (refine step_copy_runI rfl _ _ 26 26 rfl _ _ (by simp [Act.eval, Act.put]) (by simp [Act.eval, Act.put]) (hcp2 _ _ _) ?_)
  go_wp2
  go_ret
  exact ⟨W, cap, HW.out, HG.out, rfl, rfl⟩

set_option maxHeartbeats 4000000 in
set_option maxRecDepth 100000 in
/-- INTO NOTHING. -/
theorem insNil (hvs : w.cell? ⟨vb, voff, none⟩ = some x) (h1v : x.oneCell' = true) :
    Calls Tryz.prog 15 #[.slice none 0 0, .int .i64 0, .slice (some ⟨vb, voff, none⟩) 1 vc] w fun e w' =>
      e = .returned (.slice (some ⟨w.heap.size, 0, none⟩) 1 (grownCap w 1 0 3)) ∧
      w' = w.drew.alloc (.cells ([x].toArray ++ Builtin.zeroCells (Value.int .i64 0).cells (grownCap w 1 0 3 - 1)) 3) := by
  have mixed : Tryz.prog.follows Departure.mixedOrders = true := by kernel_rfl
  obtain ⟨i0, hi0, hz0, hzs, hzb⟩ := info_parts info_int
  have hsrc : Src Tryz.prog i0.size 26 (.slice (some ⟨vb, voff, none⟩) 1 vc) 1 [x] w := by
    rw [hzs]
    exact Src.ofSlice w Tryz.underlying26 ⟨vb, voff, none⟩ 1 vc [x] rfl (fun j u hj => by
      rw [Addr.add_lit]
      cases j with
      | zero => simp at hj; subst hj; exact hvs
      | succ j => simp at hj) (fun v hv => by simp at hv; subst hv; exact h1v)
  have hold : (Builtin.firstCells i0.size 0 (.slice none 0 0)).run Tryz.prog w.drew = .ok ([] : List Value).toArray w.drew := by
    rw [hzs]
    exact run_firstCells_none w.drew 1 0 0 0
  have hrun : ∀ ty, (Builtin.append_ #[26, 26] ty #[.slice none 0 0, .slice (some ⟨vb, voff, none⟩) 1 vc]).run Tryz.prog w = _ := fun ty =>
    run_append_grow_src w 26 26 ty 3 i0 _ Tryz.underlying26 hi0 hz0 none 0 0 [] hold _ 1 [x] hsrc (by omega) (by omega) (by rw [hzb]; exact growslice_fits (by omega) (by omega))
  go_enter Tryz.func15, Tryz.ntmps15
  go_wp2_with (at_builtin; refine Lib.wpList_append_run _ rfl _ _ _ _ rfl _ _ rfl rfl _ _ (hrun _) ?_)
  go_ret
  exact ⟨rfl, rfl⟩

end

theorem All2.take {α β : Type} {r : α → β → Prop} : ∀ {l : List α} {m : List β}, All2 r l m → ∀ n, All2 r (l.take n) (m.take n)
  | _, _, .nil, n => by simp; exact .nil
  | _, _, .cons _ _, 0 => by simp; exact .nil
  | _, _, .cons x y, n + 1 => by simp only [List.take_succ_cons]; exact .cons x (y.take n)
theorem All2.drop {α β : Type} {r : α → β → Prop} : ∀ {l : List α} {m : List β}, All2 r l m → ∀ n, All2 r (l.drop n) (m.drop n)
  | _, _, .nil, n => by simp; exact .nil
  | _, _, .cons x y, 0 => .cons x y
  | _, _, .cons x y, n + 1 => by simp only [List.drop_succ_cons]; exact y.drop n

theorem ins_at (olds : List Value) (x : Value) (i j : Nat) (hi : i ≤ olds.length) : (olds.take i ++ [x] ++ olds.drop i)[j]? = if j < i then olds[j]? else if j = i then some x else olds[j - 1]? := by
  have ht : (olds.take i).length = i := by simp; omega
  by_cases h1 : j < i
  · rw [if_pos h1, List.append_assoc, List.getElem?_append_left (by omega), List.getElem?_take, if_pos h1]
  · rw [if_neg h1, List.append_assoc, List.getElem?_append_right (by omega), ht]
    by_cases h2 : j = i
    · subst h2; simp
    · rw [if_neg h2, List.getElem?_append_right (by simp; omega), List.getElem?_drop]
      congr 1; simp; omega

/-- A row of new values lies at a place. -/
theorem obj_row {c : Cx} {b o m : Nat} {l : List At} {vs : List Value} (hv : All2 (AtR c) l vs) {n : Nat} (hn : n = l.length) {cs : Array Value} {e : Nat} {fr : Nat × Nat} (hm : cs.size = m) (hle : o + n ≤ cs.size) (hfr : fr.1 = fr.2 ∨ cs.size ≤ fr.1) (hc : ∀ (j : Nat) (u : Value), vs[j]? = some u → cs[o + j]? = some u) :
    ObjR c ⟨b, o, m⟩ (.cells (T.ofList l 0 .leaf) n .no) (some (.cells cs e fr)) := by
  refine ⟨cs, e, fr, rfl, hm, hle, hfr, fun i a hi => ?_, trivial⟩
  rcases T.get_ofList _ _ _ _ _ hi with ⟨_, h2⟩ | ⟨_, h2⟩
  · simp only [Nat.sub_zero] at h2
    obtain ⟨v, hv1, hv2⟩ := hv.get i a h2
    exact ⟨by rw [hn]; exact (List.getElem?_eq_some_iff.1 h2).1, v, hc i v hv1, hv2⟩
  · cases h2

theorem out2 (w : World) (ob : Obj) (b o o' : Nat) (vs us : List Value) : Out w (((w.drew.alloc ob).setCells b o vs).drew.setCells b o' us) :=
  Out.trans (Out.trans (⟨rfl, rfl, rfl⟩ : Out w (w.drew.alloc ob)) (setCells_out b vs o _)) (Out.trans (⟨rfl, rfl, rfl⟩ : Out ((w.drew.alloc ob).setCells b o vs) ((w.drew.alloc ob).setCells b o vs).drew) (setCells_out b us o' _))

theorem rdN_blk {h : Hp} {b o n : Nat} {l : List At} (hl : rdN h b o n = some l) : ∃ t m ty, h.get b = some (.cells t m ty) := by
  unfold rdN at hl
  split at hl
  · rename_i t m ty hb; exact ⟨t, m, ty, hb⟩
  · cases hl

theorem get_put_cases (h : Hp) (b nx : Nat) (B : Blk) : ∀ id b', ((h.erase b).set nx B).get id = some b' → (id = nx ∧ b' = B) ∨ (id ≠ nx ∧ id ≠ b ∧ h.get id = some b') := by
  intro id b' hid
  rcases T.get_set _ _ _ _ _ hid with ⟨h1, h2⟩ | ⟨h1, h2⟩
  · exact .inl ⟨h1, h2⟩
  · obtain ⟨h3, h4⟩ := T.get_erase _ _ _ _ h2
    exact .inr ⟨h1, h3, h4⟩

theorem pInsert_ok : PrimIs Tryz.prog 15 pInsert := by
  intro call hc args h nx v h' nx' he c w vs r hbd hargs
  unfold pInsert at he
  split at he
  case h_2 => cases he
  rename_i sv i b' o' cv ev
  obtain ⟨x0, y0, z0, rfl, hx0, hy0, hz0⟩ := args3 hargs
  have hy : y0 = .int .i64 i := hy0
  subst hy
  obtain ⟨p', hp', ov, kv, rfl, jv1, jv2, jv3, jv4, jv5⟩ : ∃ p, c b' = some p ∧ ∃ o1 k1, z0 = .slice (some ⟨p.b, o1, none⟩) 1 k1 ∧ (k1 ≠ 0 → o1 = p.o + o') ∧ 1 ≤ cv ∧ cv ≤ k1 ∧ (ev = true → k1 = cv) ∧ p.o + o' + k1 * 1 ≤ p.n := hz0
  have hov : ov = p'.o + o' := jv1 (by omega)
  subst hov
  split at he
  case h_2 => cases he
  rename_i x t' m' e' hrd hb'
  obtain ⟨xv, hvs, hxr⟩ := rd_sound r hrd hp'
  have h1v := hxr.one'
  obtain ⟨q, cs', el', fr', hq, f1, f2, f3, f4, f5, f6⟩ := r.cells hb'
  rw [hp'] at hq; cases hq
  obtain ⟨rfl, k1, k2, rfl⟩ := f6
  have hsa : w.shape? p'.b = some (el', cs'.size) := by simp [World.shape?, f1]
  have hfa : ∀ k, w.frozen? ⟨p'.b, k, none⟩ = false := fun k => frozen_at f1 (by simp)
  have hvlt : p'.b < w.heap.size := (Array.getElem?_eq_some_iff.1 f1).1
  split at he
  · rename_i b o l cc ex
    simp only [beq_dec, ble_dec, blt_dec] at he
    by_cases hbb : b = b'
    · simp [hbb] at he
    simp only [hbb, decide_false, cond_false] at he
    split at he
    case h_2 => cases he
    rename_i cs hcsr
    by_cases hil : i ≤ l
    case neg => simp [hil] at he
    by_cases hl : l < 1000
    case neg => simp [hil, hl] at he
    simp only [hil, hl, decide_true, cond_true, Option.some.injEq, Prod.mk.injEq] at he
    obtain ⟨rfl, rfl, rfl⟩ := he
    obtain ⟨p, hp, o0, k', rfl, j1, j2, j3, j4, j5⟩ : ∃ p, c b = some p ∧ ∃ o1 k1, x0 = .slice (some ⟨p.b, o1, none⟩) l k1 ∧ (k1 ≠ 0 → o1 = p.o + o) ∧ l ≤ cc ∧ cc ≤ k1 ∧ (ex = true → k1 = cc) ∧ p.o + o + k1 * 1 ≤ p.n := hx0
    obtain ⟨t, m, ty, hb⟩ := rdN_blk hcsr
    obtain ⟨olds, hol, hocell, hor⟩ := rdN_sound r hcsr hp
    obtain ⟨q, ca, el, fr, hq, g1, g2, g3, g4, g5, g6⟩ := r.cells hb
    rw [hp] at hq; cases hq
    have hblt : p.b < w.heap.size := (Array.getElem?_eq_some_iff.1 g1).1
    have hsb : w.shape? p.b = some (el, ca.size) := by simp [World.shape?, g1]
    have hne : p'.b ≠ p.b := r.inj b' b _ _ _ _ hb' hb (fun e => hbb e.symm) hp' hp
    have hcs : ∀ j v, olds[j]? = some v → w.cell? ⟨p.b, p.o + o + j, none⟩ = some v := fun j v hj => by
      have := hocell j v hj; rwa [addr_add] at this
    have hcs' : ∀ j v, olds[j]? = some v → ca[p.o + o + j]? = some v := fun j v hj => by
      have := hcs j v hj; rwa [cell_at g1] at this
    have h1c := hor.one'
    have hsp : ∀ k, k < p.n → (w.cell? ⟨p.b, k, none⟩).isSome = true := fun k hk => by
      rw [cell_at g1, Array.getElem?_eq_getElem (by omega)]; rfl
    have hfz : ∀ k, k < p.n → w.frozen? ⟨p.b, k, none⟩ = false := fun k hk => frozen_at g1 (notFr g4 (by omega))
    have hnew : All2 (AtR c) (cs.take i ++ [x] ++ cs.drop i) (olds.take i ++ [xv] ++ olds.drop i) := ((hor.take i).append (.cons hxr .nil)).append (hor.drop i)
    have hclen : cs.length = l := by rw [hor.length]; exact hol
    have hnlen : l + 1 = (cs.take i ++ [x] ++ cs.drop i).length := by simp; omega
    have hcases := get_put_cases h b nx (.cells (T.ofList (cs.take i ++ [x] ++ cs.drop i) 0 .leaf) (l + 1) .no)
    by_cases hroom : l + 1 ≤ k'
    · have ho0 : o0 = p.o + o := j1 (by omega)
      subst ho0
      -- in place
      have fin : ∀ (W : World) (ca2 : Array Value), W.heap[p.b]? = some (.cells ca2 el fr) → ca2.size = ca.size → (∀ x, x ≠ p.b → W.heap[x]? = w.heap[x]?) → w.heap.size ≤ W.heap.size → Out w W →
          (∀ (j : Nat) (u : Value), (olds.take i ++ [xv] ++ olds.drop i)[j]? = some u → ca2[p.o + o + j]? = some u) →
          ∃ y c', Ending.returned (Value.slice (some ⟨p.b, p.o + o, none⟩) (l + 1) k') = .returned y ∧ Mv c h.get w c' ((h.erase b).set nx (.cells (T.ofList (cs.take i ++ [x] ++ cs.drop i) 0 .leaf) (l + 1) .no)).get W ∧ Gr c nx c' (nx + 1) ∧ AvR c' (.at (.slc nx 0 (l + 1) (l + 1) 1 false)) y := by
        intro W ca2 hW hsz hoth hgrow hout hval
        refine ⟨_, c.put nx ⟨p.b, p.o + o, p.n⟩, rfl, ?_, Gr.put c nx _, _, Cx.put_same _ _ _, p.o + o, k', rfl, fun _ => rfl, Nat.le_refl _, hroom, fun h => (by cases h), by show p.o + o + 0 + k' * 1 ≤ p.n; omega⟩
        refine Mv.again r hbd.none hb hp (p' := ⟨p.b, p.o + o, p.n⟩) rfl ?_ hoth hgrow hcases hout
        show ObjR _ _ _ (W.heap[p.b]?)
        rw [hW]
        exact obj_row (hnew.mono fun _ _ => AtR.mono (Cx.le_put hbd.none _)) hnlen (by rw [hsz]; exact g2) (by rw [hsz]; omega) (by rw [hsz]; exact g4) hval
      by_cases hie : i = l
      · subst hie
        refine (insEndRoom p.b (p.o + o) i k' p'.b (p'.o + o') kv xv w hl hroom (hsp _ (by omega)) (hfz _ (by omega)) hvs h1v).mono ?_
        rintro e w' ⟨rfl, rfl⟩
        obtain ⟨ca2, q1, q2, q3⟩ := setCells_at p.b [xv] (p.o + o + i) w ca el fr g1
        refine fin _ ca2 q1 q2 (fun y hy => setCells_other _ _ hy _ _ _) (by rw [setCells_size]; exact Nat.le_refl _) (setCells_out _ _ _ _) ?_
        intro j u hj
        rw [ins_at _ _ _ _ (by omega)] at hj
        rw [q3]
        split at hj
        · rw [if_neg (by simp; omega)]; exact hcs' j u hj
        · split at hj
          · simp at hj; subst hj
            subst j
            rw [if_pos (by simp; omega)]
            simp
          · have := (List.getElem?_eq_some_iff.1 hj).1; omega
      · refine (insShift p.b (p.o + o) l k' i p'.b (p'.o + o') kv olds xv w hl (by omega) hroom hne hol hcs (fun j hj => hsp _ (by omega)) (fun j hj => hfz _ (by omega)) hvs h1c h1v el' el cs'.size ca.size hsa hsb (by omega) (hfa _) (hfa _)).mono ?_
        rintro e w' ⟨rfl, rfl⟩
        obtain ⟨ca1, q1, q2, q3⟩ := setCells_at p.b (olds.drop i) (p.o + o + (i + 1)) w.drew ca el fr g1
        obtain ⟨ca2, s1, s2, s3⟩ := setCells_at p.b [xv] (p.o + o + i) _ ca1 el fr q1
        refine fin _ ca2 s1 (by rw [s2, q2]) (fun y hy => by rw [setCells_other _ _ hy, setCells_other _ _ hy]; rfl) (by rw [setCells_size, setCells_size]; exact Nat.le_refl _) (Out.trans (⟨rfl, rfl, rfl⟩ : Out w w.drew) ((setCells_out _ _ _ _).trans (setCells_out _ _ _ _))) ?_
        intro j u hj
        rw [ins_at _ _ _ _ (by omega)] at hj
        rw [s3, q3]
        split at hj
        · rw [if_neg (by simp; omega), if_neg (by simp; omega)]; exact hcs' j u hj
        · split at hj
          · simp at hj; subst hj
            subst j
            rw [if_pos (by simp; omega)]
            simp
          · have := (List.getElem?_eq_some_iff.1 hj).1
            rw [if_neg (by simp; omega), if_pos (by simp; omega), List.getElem?_drop, show i + (p.o + o + j - (p.o + o + (i + 1))) = j - 1 from by omega]
            exact hj
    · -- a new row
      have fin : ∀ (W : World) (ca2 : Array Value) (cap : Nat), W.heap[w.heap.size]? = some (.cells ca2 3 (0, 0)) → ca2.size = cap → l + 1 ≤ cap → (∀ x, x < w.heap.size → W.heap[x]? = w.heap[x]?) → w.heap.size ≤ W.heap.size → Out w W →
          (∀ (j : Nat) (u : Value), (olds.take i ++ [xv] ++ olds.drop i)[j]? = some u → ca2[0 + j]? = some u) →
          ∃ y c', Ending.returned (Value.slice (some ⟨w.heap.size, 0, none⟩) (l + 1) cap) = .returned y ∧ Mv c h.get w c' ((h.erase b).set nx (.cells (T.ofList (cs.take i ++ [x] ++ cs.drop i) 0 .leaf) (l + 1) .no)).get W ∧ Gr c nx c' (nx + 1) ∧ AvR c' (.at (.slc nx 0 (l + 1) (l + 1) 1 false)) y := by
        intro W ca2 cap hW hsz hcap hoth hgrow hout hval
        refine ⟨_, c.put nx ⟨w.heap.size, 0, cap⟩, rfl, ?_, Gr.put c nx _, _, Cx.put_same _ _ _, 0, cap, rfl, fun _ => rfl, Nat.le_refl _, hcap, fun h => (by cases h), by show 0 + 0 + cap * 1 ≤ cap; omega⟩
        refine Mv.new_ r hbd.none (p := ⟨w.heap.size, 0, cap⟩) ?_ (Nat.le_refl _) hoth hgrow (fun id b' hid => (hcases id b' hid).imp (fun hh => hh) fun hh => ⟨hh.1, hh.2.2⟩) hout
        show ObjR _ _ _ (W.heap[w.heap.size]?)
        rw [hW]
        exact obj_row (hnew.mono fun _ _ => AtR.mono (Cx.le_put hbd.none _)) hnlen hsz (by omega) (.inl rfl) hval
      by_cases hie : i = l
      · subst hie
        have hcs0 : ∀ j v, olds[j]? = some v → w.cell? ⟨p.b, o0 + j, none⟩ = some v := fun j v hj => by
          have := (List.getElem?_eq_some_iff.1 hj).1
          rw [j1 (by omega)]; exact hcs j v hj
        refine (insEndGrow p.b o0 i k' p'.b (p'.o + o') kv olds xv w hl (by omega) (by omega) hol hcs0 hvs h1v).mono ?_
        rintro e w' ⟨rfl, rfl⟩
        have hge := grownCap_ge w (i + 1) k' 3
        have hz1 : (Value.int .i64 0).cells.size = 1 := rfl
        refine fin _ _ _ (heap_alloc_new w.drew _) ?_ hge (fun x hx => heap_alloc_old w.drew _ hx) (by simp) ⟨rfl, rfl, rfl⟩ ?_
        · rw [Array.size_append, zeroCells_size, hz1]; simp [hol]; omega
        · intro j u hj
          rw [ins_at _ _ _ _ (by omega)] at hj
          rw [Nat.zero_add]
          have hjl : j < (olds ++ [xv]).length := by
            simp [hol]
            split at hj
            · omega
            · split at hj
              · omega
              · have := (List.getElem?_eq_some_iff.1 hj).1; omega
          rw [Array.getElem?_append_left (by simpa using hjl)]
          simp only [List.getElem?_toArray]
          split at hj
          · rw [List.getElem?_append_left (by omega)]; exact hj
          · split at hj
            · rw [List.getElem?_append_right (by omega)]; subst j; simpa [hol] using hj
            · have := (List.getElem?_eq_some_iff.1 hj).1; omega
      · have ho0 : o0 = p.o + o := j1 (by omega)
        subst ho0
        refine (insGrow p.b (p.o + o) l k' i p'.b (p'.o + o') kv olds xv w hl (by omega) (by omega) (by omega) hol hvlt hblt hcs hvs h1c h1v).mono ?_
        rintro e w' ⟨W, cap, rfl, hcap, rfl, rfl⟩
        have hz1 : (Value.int .i64 0).cells.size = 1 := rfl
        have hWb := heap_alloc_new w.drew (.cells ((olds.take i).toArray ++ Builtin.zeroCells (Value.int .i64 0).cells (l + 1 - i) ++ Builtin.zeroCells (Value.int .i64 0).cells (cap - (l + 1))) 3 (0, 0))
        have hsz0 : ((olds.take i).toArray ++ Builtin.zeroCells (Value.int .i64 0).cells (l + 1 - i) ++ Builtin.zeroCells (Value.int .i64 0).cells (cap - (l + 1))).size = cap := by
          rw [Array.size_append, Array.size_append, zeroCells_size, zeroCells_size, hz1, List.size_toArray]
          simp [hol]; omega
        obtain ⟨ca1, q1, q2, q3⟩ := setCells_at w.heap.size [xv] i _ _ _ _ hWb
        obtain ⟨ca2, s1, s2, s3⟩ := setCells_at w.heap.size (olds.drop i) (i + 1) ((w.drew.alloc (.cells ((olds.take i).toArray ++ Builtin.zeroCells (Value.int .i64 0).cells (l + 1 - i) ++ Builtin.zeroCells (Value.int .i64 0).cells (cap - (l + 1))) 3)).setCells w.heap.size i [xv]).drew ca1 _ _ q1
        refine fin _ ca2 cap s1 (by rw [s2, q2, hsz0]) hcap (fun y hy => by
          rw [setCells_other _ _ (by omega)]
          show ((w.drew.alloc _).setCells w.heap.size i [xv]).heap[y]? = _
          rw [setCells_other _ _ (by omega)]
          exact heap_alloc_old w.drew _ hy) (by
          rw [setCells_size]
          show w.heap.size ≤ ((w.drew.alloc _).setCells w.heap.size i [xv]).heap.size
          rw [setCells_size]; simp) (out2 _ _ _ _ _ _ _) ?_
        intro j u hj
        rw [ins_at _ _ _ _ (by omega)] at hj
        rw [Nat.zero_add, s3, q3, q2, hsz0]
        split at hj
        · rename_i hji
          rw [if_neg (by omega), if_neg (by omega), Array.append_assoc, Array.getElem?_append_left (by simp [hol]; omega)]
          simp only [List.getElem?_toArray, List.getElem?_take, hji, if_true]
          exact hj
        · split at hj
          · subst j
            rw [if_neg (by omega), if_pos (by simp; omega)]
            simpa using hj
          · have := (List.getElem?_eq_some_iff.1 hj).1
            rw [if_pos (by simp; omega), List.getElem?_drop, show i + (j - (i + 1)) = j - 1 from by omega]
            exact hj
  · split at he
    · simp only [Option.some.injEq, Prod.mk.injEq] at he
      obtain ⟨rfl, rfl, rfl⟩ := he
      have hx : x0 = .slice none 0 0 := hx0
      subst hx
      refine (insNil p'.b (p'.o + o') kv xv w hvs h1v).mono ?_
      rintro e w' ⟨rfl, rfl⟩
      have hge := grownCap_ge w 1 0 3
      have hz1 : (Value.int .i64 0).cells.size = 1 := rfl
      refine ⟨_, c.put nx ⟨w.heap.size, 0, grownCap w 1 0 3⟩, rfl, ?_, Gr.put c nx _, _, Cx.put_same _ _ _, 0, _, rfl, fun _ => rfl, Nat.le_refl _, hge, fun h => (by cases h), by show 0 + 0 + grownCap w 1 0 3 * 1 ≤ grownCap w 1 0 3; omega⟩
      refine Mv.new_ r hbd.none (p := ⟨w.heap.size, 0, grownCap w 1 0 3⟩) ?_ (Nat.le_refl _) (fun x hx => heap_alloc_old w.drew _ hx) (by simp) (get_set_cases _ _ _)
      show ObjR _ _ _ ((w.drew.alloc _).heap[w.drew.heap.size]?)
      rw [heap_alloc_new w.drew _]
      have hsz0 : ([xv].toArray ++ Builtin.zeroCells (Value.int .i64 0).cells (grownCap w 1 0 3 - 1)).size = grownCap w 1 0 3 := by
        rw [Array.size_append, zeroCells_size, hz1]; simp; omega
      refine obj_row (vs := [xv]) (.cons (hxr.mono (Cx.le_put hbd.none _)) .nil) rfl hsz0 (by rw [hsz0]; omega) (.inl rfl) ?_
      intro j u hj
      cases j with
      | zero =>
        have hu : xv = u := by simpa using hj
        subst hu
        rw [Array.getElem?_append_left (by simp)]; rfl
      | succ j => simp at hj
    · cases he
  · cases he

def prims_list : List Nat := [136, 137, 55, 27, 15]

theorem prims_ok : PrimOk Tryz.prog prims := by
  intro f q hq call hc args h nx v h' nx' he
  unfold prims at hq
  simp only [beq_dec] at hq
  by_cases h1 : f = 136
  · subst h1
    simp at hq; subst hq
    exact ⟨⟨_, Tryz.func136, by kernel_rfl⟩, fun c w vs => pLoad_ok call hc args h nx v h' nx' he c w vs⟩
  by_cases h2 : f = 137
  · subst h2
    simp at hq; subst hq
    exact ⟨⟨_, Tryz.func137, by kernel_rfl⟩, fun c w vs => pSlow_ok call hc args h nx v h' nx' he c w vs⟩
  by_cases h3 : f = 55
  · subst h3
    simp at hq; subst hq
    exact ⟨⟨_, Tryz.func55, by kernel_rfl⟩, fun c w vs => pCheck_ok call hc args h nx v h' nx' he c w vs⟩
  by_cases h4 : f = 27
  · subst h4
    simp at hq; subst hq
    exact ⟨⟨_, Tryz.func27, by kernel_rfl⟩, fun c w vs => pString_ok call hc args h nx v h' nx' he c w vs⟩
  by_cases h5 : f = 15
  · subst h5
    simp at hq; subst hq
    exact ⟨⟨_, Tryz.func15, by kernel_rfl⟩, fun c w vs => pInsert_ok call hc args h nx v h' nx' he c w vs⟩
  simp [h1, h2, h3, h4, h5] at hq

end Go.Proofs.YtljkldmjakabdaaGreat.Ev

