/- The contract of crc.Sum.Add and of crc.Of. -/
import Derived.Test.YtgpdkobefnhfiaaSum
namespace Go.Proofs.Ytgpdkobefnhfiaa
open Go.RowKit

/-- the register behind some bytes -/
def regAfter (r : Nat) (l : List Nat) : Nat := CrcP.run (r ^^^ 4294967295) l ^^^ 4294967295

theorem not_u32 (r : Nat) (hr : r < 4294967296) : bits BinOp.xor IntKind.u32 IntKind.u32.max (r : Int) = ((r ^^^ 4294967295 : Nat) : Int) := by
  have := u32_xor_nat 4294967295 r (by decide) hr
  rw [Nat.xor_comm] at this
  exact this

theorem xor_full_lt {r : Nat} (hr : r < 4294967296) : r ^^^ 4294967295 < 4294967296 := Nat.xor_lt_two_pow (n := 32) hr (by decide)

theorem sum_set2 {w : World} {b r n : Nat} (h : w.heap[b]? = some (sumObj r n)) (r' n' : Nat) :
    ((w.setCell ⟨b, 0, none⟩ (.int .u32 r')).setCell ⟨b, 1, none⟩ (.int .i64 n')).heap[b]? = some (sumObj r' n') := by
  simp [World.setCell, Array.getElem?_modify, h, sumObj]

theorem sum_keeps {w : World} {b : Nat} (u v : Value) : Keeps [b] w ((w.setCell ⟨b, 0, none⟩ u).setCell ⟨b, 1, none⟩ v) :=
  ((Keeps.refl _ _).setCell (.inl (by simp)) _).setCell (.inl (by simp)) _

theorem ret_unit {P : Program} {fn : Func} {R : Ending → World → Prop} {a : Act} {w : World} (hr : fn.results = #[]) (hd : a.defers = []) (h : R (.returned (.tuple #[])) w) :
    bodyPost P fn R Exit.ret a w := bodyPost_ret (v := .tuple #[]) (results_none hr _ _ _) hd h

set_option maxHeartbeats 400000 in
theorem add_any (b r n : Nat) (v : Value) (l : List Nat) (w : World) (h : w.heap[b]? = some (sumObj r n)) (hv : Reads w v (bytesOf l))
    (hr : r < 4294967296) (hl : ∀ x ∈ l, x < 256) (hn : n + l.length ≤ 9223372036854775807) :
    Calls Try.prog 15 #[.pointer (some ⟨b, 0, none⟩), v] w fun e w' => e = .returned (.tuple #[]) ∧ w'.heap[b]? = some (sumObj (regAfter r l) (n + l.length)) ∧ Keeps [b] w w' := by
  have c0 : w.cell? ⟨b, 0, none⟩ = some (.int .u32 r) := by simp [World.cell?, h, sumObj]
  have c1 : w.cell? ⟨b, 1, none⟩ = some (.int .i64 n) := by simp [World.cell?, h, sumObj]
  have f0 : w.frozen? ⟨b, 0, none⟩ = false := by simp [World.frozen?, h, sumObj]
  have f1 : w.frozen? ⟨b, 1, none⟩ = false := by simp [World.frozen?, h, sumObj]
  have H := Lib.hid h
  clear h
  obtain ⟨ao, cap, rfl, hcap, hm, _, hc⟩ := hv
  rw [bytesOf_len] at hcap ⊢
  unfold maxLen at hm
  rcases hc with hc | ⟨bb, off, rfl, hc⟩
  · have hl0 : l = [] := by simpa [bytesOf] using hc
    subst hl0
    go_enter Try.func15, Try.ntmps15
    go_wp2
    refine wp_loop_rounds 1 ?_
    rw [rounds_succ]
    go_wp2
    go_end0
    refine ⟨rfl, ?_, sum_keeps _ _⟩
    have e1 : bits BinOp.xor IntKind.u32 IntKind.u32.max (bits BinOp.xor IntKind.u32 IntKind.u32.max (r : Int)) = ((regAfter r [] : Nat) : Int) := by
      rw [not_u32 r hr, not_u32 _ (xor_full_lt hr)]; rfl
    rw [e1]
    exact sum_set2 H.out _ _
  · go_enter Try.func15, Try.ntmps15
    go_wp2
    go_loop [4, 6, 16] (fun x y i => ∃ k : Nat, k ≤ l.length ∧ i = .int .i64 k ∧ x = .int .u32 ((CrcP.run (r ^^^ 4294967295) (l.take k) : Nat) : Int)) (fun _ _ i => l.length - (intOf i).toNat)
    case atStart => exact ⟨0, by omega, rfl, by rw [not_u32 r hr]; rfl⟩
    case round =>
      obtain ⟨k, hk, rfl, rfl⟩ := hrel
      by_cases hlt : k < l.length
      · have hcell : w.cell? ⟨bb, off + k, none⟩ = some (.int .u8 (l[k] : Nat)) := hc k _ (bytesOf_get l k hlt)
        have hb8 : l[k] < 256 := hl _ (List.getElem_mem hlt)
        generalize hbb : l[k] = bt at hcell hb8
        have HB := Lib.hid hbb
        clear hbb
        have hx : CrcP.run (r ^^^ 4294967295) (l.take k) < 4294967296 := CrcP.run_lt (xor_full_lt hr) (fun x hx => hl x (List.mem_of_mem_take hx))
        generalize hq : CrcP.run (r ^^^ 4294967295) (l.take k) = q at hx ⊢
        have HQ := Lib.hid hq
        clear hq
        go_wp2_with (first | (go_at_call 20; refine (step_any _ _ _ hx hb8).mono ?_; rintro e w' ⟨rfl, rfl⟩))
        go_round
        case rel =>
          refine ⟨k + 1, by omega, by go_num, ?_⟩
          rw [List.take_succ_eq_append_getElem hlt, CrcP.run_append, HQ.out, HB.out]
          rfl
        case measure => simp [intOf]; omega
      · have hk2 : k = l.length := by omega
        have hx : CrcP.run (r ^^^ 4294967295) (l.take k) < 4294967296 := CrcP.run_lt (xor_full_lt hr) (fun x hx => hl x (List.mem_of_mem_take hx))
        generalize hq : CrcP.run (r ^^^ 4294967295) (l.take k) = q at hx ⊢
        have HQ := Lib.hid hq
        clear hq
        go_wp2
        go_end0
        refine ⟨rfl, ?_, sum_keeps _ _⟩
        rw [not_u32 q hx]
        have e1 : (q ^^^ 4294967295 : Nat) = regAfter r l := by
          rw [← HQ.out, hk2, List.take_length]; rfl
        rw [e1]
        exact sum_set2 H.out _ (n + l.length)

theorem crcOf_any (v : Value) (l : List Nat) (w : World) (hv : Reads w v (bytesOf l)) (hl : ∀ x ∈ l, x < 256) (hn : l.length ≤ 9223372036854775807) :
    Calls Try.prog 8 #[v] w fun e w' => e = .returned (.int .u32 (CrcP.of l : Nat)) ∧ Below w.heap.size w w' := by
  go_enter Try.func8, Try.ntmps8
  go_wp2_with fail
  refine (new_any w).mono ?_
  rintro e w' ⟨rfl, rfl⟩
  go_wp2_with fail
  have hb : (w.alloc (sumObj 0 0)).heap[w.heap.size]? = some (sumObj 0 0) := heap_alloc_new w _
  have hv1 : Reads (w.alloc (sumObj 0 0)) v (bytesOf l) := hv.below ((Below.refl _ _).alloc (Nat.le_refl _) _)
  refine (add_any _ 0 0 v l _ hb hv1 (by decide) hl (by omega)).mono ?_
  rintro e w1 ⟨rfl, hb1, hk1⟩
  go_wp2_with fail
  refine (value_any _ _ _ _ hb1).mono ?_
  rintro e w2 ⟨rfl, rfl⟩
  go_wp2
  go_ret
  have hk0 : Keeps [] w (w.alloc (sumObj 0 0)) := (Keeps.refl _ _).alloc _
  refine ⟨?_, (hk0.trans hk1 (by simp)).nil_below⟩
  rfl
end Go.Proofs.Ytgpdkobefnhfiaa
