/- sync.Once, once: the lock, the slow road, and what perm.Perm does with it: turn, Back, Inverse. -/
import Derived.Test.YtoipbbobkllddaaThen
import Derived.Defers
import Derived.Laws.Pointers
import Derived.Laws.LoneSync
import Derived.RegionTactic
import Derived.RegionCalls
namespace Go.Proofs.Ytoipbbobkllddaa
open Go.RowKit

/-- the cells of a permutation, whatever its Once's state -/
def permFull (v : Value) (d m s : Int) (f : Value) : Obj := .cells #[v, .int .u32 d, .int .i32 m, .int .u32 s, f] 81

theorem race_disable (w : World) : (callFunc 77 #[]).run Try.prog w = .ok (.value (.tuple #[])) w := run_call_mark0 Try.func77 (by kernel_rfl) (by kernel_rfl) (by kernel_rfl) .disable (by kernel_rfl) w
theorem race_enable (w : World) : (callFunc 79 #[]).run Try.prog w = .ok (.value (.tuple #[])) w := run_call_mark0 Try.func79 (by kernel_rfl) (by kernel_rfl) (by kernel_rfl) .enable (by kernel_rfl) w
theorem race_acquire (a : Addr) (w : World) : (callFunc 80 #[.pointer (some a)]).run Try.prog w = .ok (.value (.tuple #[])) w := run_call_marked Try.func80 (by kernel_rfl) (by kernel_rfl) (by kernel_rfl) .acquire (by kernel_rfl) a w
theorem race_releaseMerge (a : Addr) (w : World) : (callFunc 82 #[.pointer (some a)]).run Try.prog w = .ok (.value (.tuple #[])) w := run_call_marked Try.func82 (by kernel_rfl) (by kernel_rfl) (by kernel_rfl) .releaseMerge (by kernel_rfl) a w

/-- '(*sync/atomic.Bool).Store(true)', entered as a deferred call: the cell holds 1. -/
theorem store_deferred (a : Addr) (x : Value) (u : FrameMode) (w : World) (hc : w.cell? a = some x) (hz : w.frozen? a = false) :
    CallsD Try.prog 72 #[.pointer (some a), .bool true] u w fun e u' w' => u' = u ∧ (e = .returned (.tuple #[]) ∧ w' = w.drew.setCell a (.int .u32 1)) := by
  have hc' : w.drew.cell? a = some x := by go_simp
  have hz' : w.drew.frozen? a = false := by go_simp
  have hst := run_call_store (P := Try.prog) Try.func75 (by kernel_rfl) (by kernel_rfl) (by kernel_rfl) (by kernel_rfl) (k := .u32) (y := 1) hc' hz'
  go_enter_d Try.func72, Try.ntmps72
  go_wp2
  go_region_calls
  all_goals (go_end0; exact ⟨rfl, rfl⟩)

set_option maxRecDepth 100000 in
/-- the inner mutex, let go: state 1 to 0 -/
theorem unlock_in (a : Addr) (w : World) (hc : w.cell? a = some (.int .i32 1)) (hz : w.frozen? a = false) :
    Calls Try.prog 74 #[.pointer (some a)] w fun e w' => e = .returned (.tuple #[]) ∧ w' = w.setCell a (.int .i32 0) := by
  have hd := race_disable
  have he := race_enable
  have hr := race_releaseMerge
  have hadd := run_call_add (P := Try.prog) Try.func83 (by kernel_rfl) (by kernel_rfl) (by kernel_rfl) .i32 (by kernel_rfl) (y := -1) (s := 0) hc hz (by simp [go_sem]; rfl)
  have hcv := run_convert_to_unsafe (P := Try.prog) (src := 123) (dst := 114) Try.underlying123 Try.underlying114 (by kernel_rfl) hc
  go_enter Try.func74, Try.ntmps74
  go_wp2
  go_end0
  exact ⟨rfl, rfl⟩

/-- '(*sync.Mutex).Unlock', entered as a deferred call, the lock held and nobody waiting (state 1): state 0. -/
theorem unlock_deferred (a : Addr) (u : FrameMode) (w : World) (hc : w.cell? a = some (.int .i32 1)) (hz : w.frozen? a = false) :
    CallsD Try.prog 71 #[.pointer (some a)] u w fun e u' w' => u' = u ∧ (e = .returned (.tuple #[]) ∧ w' = w.setCell a (.int .i32 0)) := by
  have hin := unlock_in a w hc hz
  go_enter_d Try.func71, Try.ntmps71
  go_wp2_with (go_at_call 74; refine hin.mono ?_; rintro e w' ⟨rfl, rfl⟩)
  go_end0
  exact ⟨rfl, rfl⟩

set_option maxRecDepth 100000 in
theorem lock_in (a : Addr) (w : World) (hc : w.cell? a = some (.int .i32 0)) (hz : w.frozen? a = false) :
    Calls Try.prog 73 #[.pointer (some a)] w fun e w' => e = .returned (.tuple #[]) ∧ w' = w.setCell a (.int .i32 1) := by
  have hd := race_disable
  have he := race_enable
  have ha := race_acquire
  have hcas := run_call_cas_hit (P := Try.prog) Try.func78 (by kernel_rfl) (by kernel_rfl) (by kernel_rfl) .i32 (by kernel_rfl) (y := 1) hc hz
  have hc' : (w.setCell a (.int .i32 1)).cell? a = some (.int .i32 1) := World.cell?_setCell_same w a _ hc
  have hcv := run_convert_to_unsafe (P := Try.prog) (src := 123) (dst := 114) Try.underlying123 Try.underlying114 (by kernel_rfl) hc'
  go_enter Try.func73, Try.ntmps73
  go_wp2
  first | go_end0 | (simp only [Exit.inBlock, Exit.then]; refine bodyPost_ret (results_none rfl _ _ _) rfl ?_) | refine bodyPost_ret (results_none rfl _ _ _) rfl ?_
  exact ⟨rfl, rfl⟩

/-- '(*sync.Mutex).Lock', the lock free (state 0): state 1. -/
theorem lock_free (a : Addr) (w : World) (hc : w.cell? a = some (.int .i32 0)) (hz : w.frozen? a = false) :
    Calls Try.prog 70 #[.pointer (some a)] w fun e w' => e = .returned (.tuple #[]) ∧ w' = w.setCell a (.int .i32 1) := by
  have hin := lock_in a w hc hz
  go_enter Try.func70, Try.ntmps70
  go_wp2_with (go_at_call 73; refine hin.mono ?_; rintro e w' ⟨rfl, rfl⟩)
  go_end0
  exact ⟨rfl, rfl⟩

theorem boolLoad_no (a : Addr) (w : World) (hc : w.cell? a = some (.int .u32 0)) :
    Calls Try.prog 66 #[.pointer (some a)] w fun e w' => e = .returned (.bool false) ∧ w' = w := by
  have hl := run_call_load (P := Try.prog) Try.func69 (by kernel_rfl) (by kernel_rfl) (by kernel_rfl) .u32 (by kernel_rfl) hc
  go_enter Try.func66, Try.ntmps66
  go_wp2
  go_ret
  exact ⟨rfl, rfl⟩
theorem boolLoad_yes (a : Addr) (w : World) (hc : w.cell? a = some (.int .u32 1)) :
    Calls Try.prog 66 #[.pointer (some a)] w fun e w' => e = .returned (.bool true) ∧ w' = w := by
  have hl := run_call_load (P := Try.prog) Try.func69 (by kernel_rfl) (by kernel_rfl) (by kernel_rfl) .u32 (by kernel_rfl) hc
  go_enter Try.func66, Try.ntmps66
  go_wp2
  go_ret
  exact ⟨rfl, rfl⟩

/-- how many stand turned -/
noncomputable def turnRow (xs : List Int) (i : Nat) : Nat → Int := fun y => if backN xs y < i then (backN xs y : Int) else 0

set_option maxRecDepth 100000 in
set_option maxHeartbeats 4000000 in
/-- who goes there -/
theorem turn_any {w0 w : World} {os : List Thing} (p : Nat) (v : Value) (d m s : Int) (f0 : Value) (xs : List Int) (h : St w0 w (cellT p (permFull v d m s f0) :: os)) (hm2 : rowT 3 v (intsOf xs) ∈ os) (hp : IsPerm xs) (hl : xs.length ≤ 1000000) :
    Calls Try.prog 57 #[.pointer (some ⟨p, 0, none⟩)] w fun e w' => ∃ f, e = .returned (.tuple #[]) ∧ St w0 w' (cellT p (permFull v d m s f) :: rowT 3 f (intsOf (invL xs)) :: os) := by
  obtain ⟨a, c, rfl, hlc, hcm⟩ := ownsRow_slice (h.ok (List.mem_cons_of_mem _ hm2))
  obtain ⟨n, hn⟩ : ∃ n, xs.length = n := ⟨_, rfl⟩
  have HN := Lib.hid hn
  have HP := Lib.hid hp
  rw [intsOf_len, hn] at h hm2 hlc ⊢
  rw [hn] at hl
  have HM2 := Lib.hid hm2
  have c0 : w.cell? ⟨p, 0, none⟩ = some (.slice a n c) := h.cellAt 0
  have hmk := run_make_row' (P := Try.prog) 22 3 (.int .i64 0) 8 Try.underlying22 info_i64 rfl .i64 .i64 n (by omega) (by omega)
  have hrow : (w.alloc (.cells (madeCells #[.int .i64 0] n) 3)).ownsRow w.heap.size 3 1 (.slice (some ⟨w.heap.size, 0, none⟩) n n) n (iRow (fun _ => 0) n) := by
    have := World.ownsRow_lit (base := w.heap.size) (e := 3) (size := 1) w (madeCells #[.int .i64 0] n) n (Nat.le_refl _) (by unfold maxLen; omega) (by simp [madeCells])
    rw [toList_madeCells_one] at this
    have e : List.replicate n (Value.int .i64 0) = iRow (fun _ => 0) n := by apply List.ext_getElem <;> simp [iRow]
    rw [e] at this
    exact this
  have h1 := h.newRow ((Keeps.refl _ _).alloc _) hrow
  have k4 : (w.alloc (.cells (madeCells #[.int .i64 0] n) 3)).cell? ⟨p, 4, none⟩ = some f0 := h1.swap.cellAt 4
  have kf4 : (w.alloc (.cells (madeCells #[.int .i64 0] n) 3)).frozen? ⟨p, 4, none⟩ = false := h1.swap.freeAt 4
  have h2 : St w0 ((w.alloc (.cells (madeCells #[.int .i64 0] n) 3)).setCell ⟨p, 4, none⟩ (.slice (some ⟨w.heap.size, 0, none⟩) n n)) (cellT p (permFull (.slice a n c) d m s (.slice (some ⟨w.heap.size, 0, none⟩) n n)) :: rowT 3 (.slice (some ⟨w.heap.size, 0, none⟩) n n) (iRow (turnRow xs 0) n) :: os) := by
    have := h1.swap.storeCell 4 (.slice (some ⟨w.heap.size, 0, none⟩) n n)
    have e : iRow (turnRow xs 0) n = iRow (fun _ => 0) n := iRow_congr fun j hj => by unfold turnRow; rw [if_neg (by omega)]
    rw [e]
    exact this
  have k0 : ((w.alloc (.cells (madeCells #[.int .i64 0] n) 3)).setCell ⟨p, 4, none⟩ (.slice (some ⟨w.heap.size, 0, none⟩) n n)).cell? ⟨p, 0, none⟩ = some (.slice a n c) := h2.cellAt 0
  have H2 := Lib.hid h2
  clear h h1 h2 hrow hm2 hp hn hlc
  go_enter Try.func57, Try.ntmps57
  go_wp2_with fail
  clear k4 kf4 k0 c0 hmk
  generalize hW : ((w.alloc (.cells (madeCells #[.int .i64 0] n) 3)).setCell ⟨p, 4, none⟩ (.slice (some ⟨w.heap.size, 0, none⟩) n n)) = W2 at H2 ⊢
  clear hW
  generalize w.heap.size = g at H2 ⊢
  go_loopw [18] (fun iv wr => ∃ i : Nat, i ≤ n ∧ iv = .int .i64 i ∧ St w0 wr (cellT p (permFull (.slice a n c) d m s (.slice (some ⟨g, 0, none⟩) n n)) :: rowT 3 (.slice (some ⟨g, 0, none⟩) n n) (iRow (turnRow xs i) n) :: os)) (fun iv _ => n - (intOf iv).toNat)
  case atStart => exact ⟨0, by omega, rfl, H2.out⟩
  case round =>
    obtain ⟨i, hi, rfl, hS⟩ := hrel
    have HS := Lib.hid hS
    clear hS H2
    by_cases hlt : i < n
    · have hix : i < xs.length := by rw [HN.out]; exact hlt
      obtain ⟨hx1, hx2⟩ := toN_lt HP.out hix
      have hbx := back_toN HP.out hix
      obtain ⟨x, hx⟩ : ∃ x, toN xs i = x := ⟨_, rfl⟩
      rw [hx] at hx1 hx2 hbx
      have hxn : x < n := by rw [← HN.out]; exact hx1
      obtain ⟨a8, c8, he8, j1, j2, j3, hc8⟩ := HS.out.reads (E := 3) (v := .slice a n c) (xs := intsOf xs) (List.mem_cons_of_mem _ (List.mem_cons_of_mem _ HM2.out))
      simp only [Value.slice.injEq] at he8
      obtain ⟨rfl, hq8, rfl⟩ := he8
      clear hq8 j1 j2 j3
      have hv8 : (intsOf xs)[i]? = some (.int .i64 x) := by simp only [intsOf, List.getElem?_map, hx2]; rfl
      rcases hc8 with hc8 | ⟨pb, po, rfl, hc8⟩
      · rw [hc8] at hv8; simp at hv8
      have cx := hc8 i _ hv8
      have k4 : wr.cell? ⟨p, 4, none⟩ = some (.slice (some ⟨g, 0, none⟩) n n) := HS.out.cellAt 4
      have hrow := HS.out.swap.rowN (iRow_len _ n)
      have cz := hrow.cellAt x (by omega)
      rw [iRow_get _ n x hxn] at cz
      have fz := hrow.frozenAt x
      have hst := HS.out.swap.store (iRow_len _ n) x (.int .i64 (i : Nat))
      have hset := iRow_set (turnRow xs i) (turnRow xs (i + 1)) n x (fun y hy hne => by
        have hyx : y < xs.length := by rw [HN.out]; exact hy
        have hbi : backN xs y ≠ i := fun e => hne (by
          have := toN_back HP.out hyx
          rw [e, hx] at this; exact this.symm)
        unfold turnRow
        by_cases hb : backN xs y < i
        · rw [if_pos hb, if_pos (by omega)]
        · rw [if_neg hb, if_neg (by omega)])
      have htx : turnRow xs (i + 1) x = (i : Int) := by unfold turnRow; rw [hbx, if_pos (by omega)]
      rw [htx] at hset
      rw [hset] at hst
      have HST := Lib.hid hst.swap
      clear hst hset htx hrow hc8 hv8 hx hx1 hx2 hbx hix HS
      go_wp2_with fail
      go_roundw
      case rel => exact ⟨i + 1, by omega, by go_num, HST.out⟩
      case measure => simp [intOf]; omega
    · obtain rfl : i = n := by omega
      have hfin : iRow (turnRow xs i) i = intsOf (invL xs) := by
        unfold invL
        rw [HN.out, ← mapL_row]
        refine iRow_congr fun j hj => ?_
        unfold turnRow
        have := backN_lt HP.out (by rw [HN.out]; exact hj : j < xs.length)
        rw [if_pos (by rw [← HN.out]; exact this)]
      have HF := Lib.hid (hfin ▸ HS.out)
      clear hfin
      go_wp2_with fail
      go_end0
      exact ⟨_, rfl, HF.out⟩
end Go.Proofs.Ytoipbbobkllddaa

