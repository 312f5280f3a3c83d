/- coder's reader: next. -/
import Derived.Test.YtgmgbgjghncipaaEncode
import Derived.Test.YtgmgbgjghncipaaTold
namespace Go.Proofs.Ytgmgbgjghncipaa
open Go.RowKit

def cReaderObj (lo hi : Nat) (pv : Value) (a v : Nat) : Obj := spanObj 73 lo hi [pv, .int .i64 (a : Int), .int .u64 (v : Int)]

theorem St.setAtR {w0 w : World} {os : List Thing} {s lo hi a v : Nat} {pv : Value} (h : St w0 w (cellT s (cReaderObj lo hi pv a v) :: os)) (x : Nat) : St w0 (w.setCell ⟨s, 3, none⟩ (.int .i64 (x : Int))) (cellT s (cReaderObj lo hi pv x v) :: os) := by
  have := h.storeCell 3 (.int .i64 (x : Int))
  simpa [cReaderObj, spanObj] using this
theorem St.setVal {w0 w : World} {os : List Thing} {s lo hi a v : Nat} {pv : Value} (h : St w0 w (cellT s (cReaderObj lo hi pv a v) :: os)) (x : Nat) : St w0 (w.setCell ⟨s, 4, none⟩ (.int .u64 (x : Int))) (cellT s (cReaderObj lo hi pv a x) :: os) := by
  have := h.storeCell 4 (.int .u64 (x : Int))
  simpa [cReaderObj, spanObj] using this

theorem bitAt_str (T : List Bool) (a : Nat) : (bitAt T (a : Int) == 1) = CoderP.str T a := by
  unfold bitAt CoderP.str
  by_cases h : a < T.length
  · rw [if_pos ⟨by omega, by omega⟩]
    rw [Int.toNat_natCast]
    cases T.getD a false <;> rfl
  · rw [if_neg (by omega)]
    rw [List.getD_eq_getElem?_getD, List.getElem?_eq_none_iff.2 (by omega)]
    rfl

theorem vecAt_any {w0 w : World} {os : List Thing} {b : Nat} {v : Value} {l : List Bool} (h : St w0 w os) (hm : vecT b v l ∈ os) (i : Nat) :
    Calls Try.prog 44 #[.pointer (some ⟨b, 0, none⟩), .int .i64 i] w fun e w' => e = .returned (.int .i64 (bitAt l i)) ∧ w = w' := by
  by_cases hi : i < l.length
  · have := vecAt_in h hm i hi
    have e : bitAt l i = ((l.getD i false).toNat : Nat) := by
      unfold bitAt
      rw [if_pos ⟨by omega, by omega⟩, Int.toNat_natCast]
    rw [e]
    exact this
  · have := vecAt_out h hm i (.inr (by omega))
    have e : bitAt l i = -1 := by
      unfold bitAt
      rw [if_neg (by omega)]
    rw [e]
    exact this

set_option maxHeartbeats 2000000 in
theorem next_any {w0 w : World} {os : List Thing} {s lo hi a v b : Nat} {bv : Value} {T : List Bool} (h : St w0 w (cellT s (cReaderObj lo hi (.pointer (some ⟨b, 0, none⟩)) a v) :: os)) (hm : vecT b bv T ∈ os) (hv : v < 9223372036854775807) (ha : a < 1099511627776) :
    Calls Try.prog 38 #[.pointer (some ⟨s, 0, none⟩)] w fun e w' => e = .returned (.tuple #[]) ∧
      St w0 w' (cellT s (cReaderObj lo hi (.pointer (some ⟨b, 0, none⟩)) (a + 1) (2 * v + (CoderP.str T a).toNat)) :: os) := by
  have c4 : w.cell? ⟨s, 4, none⟩ = some (.int .u64 (v : Int)) := h.cellAt 4
  have f4 : w.frozen? ⟨s, 4, none⟩ = false := h.freeAt 4
  have S1 : Hid (St w0 (w.setCell ⟨s, 4, none⟩ (.int .u64 ((v : Int) * 2))) (cellT s (cReaderObj lo hi (.pointer (some ⟨b, 0, none⟩)) a (v * 2)) :: os)) := h.setVal (v * 2)
  have HM := Lib.hid hm
  have HB := Lib.hid (bitAt_str T a)
  clear h hm
  go_enter Try.func38, Try.ntmps38
  go_wp2_with fail
  have HAT : Hid (∀ n, Calls Try.prog 44 #[.pointer (some ⟨b, 0, none⟩), .int .i64 a] ((w.setCell ⟨s, 4, none⟩ (.int .u64 ((v : Int) * 2))).drewN n) fun e w' => e = .returned (.int .i64 (bitAt T a)) ∧ w' = (w.setCell ⟨s, 4, none⟩ (.int .u64 ((v : Int) * 2))).drewN n) := fun n =>
    (vecAt_any (b := b) (v := bv) (l := T) (S1.out.drewN n) (List.mem_cons_of_mem _ HM.out) a).mono fun _ _ ⟨h1, h2⟩ => ⟨h1, h2.symm⟩
  clear c4 f4
  generalize w.setCell ⟨s, 4, none⟩ (.int .u64 ((v : Int) * 2)) = W at S1 HAT ⊢
  have c2 : W.cell? ⟨s, 2, none⟩ = some (.pointer (some ⟨b, 0, none⟩)) := S1.out.cellAt 2
  have c3 : W.cell? ⟨s, 3, none⟩ = some (.int .i64 (a : Int)) := S1.out.cellAt 3
  generalize bitAt T a = y at HAT HB
  go_quiet ((go_at_call 44; exact Calls.quiet_of_same (HAT.out _)))
  have S2 := Lib.hid (S1.out.drewN nq)
  clear S1 c2 c3 HAT
  generalize W.drewN nq = W2 at S2 ⊢
  have c3 : W2.cell? ⟨s, 3, none⟩ = some (.int .i64 (a : Int)) := S2.out.cellAt 3
  have c4 : W2.cell? ⟨s, 4, none⟩ = some (.int .u64 ((v * 2 : Nat) : Int)) := S2.out.cellAt 4
  have f3 : W2.frozen? ⟨s, 3, none⟩ = false := S2.out.freeAt 3
  have f4 : W2.frozen? ⟨s, 4, none⟩ = false := S2.out.freeAt 4
  cases hb : CoderP.str T a
  · have hy := HB.out
    rw [hb] at hy
    have HV2 : Hid (2 * v + (CoderP.str T a).toNat = v * 2) := by show _ = _; rw [hb]; simp; omega
    have S3 : Hid (St w0 (W2.setCell ⟨s, 3, none⟩ (.int .i64 ((a : Int) + 1))) (cellT s (cReaderObj lo hi (.pointer (some ⟨b, 0, none⟩)) (a + 1) (v * 2)) :: os)) := S2.out.setAtR (a + 1)
    clear S2 hb HB
    go_wp2_with fail
    go_end0
    exact ⟨rfl, by rw [HV2.out]; exact S3.out⟩
  · have hy := HB.out
    rw [hb] at hy
    have HV2 : Hid (2 * v + (CoderP.str T a).toNat = v * 2 + 1) := by show _ = _; rw [hb]; simp; omega
    have S3 : Hid (St w0 ((W2.setCell ⟨s, 4, none⟩ (.int .u64 ((v : Int) * 2 + 1))).setCell ⟨s, 3, none⟩ (.int .i64 ((a : Int) + 1))) (cellT s (cReaderObj lo hi (.pointer (some ⟨b, 0, none⟩)) (a + 1) (v * 2 + 1)) :: os)) := (S2.out.setVal (v * 2 + 1)).setAtR (a + 1)
    clear S2 hb HB
    go_wp2_with fail
    go_end0
    exact ⟨rfl, by rw [HV2.out]; exact S3.out⟩
end Go.Proofs.Ytgmgbgjghncipaa

