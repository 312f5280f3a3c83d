/- coder's writer: put. -/
import Derived.Test.YtgmgbgjghncipaaSpan
import Derived.Test.YtgmgbgjghncipaaReadsWalk
namespace Go.Proofs.Ytgmgbgjghncipaa
open Go.RowKit

def writerObj (lo hi o k : Nat) : Obj := spanObj 86 lo hi [.pointer (some ⟨o, 0, none⟩), .int .i64 (k : Int)]

/-- one element in a cell of its own, as an argument -/
theorem St.readsOne {w0 w : World} {os : List Thing} {b c : Nat} {v : Value} {l : List Bool} {x : Int} (h : St w0 w (vecT b v l :: cellT c (.cells #[.int .i64 x] 3 (0, 0)) :: os)) : Reads w (.slice (some ⟨c, 0, none⟩) 1 1) (intsOf [x]) :=
  h.swap.readsCell 1 rfl (by decide)

def waits (s : Nat) (w : World) : Nat := match w.cell? ⟨s, 3, none⟩ with | some v => (intOf v).toNat | none => 0
theorem waits_writer {w0 w : World} {os : List Thing} {s lo hi o k : Nat} (h : St w0 w (cellT s (writerObj lo hi o k) :: os)) : waits s w = k := by
  have c3 : w.cell? ⟨s, 3, none⟩ = some (.int .i64 (k : Int)) := h.cellAt 3
  simp [waits, c3, intOf]
theorem St.setWait {w0 w : World} {os : List Thing} {s lo hi o k : Nat} (h : St w0 w (cellT s (writerObj lo hi o k) :: os)) (x : Nat) : St w0 (w.setCell ⟨s, 3, none⟩ (.int .i64 (x : Int))) (cellT s (writerObj lo hi o x) :: os) := by
  have := h.storeCell 3 (.int .i64 (x : Int))
  simpa [writerObj, spanObj] using this

set_option maxHeartbeats 2000000 in
theorem put_any {w0 w : World} {os : List Thing} {s lo hi o k : Nat} {v : Value} {l : List Bool} (h : St w0 w (cellT s (writerObj lo hi o k) :: vecT o v l :: os)) (b : Bool) (hn : l.length + k < 1099511627000) :
    Calls Try.prog 45 #[.pointer (some ⟨s, 0, none⟩), .int .i64 ((b.toNat : Nat) : Int)] w fun e w' => e = .returned (.tuple #[]) ∧ ∃ v',
      St w0 w' (cellT s (writerObj lo hi o 0) :: vecT o v' (l ++ b :: List.replicate k (!b)) :: os) := by
  have c2 : w.cell? ⟨s, 2, none⟩ = some (.pointer (some ⟨o, 0, none⟩)) := h.cellAt 2
  have hfl : ∀ t : Bool, flags [((t.toNat : Nat) : Int)] = [t] := by intro t; cases t <;> rfl
  have HF := Lib.hid hfl
  have H := Lib.hid h
  have hb2 : b.toNat < 2 := by cases b <;> decide
  have hnb : (1 : Int) - ((b.toNat : Nat) : Int) = (((!b).toNat : Nat) : Int) := by cases b <;> rfl
  have HNB := Lib.hid hnb
  clear h hfl hnb
  go_enter Try.func45, Try.ntmps45
  go_wp2_with fail
  have S1 := Lib.hid (H.out.swap.newCell (.cells #[.int .i64 ((b.toNat : Nat) : Int)] 3 (0, 0))).swap
  refine (vecAdd_any S1.out _ [((b.toNat : Nat) : Int)] (fun w' v' l' h' => h'.readsOne) (by simp only [List.length_cons, List.length_nil]; omega)).mono ?_
  rintro e w1 ⟨rfl, v1, h1⟩
  rw [HF.out] at h1
  have S2 := Lib.hid h1.swap.tail.swap
  clear h1 S1 H c2
  go_wp2_with fail
  go_loopw [] (fun wr => ∃ (j : Nat) (v' : Value), j ≤ k ∧ St w0 wr (cellT s (writerObj lo hi o (k - j)) :: vecT o v' (l ++ b :: List.replicate j (!b)) :: os)) (fun wr => waits s wr)
  case atStart => exact ⟨0, v1, by omega, by simpa using S2.out⟩
  case round =>
    obtain ⟨j, v', hj, hS⟩ := hrel
    clear S2
    have c2 : wr.cell? ⟨s, 2, none⟩ = some (.pointer (some ⟨o, 0, none⟩)) := hS.cellAt 2
    have c3 : wr.cell? ⟨s, 3, none⟩ = some (.int .i64 ((k - j : Nat) : Int)) := hS.cellAt 3
    have hw1 := waits_writer hS
    have HS := Lib.hid hS
    clear hS
    by_cases hlt : j < k
    · obtain ⟨q, hq⟩ : ∃ q, k - j = q + 1 := ⟨k - j - 1, by omega⟩
      have HQ : Hid (k - (j + 1) = q) := by show _ = _; omega
      have HREP : Hid (l ++ b :: List.replicate (j + 1) (!b) = (l ++ b :: List.replicate j (!b)) ++ [!b]) := by
        show _ = _; rw [List.replicate_succ']; simp
      have hlen : (l ++ b :: List.replicate j (!b)).length < 1099511627000 := by simp; omega
      rw [hq] at c3 hw1 HS
      have HW1 := Lib.hid hw1
      have hq40 : q < 1099511627000 := by omega
      clear hq hw1
      go_wp2_with fail
      rw [HNB.out]
      have S1 := Lib.hid (HS.out.swap.newCell (.cells #[.int .i64 (((!b).toNat : Nat) : Int)] 3 (0, 0))).swap
      refine (vecAdd_any S1.out _ [(((!b).toNat : Nat) : Int)] (fun w' v' l' h' => h'.readsOne) (by simp only [List.length_cons, List.length_nil]; omega)).mono ?_
      rintro e w2 ⟨rfl, v2, h2⟩
      rw [HF.out, ← HREP.out] at h2
      have S2 := Lib.hid h2.swap.tail.swap
      have c3' : w2.cell? ⟨s, 3, none⟩ = some (.int .i64 ((q + 1 : Nat) : Int)) := S2.out.cellAt 3
      have f3 : w2.frozen? ⟨s, 3, none⟩ = false := S2.out.freeAt 3
      have S3 : Hid (St w0 (w2.setCell ⟨s, 3, none⟩ (.int .i64 (q : Int))) (cellT s (writerObj lo hi o q) :: vecT o v2 (l ++ b :: List.replicate (j + 1) (!b)) :: os)) := S2.out.setWait q
      have HM := Lib.hid (waits_writer S3.out)
      clear h2 S1 S2 HS c2 c3
      go_wp2_with fail
      go_roundw
      case rel => exact ⟨j + 1, v2, by omega, by rw [HQ.out]; exact S3.out⟩
      case measure => rw [HM.out, HW1.out]; omega
    · have hjk : j = k := by omega
      subst hjk
      rw [Nat.sub_self] at c3 HS
      clear hw1
      go_wp2_with fail
      go_end0
      exact ⟨rfl, v', HS.out⟩
end Go.Proofs.Ytgmgbgjghncipaa

