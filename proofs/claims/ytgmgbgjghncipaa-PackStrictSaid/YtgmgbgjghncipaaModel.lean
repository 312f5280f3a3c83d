/- coder's model in memory: of, see. -/
import Derived.Test.YtgmgbgjghncipaaRefOut
import Derived.Test.YtgmgbgjghncipaaCoderP
namespace Go.Proofs.Ytgmgbgjghncipaa
open Go.RowKit

/-- cell j of some counts -/
def cc (c : Nat → Nat × Nat) (j : Nat) : Nat := if j % 2 = 0 then (c (j / 2)).1 else (c (j / 2)).2
def cnt (c : Nat → Nat × Nat) (n : Nat) : Array Value := ((List.range (2 * n)).map fun j => Value.int .u64 ((cc c j : Nat) : Int)).toArray
def cntObj (c : Nat → Nat × Nat) (n : Nat) : Obj := .cells (cnt c n) 76 (0, 0)
def modelObj (g n now : Nat) : Obj := .cells #[.slice (some ⟨g, 0, none⟩) n n, .int .u64 now] 79 (0, 0)

theorem cnt_get (c : Nat → Nat × Nat) (n j : Nat) (h : j < 2 * n) : (cnt c n)[j]? = some (.int .u64 ((cc c j : Nat) : Int)) := by
  simp [cnt, h]

theorem cnt_set (c c' : Nat → Nat × Nat) (n j : Nat) (h : ∀ i, i ≠ j → cc c' i = cc c i) : (cnt c n).setIfInBounds j (.int .u64 ((cc c' j : Nat) : Int)) = cnt c' n := by
  apply Array.ext_getElem?
  intro i
  rw [Array.getElem?_setIfInBounds]
  by_cases hi : i < 2 * n
  · rw [cnt_get _ _ _ hi, cnt_get _ _ _ hi]
    by_cases he : j = i
    · subst he; simp [cnt, hi]
    · rw [if_neg he, h i (fun e => he e.symm)]
  · have h1 : (cnt c n)[i]? = none := by simp [cnt]; omega
    have h2 : (cnt c' n)[i]? = none := by simp [cnt]; omega
    rw [h1, h2]
    split <;> (try split) <;> first | rfl | (exfalso; simp [cnt] at *; omega)

def setc (c : Nat → Nat × Nat) (x : Nat) (q : Nat × Nat) : Nat → Nat × Nat := fun y => if y = x then q else c y
theorem upd_setc (c : Nat → Nat × Nat) (x : Nat) (b : Bool) : CoderP.upd c x b = setc c x (CoderP.bump (c x) b) := rfl
theorem setc_at (c : Nat → Nat × Nat) (x : Nat) (q : Nat × Nat) : setc c x q x = q := by simp [setc]
theorem setc_setc (c : Nat → Nat × Nat) (x : Nat) (q r : Nat × Nat) : setc (setc c x q) x r = setc c x r := by
  funext y; unfold setc; split <;> rfl

theorem cc_lo (c : Nat → Nat × Nat) (x : Nat) : cc c (x * 2) = (c x).1 := by simp [cc]
theorem cc_hi (c : Nat → Nat × Nat) (x : Nat) : cc c (x * 2 + 1) = (c x).2 := by
  simp [cc, show (x * 2 + 1) / 2 = x by omega, show ¬ (x * 2 + 1) % 2 = 0 by omega]

theorem cnt_lo (c : Nat → Nat × Nat) (n x a : Nat) : (cnt c n).setIfInBounds (x * 2) (.int .u64 (a : Int)) = cnt (setc c x (a, (c x).2)) n := by
  rw [← cnt_set c (setc c x (a, (c x).2)) n (x * 2), cc_lo, setc_at]
  intro i hi
  unfold cc setc
  by_cases h : i / 2 = x
  · have : ¬ i % 2 = 0 := by omega
    simp [h, this]
  · simp [h]

theorem cnt_hi (c : Nat → Nat × Nat) (n x a : Nat) : (cnt c n).setIfInBounds (x * 2 + 1) (.int .u64 (a : Int)) = cnt (setc c x ((c x).1, a)) n := by
  rw [← cnt_set c (setc c x ((c x).1, a)) n (x * 2 + 1), cc_hi, setc_at]
  intro i hi
  unfold cc setc
  by_cases h : i / 2 = x
  · have : i % 2 = 0 := by omega
    simp [h, this]
  · simp [h]

theorem St.setLo {w0 w : World} {os : List Thing} {g n : Nat} {c : Nat → Nat × Nat} (h : St w0 w (cellT g (cntObj c n) :: os)) (x a : Nat) :
    St w0 (w.setCell ⟨g, x * 2, none⟩ (.int .u64 (a : Int))) (cellT g (cntObj (setc c x (a, (c x).2)) n) :: os) := by
  have := h.storeCell (x * 2) (.int .u64 (a : Int))
  rw [cnt_lo] at this
  exact this
theorem St.setHi {w0 w : World} {os : List Thing} {g n : Nat} {c : Nat → Nat × Nat} (h : St w0 w (cellT g (cntObj c n) :: os)) (x a : Nat) :
    St w0 (w.setCell ⟨g, x * 2 + 1, none⟩ (.int .u64 (a : Int))) (cellT g (cntObj (setc c x ((c x).1, a)) n) :: os) := by
  have := h.storeCell (x * 2 + 1) (.int .u64 (a : Int))
  rw [cnt_hi] at this
  exact this

theorem St.cntLo {w0 w : World} {os : List Thing} {g n x : Nat} {c : Nat → Nat × Nat} (h : St w0 w (cellT g (cntObj c n) :: os)) (hx : x < n) : w.cell? ⟨g, x * 2, none⟩ = some (.int .u64 ((c x).1 : Nat)) := by
  rw [h.cellAt (x * 2), cnt_get _ _ _ (by omega), cc_lo]
theorem St.cntHi {w0 w : World} {os : List Thing} {g n x : Nat} {c : Nat → Nat × Nat} (h : St w0 w (cellT g (cntObj c n) :: os)) (hx : x < n) : w.cell? ⟨g, x * 2 + 1, none⟩ = some (.int .u64 ((c x).2 : Nat)) := by
  rw [h.cellAt (x * 2 + 1), cnt_get _ _ _ (by omega), cc_hi]

set_option maxHeartbeats 2000000 in
theorem see_any {w0 w : World} {os : List Thing} {m g n now : Nat} {c : Nat → Nat × Nat} (h : St w0 w (cellT m (modelObj g n now) :: cellT g (cntObj c n) :: os)) (hnow : now < n) (hn : n ≤ 256) (hc : CoderP.Fair (c now)) (b : Bool) :
    Calls Try.prog 42 #[.pointer (some ⟨m, 0, none⟩), .int .i64 ((b.toNat : Nat) : Int)] w fun e w' => e = .returned (.tuple #[]) ∧
      St w0 w' (cellT m (modelObj g n ((2 * now + b.toNat) % n)) :: cellT g (cntObj (CoderP.upd c now b) n) :: os) := by
  have c0 : w.cell? ⟨m, 0, none⟩ = some (.slice (some ⟨g, 0, none⟩) n n) := h.cellAt 0
  have c1 : w.cell? ⟨m, 1, none⟩ = some (.int .u64 now) := h.cellAt 1
  have H := Lib.hid (h.swap)
  have HU := Lib.hid (upd_setc c now b)
  obtain ⟨p, hp⟩ : ∃ p, c now = p := ⟨_, rfl⟩
  rw [hp] at hc
  have HP := Lib.hid hp
  obtain ⟨p1, p2⟩ := p
  obtain ⟨hf1, hf2, hf3⟩ := hc
  simp only at hf1 hf2 hf3
  clear h hp
  cases b
  · go_enter Try.func42, Try.ntmps42
    go_wp2_with fail
    go_quiet (fail)
    have S1 := Lib.hid (H.out.drewN nq)
    clear c0 c1 H
    generalize w.drewN nq = W1 at S1 ⊢
    have k0 : W1.cell? ⟨g, now * 2, none⟩ = some (.int .u64 (p1 : Nat)) := by rw [S1.out.cntLo hnow, HP.out]
    have f0 : W1.frozen? ⟨g, now * 2, none⟩ = false := S1.out.freeAt _
    go_wp2_with fail
    go_region
    have S2 : Hid (St w0 ((W1.setCell ⟨g, now * 2, none⟩ (.int .u64 ((p1 : Int) + 1))).drew) (cellT g (cntObj (setc c now (p1 + 1, p2)) n) :: cellT m (modelObj g n now) :: os)) := by
      have := (S1.out.setLo now (p1 + 1)).drew
      rw [HP.out] at this
      exact this
    clear S1 k0 f0
    generalize (W1.setCell ⟨g, now * 2, none⟩ (.int .u64 ((p1 : Int) + 1))).drew = W2 at S2 ⊢
    have k0 : W2.cell? ⟨g, now * 2, none⟩ = some (.int .u64 ((p1 + 1 : Nat) : Int)) := by rw [S2.out.cntLo hnow, setc_at]
    have k1 : W2.cell? ⟨g, now * 2 + 1, none⟩ = some (.int .u64 ((p2 : Nat) : Int)) := by rw [S2.out.cntHi hnow, setc_at]
    by_cases hs : p1 + 1 + (p2) = 65536
    · have HB : Hid (CoderP.upd c now false = setc c now ((p1 + 1 + 1) / 2, (p2 + 1) / 2)) := by
        show _ = _
        rw [HU.out, HP.out]; simp [CoderP.bump, hs]
      go_wp2_with fail
      go_quiet (fail)
      have S3 := Lib.hid (S2.out.drewN nq)
      clear k0 k1 S2
      generalize W2.drewN nq = W3 at S3 ⊢
      have k0 : W3.cell? ⟨g, now * 2, none⟩ = some (.int .u64 ((p1 + 1 : Nat) : Int)) := by rw [S3.out.cntLo hnow, setc_at]
      have k1 : W3.cell? ⟨g, now * 2 + 1, none⟩ = some (.int .u64 ((p2 : Nat) : Int)) := by rw [S3.out.cntHi hnow, setc_at]
      have f0 : W3.frozen? ⟨g, now * 2, none⟩ = false := S3.out.freeAt _
      have f1 : W3.frozen? ⟨g, now * 2 + 1, none⟩ = false := S3.out.freeAt _
      go_wp2_with fail
      go_region
      have S4 : Hid (St w0 (((W3.setCell ⟨g, now * 2, none⟩ (.int .u64 (((p1 : Int) + 1 + 1) / 2))).setCell ⟨g, now * 2 + 1, none⟩ (.int .u64 (((p2 : Int) + 1) / 2))).drew) (cellT m (modelObj g n now) :: cellT g (cntObj (CoderP.upd c now false) n) :: os)) := by
        have := ((S3.out.setLo now ((p1 + 1 + 1) / 2)).setHi now ((p2 + 1) / 2)).drew.swap
        rw [setc_setc, setc_at, setc_setc, ← HB.out] at this
        exact this
      clear S3 k0 k1 f0 f1
      generalize ((W3.setCell ⟨g, now * 2, none⟩ (.int .u64 (((p1 : Int) + 1 + 1) / 2))).setCell ⟨g, now * 2 + 1, none⟩ (.int .u64 (((p2 : Int) + 1) / 2))).drew = W4 at S4 ⊢
      have c0 : W4.cell? ⟨m, 0, none⟩ = some (.slice (some ⟨g, 0, none⟩) n n) := S4.out.cellAt 0
      have c1 : W4.cell? ⟨m, 1, none⟩ = some (.int .u64 now) := S4.out.cellAt 1
      have f1 : W4.frozen? ⟨m, 1, none⟩ = false := S4.out.freeAt _
      go_wp2_with fail
      go_region
      have S5 : Hid (St w0 ((W4.setCell ⟨m, 1, none⟩ (.int .u64 (2 * (now : Int) % (n : Int)))).drew) (cellT m (modelObj g n ((2 * now + 0) % n)) :: cellT g (cntObj (CoderP.upd c now false) n) :: os)) :=
        (S4.out.storeCell 1 (.int .u64 (((2 * now + 0) % n : Nat) : Int))).drew
      go_end0
      exact ⟨rfl, S5.out⟩
    · have HB : Hid (CoderP.upd c now false = setc c now (p1 + 1, p2)) := by
        show _ = _
        rw [HU.out, HP.out]; simp [CoderP.bump, hs]
      go_wp2_with fail
      go_quiet (fail)
      have S3 := Lib.hid (S2.out.drewN nq).swap
      rw [← HB.out] at S3
      clear k0 k1 S2
      generalize W2.drewN nq = W3 at S3 ⊢
      have c0 : W3.cell? ⟨m, 0, none⟩ = some (.slice (some ⟨g, 0, none⟩) n n) := S3.out.cellAt 0
      have c1 : W3.cell? ⟨m, 1, none⟩ = some (.int .u64 now) := S3.out.cellAt 1
      have f1 : W3.frozen? ⟨m, 1, none⟩ = false := S3.out.freeAt _
      go_wp2_with fail
      go_region
      have S4 : Hid (St w0 ((W3.setCell ⟨m, 1, none⟩ (.int .u64 (2 * (now : Int) % (n : Int)))).drew) (cellT m (modelObj g n ((2 * now + 0) % n)) :: cellT g (cntObj (CoderP.upd c now false) n) :: os)) :=
        (S3.out.storeCell 1 (.int .u64 (((2 * now + 0) % n : Nat) : Int))).drew
      go_end0
      exact ⟨rfl, S4.out⟩
  · go_enter Try.func42, Try.ntmps42
    go_wp2_with fail
    go_quiet (fail)
    have S1 := Lib.hid (H.out.drewN nq)
    clear c0 c1 H
    generalize w.drewN nq = W1 at S1 ⊢
    have k0 : W1.cell? ⟨g, now * 2 + 1, none⟩ = some (.int .u64 (p2 : Nat)) := by rw [S1.out.cntHi hnow, HP.out]
    have f0 : W1.frozen? ⟨g, now * 2 + 1, none⟩ = false := S1.out.freeAt _
    go_wp2_with fail
    go_region
    have S2 : Hid (St w0 ((W1.setCell ⟨g, now * 2 + 1, none⟩ (.int .u64 ((p2 : Int) + 1))).drew) (cellT g (cntObj (setc c now (p1, p2 + 1)) n) :: cellT m (modelObj g n now) :: os)) := by
      have := (S1.out.setHi now (p2 + 1)).drew
      rw [HP.out] at this
      exact this
    clear S1 k0 f0
    generalize (W1.setCell ⟨g, now * 2 + 1, none⟩ (.int .u64 ((p2 : Int) + 1))).drew = W2 at S2 ⊢
    have k0 : W2.cell? ⟨g, now * 2, none⟩ = some (.int .u64 ((p1 : Nat) : Int)) := by rw [S2.out.cntLo hnow, setc_at]
    have k1 : W2.cell? ⟨g, now * 2 + 1, none⟩ = some (.int .u64 ((p2 + 1 : Nat) : Int)) := by rw [S2.out.cntHi hnow, setc_at]
    by_cases hs : p1 + (p2 + 1) = 65536
    · have HB : Hid (CoderP.upd c now true = setc c now ((p1 + 1) / 2, (p2 + 1 + 1) / 2)) := by
        show _ = _
        rw [HU.out, HP.out]; simp [CoderP.bump, hs]
      go_wp2_with fail
      go_quiet (fail)
      have S3 := Lib.hid (S2.out.drewN nq)
      clear k0 k1 S2
      generalize W2.drewN nq = W3 at S3 ⊢
      have k0 : W3.cell? ⟨g, now * 2, none⟩ = some (.int .u64 ((p1 : Nat) : Int)) := by rw [S3.out.cntLo hnow, setc_at]
      have k1 : W3.cell? ⟨g, now * 2 + 1, none⟩ = some (.int .u64 ((p2 + 1 : Nat) : Int)) := by rw [S3.out.cntHi hnow, setc_at]
      have f0 : W3.frozen? ⟨g, now * 2, none⟩ = false := S3.out.freeAt _
      have f1 : W3.frozen? ⟨g, now * 2 + 1, none⟩ = false := S3.out.freeAt _
      go_wp2_with fail
      go_region
      have S4 : Hid (St w0 (((W3.setCell ⟨g, now * 2, none⟩ (.int .u64 (((p1 : Int) + 1) / 2))).setCell ⟨g, now * 2 + 1, none⟩ (.int .u64 (((p2 : Int) + 1 + 1) / 2))).drew) (cellT m (modelObj g n now) :: cellT g (cntObj (CoderP.upd c now true) n) :: os)) := by
        have := ((S3.out.setLo now ((p1 + 1) / 2)).setHi now ((p2 + 1 + 1) / 2)).drew.swap
        rw [setc_setc, setc_at, setc_setc, ← HB.out] at this
        exact this
      clear S3 k0 k1 f0 f1
      generalize ((W3.setCell ⟨g, now * 2, none⟩ (.int .u64 (((p1 : Int) + 1) / 2))).setCell ⟨g, now * 2 + 1, none⟩ (.int .u64 (((p2 : Int) + 1 + 1) / 2))).drew = W4 at S4 ⊢
      have c0 : W4.cell? ⟨m, 0, none⟩ = some (.slice (some ⟨g, 0, none⟩) n n) := S4.out.cellAt 0
      have c1 : W4.cell? ⟨m, 1, none⟩ = some (.int .u64 now) := S4.out.cellAt 1
      have f1 : W4.frozen? ⟨m, 1, none⟩ = false := S4.out.freeAt _
      go_wp2_with fail
      go_region
      have S5 : Hid (St w0 ((W4.setCell ⟨m, 1, none⟩ (.int .u64 ((2 * (now : Int) + 1) % (n : Int)))).drew) (cellT m (modelObj g n ((2 * now + 1) % n)) :: cellT g (cntObj (CoderP.upd c now true) n) :: os)) :=
        (S4.out.storeCell 1 (.int .u64 (((2 * now + 1) % n : Nat) : Int))).drew
      go_end0
      exact ⟨rfl, S5.out⟩
    · have HB : Hid (CoderP.upd c now true = setc c now (p1, p2 + 1)) := by
        show _ = _
        rw [HU.out, HP.out]; simp [CoderP.bump, hs]
      go_wp2_with fail
      go_quiet (fail)
      have S3 := Lib.hid (S2.out.drewN nq).swap
      rw [← HB.out] at S3
      clear k0 k1 S2
      generalize W2.drewN nq = W3 at S3 ⊢
      have c0 : W3.cell? ⟨m, 0, none⟩ = some (.slice (some ⟨g, 0, none⟩) n n) := S3.out.cellAt 0
      have c1 : W3.cell? ⟨m, 1, none⟩ = some (.int .u64 now) := S3.out.cellAt 1
      have f1 : W3.frozen? ⟨m, 1, none⟩ = false := S3.out.freeAt _
      go_wp2_with fail
      go_region
      have S4 : Hid (St w0 ((W3.setCell ⟨m, 1, none⟩ (.int .u64 ((2 * (now : Int) + 1) % (n : Int)))).drew) (cellT m (modelObj g n ((2 * now + 1) % n)) :: cellT g (cntObj (CoderP.upd c now true) n) :: os)) :=
        (S3.out.storeCell 1 (.int .u64 (((2 * now + 1) % n : Nat) : Int))).drew
      go_end0
      exact ⟨rfl, S4.out⟩
end Go.Proofs.Ytgmgbgjghncipaa

