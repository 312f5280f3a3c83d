/- coder's span: mid, take, double. -/
import Derived.Test.YtgmgbgjghncipaaModelOf
namespace Go.Proofs.Ytgmgbgjghncipaa
open Go.RowKit

theorem wrap_nat (n : Nat) (h : n < 18446744073709551616) : IntKind.u64.wrap (n : Int) = (n : Int) := by
  rw [IntKind.wrap_u64]; omega

theorem mid_val (lo hi p1 p2 : Nat) (hg : CoderP.Wide lo hi) (hp : CoderP.Fair (p1, p2)) :
    IntKind.u64.wrap (IntKind.u64.wrap ((lo : Int) + IntKind.u64.wrap ((IntKind.u64.wrap (((hi : Int) - lo + 1) * p1)).tdiv ((p1 : Int) + p2))) - 1) = ((CoderP.mid lo hi (p1, p2) : Nat) : Int) := by
  obtain ⟨hg1, hg2⟩ := hg
  obtain ⟨hf1, hf2, hf3⟩ := hp
  simp only at hf1 hf2 hf3
  obtain ⟨d, hd⟩ : ∃ d, hi - lo + 1 = d := ⟨_, rfl⟩
  have e1 : ((hi : Int) - lo + 1) = (d : Int) := by omega
  have hd1 : d ≤ 4294967296 := by omega
  have hd2 : 65536 ≤ d := by omega
  have hm : d * p1 ≤ 4294967296 * 65536 := Nat.mul_le_mul hd1 (by omega)
  have e2 : ((p1 : Int) + p2) = ((p1 + p2 : Nat) : Int) := by simp
  have hq1 : 1 ≤ d * p1 / (p1 + p2) := by
    rw [Nat.le_div_iff_mul_le (by omega)]
    have : d * 1 ≤ d * p1 := Nat.mul_le_mul_left _ hf1
    omega
  have hq2 : d * p1 / (p1 + p2) ≤ d * p1 := Nat.div_le_self _ _
  unfold CoderP.mid
  simp only [hd]
  have e4 : ((d * p1 : Nat) : Int).tdiv ((p1 + p2 : Nat) : Int) = ((d * p1 / (p1 + p2) : Nat) : Int) := rfl
  rw [e1, e2, ← Int.natCast_mul, wrap_nat _ (by omega), e4]
  generalize d * p1 / (p1 + p2) = q at hq1 hq2 ⊢
  rw [wrap_nat _ (by omega), ← Int.natCast_add, wrap_nat _ (by omega)]
  have e3 : (((lo + q : Nat) : Int) - 1) = ((lo + q - 1 : Nat) : Int) := by omega
  rw [e3, wrap_nat _ (by omega)]

theorem ret_u64 {a b : Int} (h : a = b) : Ending.returned (.int .u64 a) = .returned (.int .u64 b) := by rw [h]

set_option maxHeartbeats 2000000 in
theorem mid_any {w0 w : World} {os : List Thing} (h : St w0 w os) (s lo hi p1 p2 : Nat) (hg : CoderP.Wide lo hi) (hp : CoderP.Fair (p1, p2))
    (c0 : w.cell? ⟨s, 0, none⟩ = some (.int .u64 lo)) (c1 : w.cell? ⟨s, 1, none⟩ = some (.int .u64 hi)) (hs : s < w.heap.size) :
    Calls Try.prog 40 #[.pointer (some ⟨s, 0, none⟩), .agg #[.int .u64 p1, .int .u64 p2]] w fun e w' => e = .returned (.int .u64 ((CoderP.mid lo hi (p1, p2) : Nat) : Int)) ∧ St w0 w' os ∧ Keeps [] w w' := by
  have HV := Lib.hid (mid_val lo hi p1 p2 hg hp)
  obtain ⟨hf1, hf2, hf3⟩ := hp
  obtain ⟨hg1, hg2⟩ := hg
  simp only at hf1 hf2 hf3
  have H := Lib.hid h
  clear h
  go_enter Try.func40, Try.ntmps40
  go_wp2_with fail
  have k0 : (w.alloc (.cells #[.int .u64 p1, .int .u64 p2] 76)).cell? ⟨s, 0, none⟩ = some (.int .u64 lo) := by rw [← c0]; exact (Keeps.nil_below ((Keeps.refl [] w).alloc _)).cell hs
  have k1 : (w.alloc (.cells #[.int .u64 p1, .int .u64 p2] 76)).cell? ⟨s, 1, none⟩ = some (.int .u64 hi) := by rw [← c1]; exact (Keeps.nil_below ((Keeps.refl [] w).alloc _)).cell hs
  have k2 : (w.alloc (.cells #[.int .u64 p1, .int .u64 p2] 76)).cell? ⟨w.heap.size, 0, none⟩ = some (.int .u64 p1) := by unfold World.cell?; rw [heap_alloc_new]; rfl
  have k3 : (w.alloc (.cells #[.int .u64 p1, .int .u64 p2] 76)).cell? ⟨w.heap.size, 1, none⟩ = some (.int .u64 p2) := by unfold World.cell?; rw [heap_alloc_new]; rfl
  have S1 : Hid (St w0 (w.alloc (.cells #[.int .u64 p1, .int .u64 p2] 76)) os ∧ Keeps [] w (w.alloc (.cells #[.int .u64 p1, .int .u64 p2] 76))) := ⟨(H.out.newCell _).tail, (Keeps.refl _ _).alloc _⟩
  generalize w.alloc (.cells #[.int .u64 p1, .int .u64 p2] 76) = W at *
  clear c0 c1
  go_quiet (fail)
  go_wp2
  go_ret
  exact ⟨ret_u64 HV.out, S1.out.1.drewN nq, (S1.out.2).trans (Keeps.drewN W nq) (by simp)⟩

/-- a span, and what stands behind it in one block -/
def spanObj (E : TypeId) (lo hi : Nat) (rest : List Value) : Obj := .cells (Value.int .u64 lo :: .int .u64 hi :: rest).toArray E (0, 0)

theorem St.spanLo {w0 w : World} {os : List Thing} {s : Nat} {E : TypeId} {lo hi : Nat} {rest : List Value} (h : St w0 w (cellT s (spanObj E lo hi rest) :: os)) (x : Nat) :
    St w0 (w.setCell ⟨s, 0, none⟩ (.int .u64 (x : Int))) (cellT s (spanObj E x hi rest) :: os) := by
  have := h.storeCell 0 (.int .u64 (x : Int))
  simpa [spanObj] using this
theorem St.spanHi {w0 w : World} {os : List Thing} {s : Nat} {E : TypeId} {lo hi : Nat} {rest : List Value} (h : St w0 w (cellT s (spanObj E lo hi rest) :: os)) (x : Nat) :
    St w0 (w.setCell ⟨s, 1, none⟩ (.int .u64 (x : Int))) (cellT s (spanObj E lo x rest) :: os) := by
  have := h.storeCell 1 (.int .u64 (x : Int))
  simpa [spanObj] using this
theorem St.spanAt {w0 w : World} {os : List Thing} {s : Nat} {E : TypeId} {lo hi : Nat} {rest : List Value} (h : St w0 w (cellT s (spanObj E lo hi rest) :: os)) :
    w.cell? ⟨s, 0, none⟩ = some (.int .u64 lo) ∧ w.cell? ⟨s, 1, none⟩ = some (.int .u64 hi) ∧ w.frozen? ⟨s, 0, none⟩ = false ∧ w.frozen? ⟨s, 1, none⟩ = false ∧ s < w.heap.size :=
  ⟨h.cellAt 0, h.cellAt 1, h.freeAt 0, h.freeAt 1, (Array.getElem?_eq_some_iff.1 h.block).1⟩

set_option maxHeartbeats 2000000 in
theorem take_any {w0 w : World} {os : List Thing} {s : Nat} {E : TypeId} {lo hi : Nat} {rest : List Value} (h : St w0 w (cellT s (spanObj E lo hi rest) :: os)) (p1 p2 : Nat) (hg : CoderP.Wide lo hi) (hp : CoderP.Fair (p1, p2)) (b : Bool) :
    Calls Try.prog 41 #[.pointer (some ⟨s, 0, none⟩), .agg #[.int .u64 p1, .int .u64 p2], .int .i64 ((b.toNat : Nat) : Int)] w fun e w' => e = .returned (.tuple #[]) ∧
      St w0 w' (cellT s (spanObj E (if b then CoderP.mid lo hi (p1, p2) + 1 else lo) (if b then hi else CoderP.mid lo hi (p1, p2)) rest) :: os) := by
  have hmid : CoderP.mid lo hi (p1, p2) < 4294967296 := by have h1 := CoderP.mid_in hg hp; have h2 := hg.2; omega
  have HM : Hid (∀ W, St w0 W (cellT s (spanObj E lo hi rest) :: os) → Calls Try.prog 40 #[.pointer (some ⟨s, 0, none⟩), .agg #[.int .u64 p1, .int .u64 p2]] W fun e w' => e = .returned (.int .u64 ((CoderP.mid lo hi (p1, p2) : Nat) : Int)) ∧ St w0 w' (cellT s (spanObj E lo hi rest) :: os)) := fun W hW =>
    (mid_any hW s lo hi p1 p2 hg hp hW.spanAt.1 hW.spanAt.2.1 hW.spanAt.2.2.2.2).mono fun _ _ ⟨a, b, _⟩ => ⟨a, b⟩
  have H := Lib.hid h
  clear h hg hp
  generalize CoderP.mid lo hi (p1, p2) = md at hmid HM ⊢
  go_enter Try.func41, Try.ntmps41
  go_wp2_with fail
  refine (HM.out _ (H.out.newCell _).tail).mono ?_
  rintro e w1 ⟨rfl, h1⟩
  have c0 := h1.spanAt.1
  have c1 := h1.spanAt.2.1
  have f0 := h1.spanAt.2.2.1
  have f1 := h1.spanAt.2.2.2.1
  have H1 := Lib.hid h1
  clear h1 H HM
  cases b
  · have S1 : Hid (St w0 (w1.setCell ⟨s, 1, none⟩ (.int .u64 (md : Int))) (cellT s (spanObj E lo md rest) :: os)) := H1.out.spanHi md
    go_wp2
    go_end0
    exact ⟨rfl, S1.out⟩
  · have S1 : Hid (St w0 (w1.setCell ⟨s, 0, none⟩ (.int .u64 ((md : Int) + 1))) (cellT s (spanObj E (md + 1) hi rest) :: os)) := H1.out.spanLo (md + 1)
    go_wp2
    go_end0
    exact ⟨rfl, S1.out⟩

theorem dbl_lo (x q : Nat) (h1 : q ≤ x) (h2 : x < 4294967296) : IntKind.u64.wrap (2 * IntKind.u64.wrap ((x : Int) - (q : Int))) = ((2 * (x - q) : Nat) : Int) := by
  rw [show ((x : Int) - (q : Int)) = ((x - q : Nat) : Int) by omega, wrap_nat _ (by omega)]
  rw [show (2 : Int) * ((x - q : Nat) : Int) = ((2 * (x - q) : Nat) : Int) by omega, wrap_nat _ (by omega)]
theorem dbl_hi (x q : Nat) (h1 : q ≤ x) (h2 : x < 4294967296) : IntKind.u64.wrap (IntKind.u64.wrap (2 * IntKind.u64.wrap ((x : Int) - (q : Int))) + 1) = ((2 * (x - q) + 1 : Nat) : Int) := by
  rw [dbl_lo x q h1 h2, show ((2 * (x - q) : Nat) : Int) + 1 = ((2 * (x - q) + 1 : Nat) : Int) by omega, wrap_nat _ (by omega)]

set_option maxRecDepth 100000 in
theorem double_none {w0 w : World} {os : List Thing} {s : Nat} {E : TypeId} {lo hi : Nat} {rest : List Value} (h : St w0 w (cellT s (spanObj E lo hi rest) :: os)) (hd : CoderP.dbl lo hi = none) :
    Calls Try.prog 43 #[.pointer (some ⟨s, 0, none⟩)] w fun e w' => e = .returned (.int .i64 0) ∧ w = w' := by
  have c0 := h.spanAt.1
  have c1 := h.spanAt.2.1
  unfold CoderP.dbl at hd
  have h1 : ¬ hi < 2147483648 := by intro h; simp [h] at hd
  have h2 : ¬ 2147483648 ≤ lo := by intro h; simp [h1, h] at hd
  have h3 : ¬ (1073741824 ≤ lo ∧ hi < 3221225472) := by intro h; simp [h1, h2, h] at hd
  clear hd h
  have d1 : decide ((hi : Int) < 2147483648) = false := decide_eq_false (by omega)
  have d2 : decide ((2147483648 : Int) ≤ (lo : Int)) = false := decide_eq_false (by omega)
  by_cases h4 : 1073741824 ≤ lo
  · have h5 : ¬ hi < 3221225472 := fun h => h3 ⟨h4, h⟩
    have d3 : decide ((1073741824 : Int) ≤ (lo : Int)) = true := decide_eq_true (by omega)
    have d4 : decide ((hi : Int) < 3221225472) = false := decide_eq_false (by omega)
    clear h1 h2 h3 h4 h5
    go_enter Try.func43, Try.ntmps43
    go_wp2
    go_ret
    exact ⟨rfl, rfl⟩
  · have d3 : decide ((1073741824 : Int) ≤ (lo : Int)) = false := decide_eq_false (by omega)
    clear h1 h2 h3 h4
    go_enter Try.func43, Try.ntmps43
    go_wp2
    go_ret
    exact ⟨rfl, rfl⟩

set_option maxRecDepth 100000 in
set_option maxHeartbeats 2000000 in
theorem double_some {w0 w : World} {os : List Thing} {s : Nat} {E : TypeId} {lo hi v l u : Nat} {rest : List Value} (h : St w0 w (cellT s (spanObj E lo hi rest) :: os)) (hg : CoderP.Good lo hi) (hd : CoderP.dbl lo hi = some (v, l, u)) :
    Calls Try.prog 43 #[.pointer (some ⟨s, 0, none⟩)] w fun e w' => e = .returned (.int .i64 v) ∧ St w0 w' (cellT s (spanObj E l u rest) :: os) := by
  have c0 := h.spanAt.1
  have c1 := h.spanAt.2.1
  have f0 := h.spanAt.2.2.1
  have f1 := h.spanAt.2.2.2.1
  obtain ⟨hg1, hg2⟩ := hg
  have H := Lib.hid h
  unfold CoderP.dbl at hd
  clear h
  have hlo64 : lo < 4294967296 := by omega
  by_cases h1 : hi < 2147483648
  · rw [if_pos h1] at hd
    simp only [Option.some.injEq, Prod.mk.injEq] at hd
    obtain ⟨rfl, rfl, rfl⟩ := hd
    have d1 : decide ((hi : Int) < 2147483648) = true := decide_eq_true (by omega)
    have B := Lib.hid (And.intro hg1 h1)
    clear h1 hg1 hg2 hlo64
    go_enter Try.func43, Try.ntmps43
    go_wp2_with fail
    go_region
    have S1 : Hid (St w0 (((w.setCell ⟨s, 0, none⟩ (.int .u64 (IntKind.u64.wrap (2 * IntKind.u64.wrap (lo : Int))))).setCell ⟨s, 1, none⟩ (.int .u64 (IntKind.u64.wrap (IntKind.u64.wrap (2 * IntKind.u64.wrap (hi : Int)) + 1)))).drew) (cellT s (spanObj E (2 * lo) (2 * hi + 1) rest) :: os)) := by
      have b := B.out
      have e1 := dbl_lo lo 0 (by omega) (by omega)
      have e2 := dbl_hi hi 0 (by omega) (by omega)
      simp only [Int.natCast_zero, Int.sub_zero, Nat.sub_zero] at e1 e2
      rw [e1, e2]
      exact ((H.out.spanLo _).spanHi _).drew
    go_wp2
    go_ret
    exact ⟨rfl, S1.out⟩
  · rw [if_neg h1] at hd
    have d1 : decide ((hi : Int) < 2147483648) = false := decide_eq_false (by omega)
    by_cases h2 : 2147483648 ≤ lo
    · rw [if_pos h2] at hd
      simp only [Option.some.injEq, Prod.mk.injEq] at hd
      obtain ⟨rfl, rfl, rfl⟩ := hd
      have d2 : decide ((2147483648 : Int) ≤ (lo : Int)) = true := decide_eq_true (by omega)
      have B := Lib.hid (And.intro hg1 (And.intro h2 hg2))
      clear h1 h2 hg1 hg2 hlo64
      go_enter Try.func43, Try.ntmps43
      go_wp2_with fail
      go_region
      have S1 : Hid (St w0 (((w.setCell ⟨s, 0, none⟩ (.int .u64 (IntKind.u64.wrap (2 * IntKind.u64.wrap ((lo : Int) - 2147483648))))).setCell ⟨s, 1, none⟩ (.int .u64 (IntKind.u64.wrap (IntKind.u64.wrap (2 * IntKind.u64.wrap ((hi : Int) - 2147483648)) + 1)))).drew) (cellT s (spanObj E (2 * (lo - 2147483648)) (2 * (hi - 2147483648) + 1) rest) :: os)) := by
        have b := B.out
        have e1 : (IntKind.u64.wrap (2 * IntKind.u64.wrap ((lo : Int) - 2147483648))) = ((2 * (lo - 2147483648) : Nat) : Int) := dbl_lo lo 2147483648 (by omega) (by omega)
        have e2 : (IntKind.u64.wrap (IntKind.u64.wrap (2 * IntKind.u64.wrap ((hi : Int) - 2147483648)) + 1)) = ((2 * (hi - 2147483648) + 1 : Nat) : Int) := dbl_hi hi 2147483648 (by omega) (by omega)
        rw [e1, e2]
        exact ((H.out.spanLo _).spanHi _).drew
      go_wp2
      go_ret
      exact ⟨rfl, S1.out⟩
    · rw [if_neg h2] at hd
      have d2 : decide ((2147483648 : Int) ≤ (lo : Int)) = false := decide_eq_false (by omega)
      by_cases h3 : 1073741824 ≤ lo ∧ hi < 3221225472
      · rw [if_pos h3] at hd
        simp only [Option.some.injEq, Prod.mk.injEq] at hd
        obtain ⟨rfl, rfl, rfl⟩ := hd
        obtain ⟨h3, h4⟩ := h3
        have d3 : decide ((1073741824 : Int) ≤ (lo : Int)) = true := decide_eq_true (by omega)
        have d4 : decide ((hi : Int) < 3221225472) = true := decide_eq_true (by omega)
        have B := Lib.hid (And.intro hg1 (And.intro h3 h4))
        clear h1 h2 h3 h4 hg1 hg2 hlo64
        go_enter Try.func43, Try.ntmps43
        go_wp2_with fail
        go_region
        have S1 : Hid (St w0 (((w.setCell ⟨s, 0, none⟩ (.int .u64 (IntKind.u64.wrap (2 * IntKind.u64.wrap ((lo : Int) - 1073741824))))).setCell ⟨s, 1, none⟩ (.int .u64 (IntKind.u64.wrap (IntKind.u64.wrap (2 * IntKind.u64.wrap ((hi : Int) - 1073741824)) + 1)))).drew) (cellT s (spanObj E (2 * (lo - 1073741824)) (2 * (hi - 1073741824) + 1) rest) :: os)) := by
          have b := B.out
          have e1 : (IntKind.u64.wrap (2 * IntKind.u64.wrap ((lo : Int) - 1073741824))) = ((2 * (lo - 1073741824) : Nat) : Int) := dbl_lo lo 1073741824 (by omega) (by omega)
          have e2 : (IntKind.u64.wrap (IntKind.u64.wrap (2 * IntKind.u64.wrap ((hi : Int) - 1073741824)) + 1)) = ((2 * (hi - 1073741824) + 1 : Nat) : Int) := dbl_hi hi 1073741824 (by omega) (by omega)
          rw [e1, e2]
          exact ((H.out.spanLo _).spanHi _).drew
        go_wp2
        go_ret
        exact ⟨rfl, S1.out⟩
      · rw [if_neg h3] at hd
        cases hd
end Go.Proofs.Ytgmgbgjghncipaa

