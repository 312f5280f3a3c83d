/- A slice of acts that came in. -/
import Derived.Test.YtpepihciaendlaaLike
import Derived.Deep.Slices
import Derived.Lib.SmallJoins
namespace Go.Proofs.Ytpepihciaendlaa
open Go.RowKit

/-- one act: what to do, bits, a number and how many bits of it -/
structure ActI where
  d : Nat
  bits : List Int
  x : Nat
  k : Int

/-- A slice of acts that came in: of each its four cells, and the bits that the second one holds. -/
def IsActs (w : World) (a : Option Addr) (len cap : Nat) : Prop :=
  (len = 0 ∧ cap ≤ maxLen) ∨ ∃ (b off : Nat) (f : Nat → ActI) (A : Nat → Option Addr) (C : Nat → Nat), a = some ⟨b, off, none⟩ ∧ len ≤ cap ∧ cap ≤ maxLen ∧ ∀ i, i < len →
    w.cell? ⟨b, off + i * 4, none⟩ = some (.int .u8 ((f i).d : Int)) ∧ w.cell? ⟨b, off + i * 4 + 1, none⟩ = some (.slice (A i) (f i).bits.length (C i)) ∧
    w.cell? ⟨b, off + i * 4 + 2, none⟩ = some (.int .u64 ((f i).x : Int)) ∧ w.cell? ⟨b, off + i * 4 + 3, none⟩ = some (.int .i64 (f i).k) ∧
    Reads w (.slice (A i) (f i).bits.length (C i)) (intsOf (f i).bits) ∧ (f i).d < 256 ∧ (f i).x < 18446744073709551616 ∧ (f i).bits.length ≤ maxLen ∧ (Lit.int .i64 (f i).k).wf = true

theorem acts_of_trod {H : Type} {enc : TypeId × Value → H} {W : World} {fuel : Nat} {a0 : Option Addr} {len0 cap0 : Nat} {held : Bool} {x : DataW H × List MemPlace}
    (hf : DataW.trod enc Try.prog W 0 (fun _ => true) held fuel 52 (Value.slice a0 len0 cap0).cells.toList = some x) : IsActs W a0 len0 cap0 := by
  have cc : Try.prog.cellsOf 54 = 4 := by kernel_rfl
  rcases Deep.open_slice Try.underlying52 hf with ⟨hcs, _⟩ | ⟨a, len, cap, m, n, D, Pl, hcs, _, hl, hm, hmm, _, hx⟩
  · simp [Value.cells] at hcs
    exact .inl ⟨hcs.2.1, by rw [hcs.2.2]; decide⟩
  · simp [Value.cells] at hcs
    obtain ⟨rfl, rfl, rfl⟩ := hcs
    simp only [if_true] at hmm
    subst hmm
    rw [cc] at hx
    by_cases h0 : len0 = 0
    · exact .inl ⟨h0, hm⟩
    have each : ∀ i, ∃ (y : ActI) (A : Option Addr) (C : Nat), i < m → W.cell? (a.add (i * 4)) = some (.int .u8 (y.d : Int)) ∧ W.cell? ((a.add (i * 4)).add 1) = some (.slice A y.bits.length C) ∧
        W.cell? ((a.add (i * 4)).add 2) = some (.int .u64 (y.x : Int)) ∧ W.cell? ((a.add (i * 4)).add 3) = some (.int .i64 y.k) ∧ Reads W (.slice A y.bits.length C) (intsOf y.bits) ∧ y.d < 256 ∧ y.x < 18446744073709551616 ∧ y.bits.length ≤ maxLen ∧ (Lit.int .i64 y.k).wf = true := by
      intro i
      by_cases hi : i < m
      · obtain ⟨cs', h1, h2⟩ := hx i hi
        obtain ⟨_, hl4, hcell⟩ := World.cells?_some h1
        obtain ⟨y0, y1, y2, y3, n', _, _, t0, t1, t2, t3⟩ := Joins.trod_struct4 Try.underlying54 h2
        match cs', hl4 with
        | [c0, c1, c2, c3], _ =>
          have u0 : DataW.trod enc Try.prog W 0 (fun _ => true) held n' 5 [c0] = some y0 := t0
          have u1 : DataW.trod enc Try.prog W 0 (fun _ => true) held n' 23 [c1] = some y1 := t1
          have u2 : DataW.trod enc Try.prog W 0 (fun _ => true) held n' 31 [c2] = some y2 := t2
          have u3 : DataW.trod enc Try.prog W 0 (fun _ => true) held n' 3 [c3] = some y3 := t3
          obtain ⟨N0, g0, _, wf0⟩ := DataW.trod_int Try.underlying5 u0
          obtain ⟨N2, g2, _, wf2⟩ := DataW.trod_int Try.underlying31 u2
          obtain ⟨N3, g3, _, wf3⟩ := DataW.trod_int Try.underlying3 u3
          simp only [List.cons.injEq, and_true] at g0 g2 g3
          subst g0 g2 g3
          have hc1 : ∃ (A : Option Addr) (l c : Nat), c1 = .slice A l c := by
            rcases Go.ChangeShapes.open_ints Try.underlying23 Try.underlying3 (by kernel_rfl) u1 with ⟨hcs, _⟩ | ⟨a', l', c', zs, hcs, _⟩
            · simp only [List.cons.injEq, and_true] at hcs; exact ⟨_, _, _, hcs⟩
            · simp only [List.cons.injEq, and_true] at hcs; exact ⟨_, _, _, hcs⟩
          obtain ⟨A, l, c, rfl⟩ := hc1
          obtain ⟨zs, hz⟩ := row_of_trod (a0 := A) (len0 := l) (cap0 := c) Try.underlying23 Try.underlying3 (by kernel_rfl) u1
          obtain ⟨r1, r2, r3, r4, r5⟩ := hz.reads
          have hw0 := wf_u8 wf0
          have hw2 := wf_u64 wf2
          refine ⟨⟨N0.toNat, zs.take l, N2.toNat, N3⟩, A, c, fun _ => ⟨?_, ?_, ?_, ?_, ?_, ?_, ?_, ?_, wf3⟩⟩
          · have := hcell 0 (by omega)
            rw [show (a.add (i * 4)).add 0 = a.add (i * 4) by simp [Addr.add]] at this
            rw [this]; simp; omega
          · have := hcell 1 (by omega)
            rw [this, r2]; rfl
          · have := hcell 2 (by omega)
            rw [this]; simp; omega
          · have := hcell 3 (by omega)
            rw [this]; rfl
          · simp only [r2]; exact r1
          · simp only; omega
          · simp only; omega
          · simp only [r2]; exact r3
      · exact ⟨⟨0, [], 0, 0⟩, none, 0, fun h => absurd h hi⟩
    obtain ⟨f, hf2⟩ := Classical.axiomOfChoice each
    obtain ⟨A, hA⟩ := Classical.axiomOfChoice hf2
    obtain ⟨C, hC⟩ := Classical.axiomOfChoice hA
    obtain ⟨b, off, spot⟩ := a
    have hspot : spot = none := by
      have h1 := (hC 0 (by omega)).1
      simpa [Addr.add] using World.cell?_spot h1
    subst hspot
    refine .inr ⟨b, off, f, A, C, rfl, hl, hm, fun i hi => ?_⟩
    obtain ⟨k0, k1, k2, k3, k4⟩ := hC i (by omega)
    have e0 : ∀ j, (⟨b, off, none⟩ : Addr).add j = ⟨b, off + j, none⟩ := fun j => by unfold Addr.add; split <;> simp_all
    have e1 : ∀ (o j : Nat), (⟨b, o, none⟩ : Addr).add j = ⟨b, o + j, none⟩ := fun o j => by unfold Addr.add; split <;> simp_all
    rw [e0] at k0 k1 k2 k3
    rw [e1] at k1 k2 k3
    exact ⟨k0, k1, k2, k3, k4⟩
end Go.Proofs.Ytpepihciaendlaa

