/- A slice of flags that came in. -/
import Derived.Test.YtoipbbobkllddaaAny
import Derived.Deep.Grids
namespace Go.Proofs.Ytoipbbobkllddaa
open Go.RowKit

/-- A slice of flags that came in: it is nil; or it leads to a row of 'cap' cells. -/
def IsFlags (w : World) (a : Option Addr) (len cap : Nat) (zs : List Bool) : Prop :=
  (a = none ∧ len = 0 ∧ cap = 0 ∧ zs = []) ∨
  ∃ x, a = some x ∧ len ≤ cap ∧ cap ≤ maxLen ∧ zs.length = cap ∧ (∀ i, i < zs.length → w.cell? (x.add i) = some (.bool (zs.getD i false)))

theorem flags_of_trod {H : Type} {enc : TypeId × Value → H} {P : Program} {W : World} {t e : TypeId} {fuel : Nat} {a0 : Option Addr} {len0 cap0 : Nat} {held : Bool} {x : DataW H × List MemPlace}
    (ht : P.underlying t = some (.slice e)) (he : P.underlying e = some .bool) (ce : P.cellsOf e = 1)
    (hf : DataW.trod enc P W 0 (fun _ => true) held fuel t (Value.slice a0 len0 cap0).cells.toList = some x) :
    ∃ zs, IsFlags W a0 len0 cap0 zs := by
  rcases Deep.open_bools ht he ce hf with ⟨hcs, _⟩ | ⟨x', l, c, B, hcs, _, hl, hm, _, hcell⟩
  · simp [Value.cells] at hcs
    obtain ⟨rfl, rfl, rfl⟩ := hcs
    exact ⟨[], .inl ⟨rfl, rfl, rfl, rfl⟩⟩
  · simp [Value.cells] at hcs
    obtain ⟨rfl, rfl, rfl⟩ := hcs
    refine ⟨(List.range cap0).map B, .inr ⟨_, rfl, hl, hm, by simp, fun i hi => ?_⟩⟩
    rw [List.length_map, List.length_range] at hi
    rw [hcell i hi]
    simp [List.getD_eq_getElem?_getD, hi]

/-- flags in memory -/
def flagsOf (l : List Bool) : List Value := l.map Value.bool

theorem IsFlags.reads {w : World} {a : Option Addr} {len cap : Nat} {zs : List Bool} (h : IsFlags w a len cap zs) :
    Reads w (.slice a len cap) (flagsOf (zs.take len)) ∧ (zs.take len).length = len ∧ len ≤ maxLen := by
  rcases h with ⟨rfl, rfl, rfl, rfl⟩ | ⟨x, rfl, hl, hm, hz, hc⟩
  · exact ⟨Reads.nil w, rfl, by decide⟩
  · have hlen : (zs.take len).length = len := by simp; omega
    refine ⟨⟨some x, cap, by simp [flagsOf]; omega, by simp [flagsOf]; omega, hm, by simp, ?_⟩, hlen, by omega⟩
    by_cases h0 : len = 0
    · left; simp [h0, flagsOf]
    · right
      obtain ⟨b, off, spot⟩ := x
      have h1 := hc 0 (by omega)
      have hspot : spot = none := by simpa [Addr.add] using World.cell?_spot h1
      subst hspot
      refine ⟨b, off, rfl, fun j u hu => ?_⟩
      simp only [flagsOf, List.getElem?_map, Option.map_eq_some_iff] at hu
      obtain ⟨z, hz1, rfl⟩ := hu
      rw [List.getElem?_take] at hz1
      split at hz1
      · have hj : j < zs.length := by omega
        have h2 := hc j hj
        have ha : (⟨b, off, none⟩ : Addr).add j = ⟨b, off + j, none⟩ := by unfold Addr.add; split <;> simp_all
        rw [ha, List.getD_eq_getElem?_getD, hz1] at h2
        simpa using h2
      · cases hz1
end Go.Proofs.Ytoipbbobkllddaa

