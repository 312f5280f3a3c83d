/- Slices of integers that came in, as lists; regions that draw their order, in a class of worlds. -/
import Derived.Test.YtgpdkobefnhfiaaHeap
import Derived.ProofKit
import Derived.OpenShut
import Derived.Deep.QuietTactic
import Derived.BigQuiet
namespace Go.Proofs.Ytgpdkobefnhfiaa
open Go.RowKit

/-- A slice of integers that came in: it is nil; or it leads to a row of 'cap' cells, the numbers 'zs', each fitting its kind. -/
def IsRow (k : IntKind) (w : World) (a : Option Addr) (len cap : Nat) (zs : List Int) : Prop :=
  (a = none ∧ len = 0 ∧ cap = 0 ∧ zs = []) ∨
  ∃ x, a = some x ∧ len ≤ cap ∧ cap ≤ maxLen ∧ zs.length = cap ∧ (∀ i, i < zs.length → w.cell? (x.add i) = some (.int k (zs.getD i 0))) ∧ ∀ n ∈ zs, (Lit.int k n).wf = true

theorem IsRow.reads {k : IntKind} {w : World} {a : Option Addr} {len cap : Nat} {zs : List Int} (h : IsRow k w a len cap zs) :
    Reads w (.slice a len cap) ((zs.take len).map (Value.int k)) ∧ (zs.take len).length = len ∧ len ≤ maxLen ∧ (∀ n ∈ zs.take len, (Lit.int k n).wf = true) ∧ (a = none → len = 0 ∧ cap = 0) := by
  rcases h with ⟨rfl, rfl, rfl, rfl⟩ | ⟨x, rfl, hl, hm, hz, hc, hw⟩
  · exact ⟨Reads.nil w, rfl, by decide, by simp, by simp⟩
  · have hlen : (zs.take len).length = len := by simp; omega
    refine ⟨⟨some x, cap, by simp; omega, by simp; omega, hm, ?_⟩, hlen, by omega, fun n hn => hw n (List.mem_of_mem_take hn), by simp⟩
    by_cases h0 : len = 0
    · left; simp [h0]
    · right
      obtain ⟨b, off, spot⟩ := x
      have h1 := hc 0 (by omega)
      have hspot : spot = none := by simpa [Addr.add] using World.cell?_spot h1
      subst hspot
      refine ⟨b, off, rfl, fun j u hu => ?_⟩
      simp only [List.getElem?_map, Option.map_eq_some_iff] at hu
      obtain ⟨z, hz1, rfl⟩ := hu
      rw [List.getElem?_take] at hz1
      split at hz1
      · have hj : j < zs.length := by omega
        have h2 := hc j hj
        have ha : (⟨b, off, none⟩ : Addr).add j = ⟨b, off + j, none⟩ := by unfold Addr.add; split <;> simp_all
        rw [ha, List.getD_eq_getElem?_getD, hz1] at h2
        simpa using h2
      · cases hz1

def bytesOf (l : List Nat) : List Value := l.map fun (x : Nat) => .int .u8 (x : Int)
theorem bytesOf_get (l : List Nat) (j : Nat) (h : j < l.length) : (bytesOf l)[j]? = some (.int .u8 (l[j] : Nat)) := by simp [bytesOf, h]
theorem bytesOf_len (l : List Nat) : (bytesOf l).length = l.length := by simp [bytesOf]

theorem wf_u8 {n : Int} (h : (Lit.int .u8 n).wf = true) : 0 ≤ n ∧ n < 256 := by
  have := bounds_u8 h
  omega

/-- bytes that came in -/
theorem IsRow.bytes {w : World} {a : Option Addr} {len cap : Nat} {zs : List Int} (h : IsRow .u8 w a len cap zs) :
    ∃ l : List Nat, l.length = len ∧ (∀ x ∈ l, x < 256) ∧ Reads w (.slice a len cap) (bytesOf l) ∧ len ≤ maxLen := by
  obtain ⟨h1, h2, h3, h4, h5⟩ := h.reads
  refine ⟨(zs.take len).map Int.toNat, by simpa using h2, ?_, ?_, h3⟩
  · intro x hx
    obtain ⟨z, hz, rfl⟩ := List.mem_map.1 hx
    have := wf_u8 (h4 z hz)
    omega
  · have e : bytesOf ((zs.take len).map Int.toNat) = (zs.take len).map (Value.int .u8) := by
      simp only [bytesOf, List.map_map]
      refine List.map_congr_left fun z hz => ?_
      have := wf_u8 (h4 z hz)
      simp only [Function.comp]
      rw [Int.toNat_of_nonneg this.1]
    rw [e]
    exact h1

/-- The class of worlds that are w with new blocks. -/
def Cls (w w' : World) : Prop := Keeps [] w w'

theorem Cls.refl (w : World) : Cls w w := Keeps.refl _ _
theorem Cls.drew (w : World) : Cls w { w with drawn := w.drawn + 1 } := (Keeps.refl _ _ : Keeps [] w w).drew
theorem Cls.below {w w' : World} (h : Cls w w') : Below w.heap.size w w' := Keeps.nil_below h

theorem Calls.cls {P : Program} {f : FuncId} {args : Array Value} {w w' : World} {v : Value} (hC : Cls w w')
    (h : Calls P f args w' fun e w'' => e = .returned v ∧ Below w'.heap.size w' w'') : Calls P f args w' fun e w'' => e = .returned v ∧ Cls w w'' :=
  h.mono fun _ _ ⟨he, hb⟩ => ⟨he, Keeps.trans hC (Keeps.of_below hb) (by simp)⟩

theorem wp_region_cls {P : Program} {id : Nat} {Q : Exit → Act → World → Prop} {a : Act} {w : World} {l : List Oper} (hm : P.follows .mixedOrders = true) (hB : Region.lexB .any l.toArray = true)
    (h : wpQuiet P l.toArray (Cls w) (fun a' => ∀ w', Cls w w' → Q .normal a' w') l a) : (Code.region id l.toArray true).wp P Q a w :=
  wp_region_quiet (C := Cls w) hm hB (Cls.drew w) (by simpa using h)

end Go.Proofs.Ytgpdkobefnhfiaa
