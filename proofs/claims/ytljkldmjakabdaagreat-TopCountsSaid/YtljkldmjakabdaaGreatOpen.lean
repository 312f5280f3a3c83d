/- Slices of integers that came in, as lists; regions that draw their order, in a class of worlds. -/
import Derived.Test.YtljkldmjakabdaaGreatHeap
import Derived.ProofKit
import Derived.OpenShut
import Derived.Deep.QuietTactic
import Derived.BigQuiet
import Derived.WalkLawsBesides
import Derived.Deep.OwnRows
import Derived.Lib.Hide
namespace Go.Proofs.YtljkldmjakabdaaGreat
open Go.RowKit

/-- A slice of integers that came in: it is nil; or it leads to a row of 'cap' cells, the numbers 'zs', each fitting its kind. -/
def IsRow (k : IntKind) (w : World) (a : Option Addr) (len cap : Nat) (zs : List Int) : Prop :=
  (a = none ∧ len = 0 ∧ cap = 0 ∧ zs = []) ∨
  ∃ x, a = some x ∧ len ≤ cap ∧ cap ≤ maxLen ∧ zs.length = cap ∧ (∀ i, i < zs.length → w.cell? (x.add i) = some (.int k (zs.getD i 0))) ∧ ∀ n ∈ zs, (Lit.int k n).wf = true

theorem IsRow.reads {k : IntKind} {w : World} {a : Option Addr} {len cap : Nat} {zs : List Int} (h : IsRow k w a len cap zs) :
    Reads w (.slice a len cap) ((zs.take len).map (Value.int k)) ∧ (zs.take len).length = len ∧ len ≤ maxLen ∧ (∀ n ∈ zs.take len, (Lit.int k n).wf = true) ∧ (a = none → len = 0 ∧ cap = 0) := by
  rcases h with ⟨rfl, rfl, rfl, rfl⟩ | ⟨x, rfl, hl, hm, hz, hc, hw⟩
  · exact ⟨Reads.nil w, rfl, by decide, by simp, by simp⟩
  · have hlen : (zs.take len).length = len := by simp; omega
    refine ⟨⟨some x, cap, by simp; omega, by simp; omega, hm, by simp, ?_⟩, hlen, by omega, fun n hn => hw n (List.mem_of_mem_take hn), by simp⟩
    by_cases h0 : len = 0
    · left; simp [h0]
    · right
      obtain ⟨b, off, spot⟩ := x
      have h1 := hc 0 (by omega)
      have hspot : spot = none := by simpa [Addr.add] using World.cell?_spot h1
      subst hspot
      refine ⟨b, off, rfl, fun j u hu => ?_⟩
      simp only [List.getElem?_map, Option.map_eq_some_iff] at hu
      obtain ⟨z, hz1, rfl⟩ := hu
      rw [List.getElem?_take] at hz1
      split at hz1
      · have hj : j < zs.length := by omega
        have h2 := hc j hj
        have ha : (⟨b, off, none⟩ : Addr).add j = ⟨b, off + j, none⟩ := by unfold Addr.add; split <;> simp_all
        rw [ha, List.getD_eq_getElem?_getD, hz1] at h2
        simpa using h2
      · cases hz1

def bytesOf (l : List Nat) : List Value := l.map fun (x : Nat) => .int .u8 (x : Int)
theorem bytesOf_get (l : List Nat) (j : Nat) (h : j < l.length) : (bytesOf l)[j]? = some (.int .u8 (l[j] : Nat)) := by simp [bytesOf, h]
theorem bytesOf_len (l : List Nat) : (bytesOf l).length = l.length := by simp [bytesOf]

theorem wf_u8 {n : Int} (h : (Lit.int .u8 n).wf = true) : 0 ≤ n ∧ n < 256 := by
  have := bounds_u8 h
  omega

theorem wf_u16 {n : Int} (h : (Lit.int .u16 n).wf = true) : 0 ≤ n ∧ n < 65536 := by
  have := bounds_u16 h
  omega
theorem wf_u32 {n : Int} (h : (Lit.int .u32 n).wf = true) : 0 ≤ n ∧ n < 4294967296 := by
  have := bounds_u32 h
  omega
theorem wf_u64 {n : Int} (h : (Lit.int .u64 n).wf = true) : 0 ≤ n ∧ n < 18446744073709551616 := by
  have := bounds_u64 h
  omega
theorem wf_i64 {n : Int} (h : (Lit.int .i64 n).wf = true) : -9223372036854775808 ≤ n ∧ n < 9223372036854775808 := by
  have := bounds_i64 h
  omega

/-- bytes that came in -/
theorem IsRow.bytes {w : World} {a : Option Addr} {len cap : Nat} {zs : List Int} (h : IsRow .u8 w a len cap zs) :
    ∃ l : List Nat, l.length = len ∧ (∀ x ∈ l, x < 256) ∧ Reads w (.slice a len cap) (bytesOf l) ∧ len ≤ maxLen := by
  obtain ⟨h1, h2, h3, h4, h5⟩ := h.reads
  refine ⟨(zs.take len).map Int.toNat, by simpa using h2, ?_, ?_, h3⟩
  · intro x hx
    obtain ⟨z, hz, rfl⟩ := List.mem_map.1 hx
    have := wf_u8 (h4 z hz)
    omega
  · have e : bytesOf ((zs.take len).map Int.toNat) = (zs.take len).map (Value.int .u8) := by
      simp only [bytesOf, List.map_map]
      refine List.map_congr_left fun z hz => ?_
      have := wf_u8 (h4 z hz)
      simp only [Function.comp]
      rw [Int.toNat_of_nonneg this.1]
    rw [e]
    exact h1

/-- The class of worlds that are w with new blocks. -/
def Cls (w w' : World) : Prop := Keeps [] w w'

theorem Cls.refl (w : World) : Cls w w := Keeps.refl _ _
theorem Cls.drew (w : World) : Cls w { w with drawn := w.drawn + 1 } := (Keeps.refl _ _ : Keeps [] w w).drew
theorem Cls.below {w w' : World} (h : Cls w w') : Below w.heap.size w w' := Keeps.nil_below h

theorem Calls.cls {P : Program} {f : FuncId} {args : Array Value} {w w' : World} {v : Value} (hC : Cls w w')
    (h : Calls P f args w' fun e w'' => e = .returned v ∧ Below w'.heap.size w' w'') : Calls P f args w' fun e w'' => e = .returned v ∧ Cls w w'' :=
  h.mono fun _ _ ⟨he, hb⟩ => ⟨he, Keeps.trans hC (Keeps.of_below hb) (by simp)⟩

theorem wp_region_cls {P : Program} {id : Nat} {Q : Exit → Act → World → Prop} {a : Act} {w : World} {l : List Oper} (hm : P.follows .mixedOrders = true) (hB : Region.lexB .any l.toArray = true)
    (h : wpQuiet P l.toArray (Cls w) (fun a' => ∀ w', Cls w w' → Q .normal a' w') l a) : (Code.region id l.toArray true).wp P Q a w :=
  wp_region_quiet (C := Cls w) hm hB (Cls.drew w) (by simpa using h)

theorem run_min4 {P : Program} (ts : Array TypeId) (t : TypeId) (a b c d : Nat) (w : World) :
    (Builtin.min_ ts t #[.int .i64 a, .int .i64 b, .int .i64 c, .int .i64 d]).run P w = .ok (.int .i64 ((min (min (min a b) c) d : Nat) : Int)) w := by
  simp [Builtin.min_, Builtin.min2]
  omega

theorem read_at {w : World} {a : Option Addr} {len cap : Nat} {l : List Nat} (h : Reads w (.slice a len cap) (bytesOf l)) (k : Nat) (hk : k < l.length) :
    ∃ b off, a = some ⟨b, off, none⟩ ∧ ∀ w', Below w.heap.size w w' → ∀ j, j < l.length → w'.cell? ⟨b, off + j, none⟩ = some (.int .u8 ((l.getD j 0 : Nat) : Int)) := by
  have h' := h
  obtain ⟨ao, c, he, hl, hm, hn, hc⟩ := h
  simp only [Value.slice.injEq] at he
  obtain ⟨rfl, rfl, rfl⟩ := he
  rcases hc with hc | ⟨b, off, rfl, hc⟩
  · have : l = [] := by simpa [bytesOf] using hc
    subst this; simp at hk
  · refine ⟨b, off, rfl, fun w' hb j hj => ?_⟩
    have h1 := hc j _ (bytesOf_get l j hj)
    rw [hb.cell (p := ⟨b, off + j, none⟩) (World.block_lt_of_cell? w _ h1), h1]
    simp [List.getD_eq_getElem?_getD, hj]

theorem getD_lt {l : List Nat} (h : ∀ x ∈ l, x < 256) (k : Nat) : l[k]?.getD 0 < 256 := by
  cases hk : l[k]? with
  | none => simp
  | some x => exact h x (List.mem_of_getElem? hk)

theorem bytesOf_take (l : List Nat) (k : Nat) : (bytesOf l).take k = bytesOf (l.take k) := by simp [bytesOf]

theorem Reads.len_le {w : World} {a : Option Addr} {len cap : Nat} {xs : List Value} (h : Reads w (.slice a len cap) xs) : len ≤ cap := by
  obtain ⟨ao, c, he, hl, hm, hn, hc⟩ := h
  simp only [Value.slice.injEq] at he
  omega

/-- The same elements, no spare. -/
theorem Reads.shrink {w : World} {a : Option Addr} {len cap : Nat} {xs : List Value} (h : Reads w (.slice a len cap) xs) : Reads w (.slice a len len) xs := by
  obtain ⟨ao, c, he, hl, hm, hn, hc⟩ := h
  simp only [Value.slice.injEq] at he
  obtain ⟨rfl, rfl, rfl⟩ := he
  exact ⟨a, xs.length, rfl, Nat.le_refl _, by omega, fun h => by have := hn h; omega, hc⟩

theorem Reads.take {w : World} {a : Option Addr} {len cap : Nat} {xs : List Value} (h : Reads w (.slice a len cap) xs) (k : Nat) (hk : k ≤ len) : Reads w (.slice a k cap) (xs.take k) := by
  obtain ⟨ao, c, he, hl, hm, hn, hc⟩ := h
  simp only [Value.slice.injEq] at he
  obtain ⟨rfl, rfl, rfl⟩ := he
  refine ⟨a, cap, by simp; omega, by simp; omega, hm, hn, ?_⟩
  rcases hc with hc | ⟨b, off, rfl, hc⟩
  · left; simp [hc]
  · refine .inr ⟨b, off, rfl, fun j u hu => hc j u ?_⟩
    rw [List.getElem?_take] at hu
    split at hu
    · exact hu
    · cases hu

theorem bytesOf_drop (l : List Nat) (k : Nat) : (bytesOf l).drop k = bytesOf (l.drop k) := by simp [bytesOf]

theorem Reads.drop {w : World} {g off len cap : Nat} {xs : List Value} (h : Reads w (.slice (some ⟨g, off, none⟩) len cap) xs) (k : Nat) (hk : k ≤ len) : Reads w (.slice (some ⟨g, off + k, none⟩) (len - k) (cap - k)) (xs.drop k) := by
  obtain ⟨ao, c, he, hl, hm, hn, hc⟩ := h
  simp only [Value.slice.injEq] at he
  obtain ⟨rfl, rfl, rfl⟩ := he
  refine ⟨some ⟨g, off + k, none⟩, cap - k, by rw [List.length_drop], by rw [List.length_drop]; omega, by omega, by simp, ?_⟩
  rcases hc with hc | ⟨b, off', he, hc⟩
  · left; simp [hc]
  · simp only [Option.some.injEq, Addr.mk.injEq, and_true] at he
    obtain ⟨rfl, rfl⟩ := he
    refine .inr ⟨g, off + k, rfl, fun j u hu => ?_⟩
    rw [List.getElem?_drop] at hu
    rw [Nat.add_assoc]
    exact hc (k + j) u hu

theorem Reads.of_rowIs {w : World} {b : Nat} {E : TypeId} {n : Nat} {f : Nat → Value} (h : w.rowIs b E n f) (hm : n ≤ maxLen) : Reads w (.slice (some ⟨b, 0, none⟩) n n) ((List.range n).map f) := by
  refine ⟨_, n, by simp, by simp, hm, by simp, .inr ⟨b, 0, rfl, fun j u hu => ?_⟩⟩
  simp only [List.getElem?_map, Option.map_eq_some_iff] at hu
  obtain ⟨i, hi, rfl⟩ := hu
  have hj : j < n := by
    have := (List.getElem?_eq_some_iff.1 hi).1
    simpa using this
  have : i = j := by rw [List.getElem?_range hj] at hi; simpa using hi.symm
  subst this
  rw [Nat.zero_add]
  exact h.cell hj

theorem range_take (l : List Nat) (k : Nat) (h : k ≤ l.length) : (List.range k).map (fun j => l.getD j 0) = l.take k := by
  apply List.ext_getElem
  · simp; omega
  · intro i h1 h2
    simp at h1
    simp [List.getD_eq_getElem?_getD, show i < l.length from by omega]

theorem ret_bool {b c : Bool} (h : b = c) : Ending.returned (.bool b) = .returned (.bool c) := by rw [h]

/-- What the reader of such an argument finds. -/
theorem row_of_trod {H : Type} {enc : TypeId × Value → H} {P : Program} {W : World} {t e : TypeId} {k : IntKind} {fuel : Nat} {a0 : Option Addr} {len0 cap0 : Nat} {held : Bool} {x : DataW H × List MemPlace}
    (ht : P.underlying t = some (.slice e)) (he : P.underlying e = some (.int k)) (ce : P.cellsOf e = 1)
    (hf : DataW.trod enc P W 0 (fun _ => true) held fuel t (Value.slice a0 len0 cap0).cells.toList = some x) :
    ∃ zs, IsRow k W a0 len0 cap0 zs := by
  rcases Go.ChangeShapes.open_ints ht he ce hf with ⟨hcs, _⟩ | ⟨x', l, c, zs, hcs, _, hl, hm, hz, _, hcell, hwz⟩
  · simp [Value.cells] at hcs
    obtain ⟨rfl, rfl, rfl⟩ := hcs
    exact ⟨[], .inl ⟨rfl, rfl, rfl, rfl⟩⟩
  · simp [Value.cells] at hcs
    obtain ⟨rfl, rfl, rfl⟩ := hcs
    exact ⟨zs, .inr ⟨_, rfl, hl, hm, by simpa using hz, hcell, hwz⟩⟩

end Go.Proofs.YtljkldmjakabdaaGreat

