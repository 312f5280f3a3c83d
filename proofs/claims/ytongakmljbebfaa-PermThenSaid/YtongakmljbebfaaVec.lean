/- A vector of bits in memory. -/
import Derived.Test.YtongakmljbebfaaChecked
import Derived.Test.YtongakmljbebfaaThings
import Derived.Test.YtongakmljbebfaaBits
namespace Go.Proofs.Ytongakmljbebfaa
open Go.RowKit

/-- A block known whole. -/
def cellT (b : Nat) (o : Obj) : Thing where
  foot := [b]
  ok := fun w => w.heap[b]? = some o
  loc := fun _ _ hh h => by rw [hh b (by simp)]; exact h
  lt := fun w h g hg => by
    simp at hg; subst hg
    exact (Array.getElem?_eq_some_iff.1 h).1

namespace St
variable {w0 w w' : World} {os : List Thing}

theorem newCell (h : St w0 w os) (o : Obj) : St w0 (w.alloc o) (cellT w.heap.size o :: os) :=
  h.new (o := cellT w.heap.size o) ((Keeps.refl _ _).alloc _) (heap_alloc_new w o) (by simp [cellT])

theorem block {b : Nat} {o : Obj} (h : St w0 w (cellT b o :: os)) : w.heap[b]? = some o := h.sep.1

theorem cellAt {b : Nat} {c : Array Value} {E : TypeId} {fz : Nat × Nat} (h : St w0 w (cellT b (.cells c E fz) :: os)) (j : Nat) : w.cell? ⟨b, j, none⟩ = c[j]? := by
  simp [World.cell?, h.block]

theorem freeAt {b : Nat} {c : Array Value} {E : TypeId} (h : St w0 w (cellT b (.cells c E (0, 0)) :: os)) (j : Nat) : w.frozen? ⟨b, j, none⟩ = false := by
  simp [World.frozen?, h.block]

theorem storeCell {b : Nat} {c : Array Value} {E : TypeId} {fz : Nat × Nat} (h : St w0 w (cellT b (.cells c E fz) :: os)) (j : Nat) (u : Value) :
    St w0 (w.setCell ⟨b, j, none⟩ u) (cellT b (.cells (c.setIfInBounds j u) E fz) :: os) := by
  refine h.turn (o' := cellT b (.cells (c.setIfInBounds j u) E fz)) ((Keeps.refl _ _).setCell (.inl (by simp [cellT])) u) ?_ (fun g hg => .inl hg)
  show (w.setCell ⟨b, j, none⟩ u).heap[b]? = _
  simp [World.setCell, Array.getElem?_modify, h.block]
end St

/-- the words of some bits -/
def words (l : List Bool) : List Value := (List.range ((l.length + 63) / 64)).map fun k => .int .u64 ((BitsP.word l k : Nat) : Int)

theorem words_length (l : List Bool) : (words l).length = (l.length + 63) / 64 := by simp [words]

theorem words_get (l : List Bool) (k : Nat) (h : k < (l.length + 63) / 64) : (words l)[k]? = some (.int .u64 ((BitsP.word l k : Nat) : Int)) := by
  simp [words, h]

theorem words_snoc_in (l : List Bool) (b : Bool) (h : l.length % 64 ≠ 0) : words (l ++ [b]) = (words l).set (l.length / 64) (Value.int .u64 ((BitsP.word l (l.length / 64) ||| (b.toNat <<< (l.length % 64)) : Nat) : Int)) := by
  apply List.ext_getElem?
  intro k
  rw [List.getElem?_set]
  have hn : ((l ++ [b]).length + 63) / 64 = (l.length + 63) / 64 := by simp; omega
  by_cases hk : k < (l.length + 63) / 64
  · rw [words_get (l ++ [b]) k (by omega), BitsP.word_snoc]
    by_cases he : l.length / 64 = k
    · subst he
      rw [if_pos rfl, if_pos rfl, if_pos (by rw [words_length]; exact hk)]
    · rw [if_neg (fun h => he h.symm), if_neg he, words_get l k hk]
  · have h1 : (words (l ++ [b]))[k]? = none := by rw [List.getElem?_eq_none_iff, words_length]; omega
    have h2 : (words l)[k]? = none := by rw [List.getElem?_eq_none_iff, words_length]; omega
    rw [h1]
    split
    · rw [if_neg (by rw [words_length]; omega)]
    · exact h2.symm

theorem words_snoc_new (l : List Bool) (b : Bool) (h : l.length % 64 = 0) : words (l ++ [b]) = (words l ++ [Value.int .u64 0]).set (l.length / 64) (Value.int .u64 ((0 ||| (b.toNat <<< (l.length % 64)) : Nat) : Int)) := by
  apply List.ext_getElem?
  intro k
  rw [List.getElem?_set]
  have hn : ((l ++ [b]).length + 63) / 64 = (l.length + 63) / 64 + 1 := by simp; omega
  have hd : (l.length + 63) / 64 = l.length / 64 := by omega
  have hw : BitsP.word l (l.length / 64) = 0 := BitsP.word_past l _ (by omega)
  by_cases hk : k < (l.length + 63) / 64 + 1
  · rw [words_get (l ++ [b]) k (by omega), BitsP.word_snoc]
    by_cases he : l.length / 64 = k
    · subst he
      rw [if_pos rfl, if_pos rfl, if_pos (by simp [words_length]; omega), hw]
    · rw [if_neg (fun h => he h.symm), if_neg he, List.getElem?_append_left (by rw [words_length]; omega), words_get l k (by omega)]
  · have h1 : (words (l ++ [b]))[k]? = none := by rw [List.getElem?_eq_none_iff, words_length]; omega
    have h2 : (words l ++ [Value.int .u64 0])[k]? = none := by rw [List.getElem?_eq_none_iff]; simp [words_length]; omega
    rw [h1]
    split
    · rw [if_neg (by simp [words_length]; omega)]
    · exact h2.symm
end Go.Proofs.Ytongakmljbebfaa

