/- A vector of bits in memory. -/
import Derived.Test.YtoipbbobkllddaaChecked
import Derived.Test.YtoipbbobkllddaaThings
import Derived.Test.YtoipbbobkllddaaBits
namespace Go.Proofs.Ytoipbbobkllddaa
open Go.RowKit

/-- A block known whole. -/
def cellT (b : Nat) (o : Obj) : Thing where
  foot := [b]
  ok := fun w => w.heap[b]? = some o
  loc := fun _ _ hh h => by rw [hh b (by simp)]; exact h
  lt := fun w h g hg => by
    simp at hg; subst hg
    exact (Array.getElem?_eq_some_iff.1 h).1

namespace St
variable {w0 w w' : World} {os : List Thing}

theorem newCell (h : St w0 w os) (o : Obj) : St w0 (w.alloc o) (cellT w.heap.size o :: os) :=
  h.new (o := cellT w.heap.size o) ((Keeps.refl _ _).alloc _) (heap_alloc_new w o) (by simp [cellT])

theorem block {b : Nat} {o : Obj} (h : St w0 w (cellT b o :: os)) : w.heap[b]? = some o := h.sep.1

theorem cellAt {b : Nat} {c : Array Value} {E : TypeId} {fz : Nat × Nat} (h : St w0 w (cellT b (.cells c E fz) :: os)) (j : Nat) : w.cell? ⟨b, j, none⟩ = c[j]? := by
  simp [World.cell?, h.block]

theorem freeAt {b : Nat} {c : Array Value} {E : TypeId} (h : St w0 w (cellT b (.cells c E (0, 0)) :: os)) (j : Nat) : w.frozen? ⟨b, j, none⟩ = false := by
  simp [World.frozen?, h.block]

theorem storeCell {b : Nat} {c : Array Value} {E : TypeId} {fz : Nat × Nat} (h : St w0 w (cellT b (.cells c E fz) :: os)) (j : Nat) (u : Value) :
    St w0 (w.setCell ⟨b, j, none⟩ u) (cellT b (.cells (c.setIfInBounds j u) E fz) :: os) := by
  refine h.turn (o' := cellT b (.cells (c.setIfInBounds j u) E fz)) ((Keeps.refl _ _).setCell (.inl (by simp [cellT])) u) ?_ (fun g hg => .inl hg)
  show (w.setCell ⟨b, j, none⟩ u).heap[b]? = _
  simp [World.setCell, Array.getElem?_modify, h.block]
end St

def vecObj (v : Value) (n : Nat) : Obj := .cells #[v, .int .i64 n] 98 (0, 0)

/-- the words of some bits -/
def words (l : List Bool) : List Value := (List.range ((l.length + 63) / 64)).map fun k => .int .u64 ((BitsP.word l k : Nat) : Int)

theorem words_length (l : List Bool) : (words l).length = (l.length + 63) / 64 := by simp [words]

theorem words_get (l : List Bool) (k : Nat) (h : k < (l.length + 63) / 64) : (words l)[k]? = some (.int .u64 ((BitsP.word l k : Nat) : Int)) := by
  simp [words, h]

/-- A vector: the struct and the words. -/
def vecT (b : Nat) (v : Value) (l : List Bool) : Thing where
  foot := b :: v.ownBlock.toList
  ok := fun w => w.heap[b]? = some (vecObj v l.length) ∧ w.ownsRow 0 83 1 v (words l).length (words l)
  loc := fun _ _ hh h => ⟨by rw [hh b (by simp)]; exact h.1, ownsRow_heap (fun g hg => hh g (by simp only [List.mem_cons]; exact .inr hg)) h.2⟩
  lt := fun w h g hg => by
    rcases List.mem_cons.1 hg with rfl | hg
    · exact (Array.getElem?_eq_some_iff.1 h.1).1
    · exact (h.2.lt g (by simpa using hg)).2

theorem vec_apart {w : World} {b : Nat} {v : Value} {n m : Nat} {xs : List Value} (h1 : w.heap[b]? = some (vecObj v n)) (h2 : w.ownsRow 0 83 1 v m xs) : ∀ g, v.ownBlock = some g → g ≠ b := by
  intro g hg he
  subst he
  rcases h2.2 with ⟨rfl, _⟩ | ⟨g', cap, cur, rfl, _, hg', _⟩
  · simp [Value.ownBlock] at hg
  · simp [Value.ownBlock] at hg
    subst hg
    rw [h1] at hg'
    simp [vecObj] at hg'

theorem St.split {w0 w : World} {os : List Thing} {b : Nat} {v : Value} {l : List Bool} (h : St w0 w (vecT b v l :: os)) : St w0 w (cellT b (vecObj v l.length) :: rowT 83 v (words l) :: os) := by
  obtain ⟨⟨⟨h1, h2⟩, h3, h4, h5⟩, hb⟩ := h
  refine ⟨⟨h1, fun g hg => h3 g (by simp [cellT] at hg; subst hg; simp [vecT]), ?_, h2, fun g hg => h3 g (by simp only [vecT, List.mem_cons]; exact .inr hg), fun p hp g hg => h4 p hp g (by simp only [vecT, List.mem_cons]; exact .inr hg), h5⟩, hb⟩
  intro p hp g hg
  simp [cellT] at hg
  subst hg
  rcases List.mem_cons.1 hp with rfl | hp
  · intro hm
    exact vec_apart h1 h2 g (by simpa [rowT] using hm) rfl
  · exact h4 p hp g (by simp [vecT])

theorem St.join {w0 w : World} {os : List Thing} {b n : Nat} {v : Value} {l : List Bool} {xs : List Value} (h : St w0 w (cellT b (vecObj v n) :: rowT 83 v xs :: os)) (hn : n = l.length) (hx : xs = words l) : St w0 w (vecT b v l :: os) := by
  subst hn; subst hx
  obtain ⟨⟨h1, h3, h4, h2, h3', h4', h5⟩, hb⟩ := h
  refine ⟨⟨⟨h1, h2⟩, ?_, ?_, h5⟩, hb⟩
  · intro g hg
    rcases List.mem_cons.1 hg with rfl | hg
    · exact h3 g (by simp [cellT])
    · exact h3' g hg
  · intro p hp g hg
    rcases List.mem_cons.1 hg with rfl | hg
    · exact h4 p (by simp [hp]) g (by simp [cellT])
    · exact h4' p hp g hg

theorem words_snoc_in (l : List Bool) (b : Bool) (h : l.length % 64 ≠ 0) : words (l ++ [b]) = (words l).set (l.length / 64) (Value.int .u64 ((BitsP.word l (l.length / 64) ||| (b.toNat <<< (l.length % 64)) : Nat) : Int)) := by
  apply List.ext_getElem?
  intro k
  rw [List.getElem?_set]
  have hn : ((l ++ [b]).length + 63) / 64 = (l.length + 63) / 64 := by simp; omega
  by_cases hk : k < (l.length + 63) / 64
  · rw [words_get (l ++ [b]) k (by omega), BitsP.word_snoc]
    by_cases he : l.length / 64 = k
    · subst he
      rw [if_pos rfl, if_pos rfl, if_pos (by rw [words_length]; exact hk)]
    · rw [if_neg (fun h => he h.symm), if_neg he, words_get l k hk]
  · have h1 : (words (l ++ [b]))[k]? = none := by rw [List.getElem?_eq_none_iff, words_length]; omega
    have h2 : (words l)[k]? = none := by rw [List.getElem?_eq_none_iff, words_length]; omega
    rw [h1]
    split
    · rw [if_neg (by rw [words_length]; omega)]
    · exact h2.symm

theorem words_snoc_new (l : List Bool) (b : Bool) (h : l.length % 64 = 0) : words (l ++ [b]) = (words l ++ [Value.int .u64 0]).set (l.length / 64) (Value.int .u64 ((0 ||| (b.toNat <<< (l.length % 64)) : Nat) : Int)) := by
  apply List.ext_getElem?
  intro k
  rw [List.getElem?_set]
  have hn : ((l ++ [b]).length + 63) / 64 = (l.length + 63) / 64 + 1 := by simp; omega
  have hd : (l.length + 63) / 64 = l.length / 64 := by omega
  have hw : BitsP.word l (l.length / 64) = 0 := BitsP.word_past l _ (by omega)
  by_cases hk : k < (l.length + 63) / 64 + 1
  · rw [words_get (l ++ [b]) k (by omega), BitsP.word_snoc]
    by_cases he : l.length / 64 = k
    · subst he
      rw [if_pos rfl, if_pos rfl, if_pos (by simp [words_length]; omega), hw]
    · rw [if_neg (fun h => he h.symm), if_neg he, List.getElem?_append_left (by rw [words_length]; omega), words_get l k (by omega)]
  · have h1 : (words (l ++ [b]))[k]? = none := by rw [List.getElem?_eq_none_iff, words_length]; omega
    have h2 : (words l ++ [Value.int .u64 0])[k]? = none := by rw [List.getElem?_eq_none_iff]; simp [words_length]; omega
    rw [h1]
    split
    · rw [if_neg (by simp [words_length]; omega)]
    · exact h2.symm
end Go.Proofs.Ytoipbbobkllddaa

