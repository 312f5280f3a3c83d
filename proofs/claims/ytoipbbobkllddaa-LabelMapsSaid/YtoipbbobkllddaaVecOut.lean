/- The contracts of Vec.Bytes, Vec.Ones, Vec.Cut, bits.Of, bits.Same. -/
import Derived.Test.YtoipbbobkllddaaReader
import Derived.Test.YtoipbbobkllddaaCloneSt
import Derived.Deep.OwnRows
namespace Go.Proofs.Ytoipbbobkllddaa
open Go.RowKit

/-- byte number i of some bits -/
def byteAt (l : List Bool) (i : Nat) : Nat := BitsP.num l / 2 ^ (8 * i) % 256
def bytesB (l : List Bool) : List Nat := (List.range ((l.length + 7) / 8)).map (byteAt l)
theorem bytesB_len (l : List Bool) : (bytesB l).length = (l.length + 7) / 8 := by simp [bytesB]
theorem bytesB_lt (l : List Bool) : ∀ x ∈ bytesB l, x < 256 := by
  intro x hx
  obtain ⟨i, _, rfl⟩ := List.mem_map.1 hx
  exact Nat.mod_lt _ (by decide)

theorem byte_of_word (l : List Bool) (i : Nat) : BitsP.word l (i / 8) / 2 ^ (i % 8 * 8) % 256 = byteAt l i := by
  apply Nat.eq_of_testBit_eq
  intro j
  have e : (256 : Nat) = 2 ^ 8 := rfl
  unfold byteAt
  rw [e, Nat.testBit_mod_two_pow, Nat.testBit_mod_two_pow, Nat.testBit_div_two_pow, Nat.testBit_div_two_pow, BitsP.testBit_word, BitsP.testBit_num]
  by_cases h : j < 8
  · rw [show 64 * (i / 8) + (j + i % 8 * 8) = j + 8 * i from by omega]
    simp [h]; omega
  · simp [h]

/-- the row when k bytes are laid -/
def laid (l : List Bool) (n k : Nat) : List Nat := (List.range n).map fun i => if i < k then byteAt l i else 0
theorem laid_len (l : List Bool) (n k : Nat) : (laid l n k).length = n := by simp [laid]
theorem laid_zero (l : List Bool) (n : Nat) : bytesOf (laid l n 0) = List.replicate n (.int .u8 0) := by
  unfold laid bytesOf
  apply List.ext_getElem <;> simp
theorem laid_all (l : List Bool) : laid l ((l.length + 7) / 8) ((l.length + 7) / 8) = bytesB l := by
  unfold laid bytesB
  refine List.map_congr_left fun i hi => ?_
  rw [if_pos (List.mem_range.1 hi)]
theorem laid_set (l : List Bool) (n k : Nat) (hk : k < n) : bytesOf (laid l n (k + 1)) = (bytesOf (laid l n k)).set k (.int .u8 ((byteAt l k : Nat) : Int)) := by
  unfold laid bytesOf
  apply List.ext_getElem
  · simp
  · intro i h1 h2
    simp at h1
    rw [List.getElem_set]
    by_cases h : k = i
    · subst h; simp
    · rw [if_neg h]
      have e : (i < k + 1) = (i < k) := by apply propext; omega
      simp [e]

theorem byte_val (q i : Nat) (hq : q < 18446744073709551616) (k : Nat) (hb : q / 2 ^ k % 256 = i) : ((q : Int) / 2 ^ k) % 256 = (i : Int) := by
  have e : ((q : Int) / 2 ^ k) = ((q / 2 ^ k : Nat) : Int) := by simp
  rw [e]; omega

end Go.Proofs.Ytoipbbobkllddaa

