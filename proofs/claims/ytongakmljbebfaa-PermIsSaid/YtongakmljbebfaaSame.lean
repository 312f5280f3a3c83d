/- bits.Same, and the document's Num. -/
import Derived.Test.YtongakmljbebfaaEqual
namespace Go.Proofs.Ytongakmljbebfaa
open Go.RowKit

def wordsI (l : List Bool) : List Int := (List.range ((l.length + 63) / 64)).map fun k => ((BitsP.word l k : Nat) : Int)
theorem wordsI_map (l : List Bool) : words l = (wordsI l).map (Value.int .u64) := by simp [words, wordsI]

theorem wordsI_inj {l m : List Bool} (hl : l.length = m.length) (h : wordsI l = wordsI m) : l = m := by
  apply List.ext_getElem hl
  intro i h1 h2
  have hk : i / 64 < (l.length + 63) / 64 := by omega
  have h3 : (wordsI l)[i / 64]? = (wordsI m)[i / 64]? := by rw [h]
  have hk' : i / 64 < (m.length + 63) / 64 := by omega
  simp only [wordsI, List.getElem?_map, List.getElem?_range hk, List.getElem?_range hk', Option.map_some, Option.some.injEq, Int.natCast_inj] at h3
  have h4 := BitsP.testBit_word l (i / 64) (i % 64)
  have h5 := BitsP.testBit_word m (i / 64) (i % 64)
  rw [h3, h5] at h4
  have e : 64 * (i / 64) + i % 64 = i := by omega
  have e2 : decide (i % 64 < 64) = true := decide_eq_true (Nat.mod_lt _ (by decide))
  rw [e, e2, Bool.true_and, Bool.true_and] at h4
  simpa [List.getD_eq_getElem?_getD, h1, h2] using h4.symm

theorem drewN_succ' (w : World) : ∀ n, ∃ m, w.drewN n = m ∧ m.heap = w.heap := fun n => ⟨_, rfl, rfl⟩

set_option maxRecDepth 100000 in
theorem St.drewN {w0 w : World} {os : List Thing} (h : St w0 w os) (n : Nat) : St w0 (w.drewN n) os := h.same (Keeps.drewN w n)

end Go.Proofs.Ytongakmljbebfaa

