/- The contracts of strings.Builder: WriteByte and String, in the state of a law's memory. -/
import Derived.Test.YtongakmljbebfaaVecOut
import Derived.Lib.Builder
import Derived.Lib.UnsafeStr
import Derived.Shelf.RegionOpenPlain
import Derived.Laws.Externs
namespace Go.Proofs.Ytongakmljbebfaa
open Go.RowKit

theorem St.lose {w0 w w' : World} {o : Thing} {os : List Thing} (h : St w0 w (o :: os)) (hk : Keeps o.foot w w') : St w0 w' os :=
  ⟨h.sep.tail.keep hk (fun p hp g hg hm => h.sep.2.2.1 p hp g hm hg), h.bel.trans (hk.below h.size (fun g hg => h.sep.2.1 g hg))⟩

theorem Keeps.freeze {S : List Nat} {a w : World} (h : Keeps S a w) {p : Addr} (hp : p.block ∈ S ∨ a.heap.size ≤ p.block) (n : Nat) : Keeps S a (w.freeze p n) :=
  h.trans (T := [p.block]) (by
    unfold World.freeze
    split
    · exact Keeps.refl _ _
    · exact ⟨rfl, rfl, rfl, by simp, fun k _ hn => by
        simp only [Array.getElem?_modify]
        rw [if_neg (fun e => hn (by simp [e]))]⟩) (by simpa using hp)

theorem u8_of_nums (l : List Nat) (hl : ∀ x ∈ l, x < 256) : ∃ l8 : List UInt8, l = l8.map UInt8.toNat ∧ strOf l = ⟨l8.toArray⟩ := by
  refine ⟨l.map UInt8.ofNat, ?_, ?_⟩
  · rw [List.map_map]
    conv => lhs; rw [← List.map_id l]
    refine List.map_congr_left fun x hx => ?_
    have := hl x hx
    simp [Nat.mod_eq_of_lt this]
  · simp only [strOf, strOfNums, List.map_map]
    rfl

end Go.Proofs.Ytongakmljbebfaa

