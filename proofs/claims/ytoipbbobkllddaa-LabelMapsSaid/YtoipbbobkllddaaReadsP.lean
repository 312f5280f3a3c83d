/- Plain: names that were read are written as the same bits. -/
import Derived.Test.YtoipbbobkllddaaLabel
namespace Go.Proofs.Ytoipbbobkllddaa

theorem numBits_num (c : List Bool) : numBits (BitsP.num c) c.length = c := by
  show (List.range c.length).map (fun i => (BitsP.num c).testBit i) = c
  apply List.ext_getElem
  · simp
  · intro i h1 h2
    rw [List.getElem_map, List.getElem_range, BitsP.testBit_num, List.getD_eq_getElem?_getD, List.getElem?_eq_getElem h2]; rfl

/-- the dart that the bits of an edge say -/
def dAt (l : List Bool) (w e : Nat) : Nat := 2 * BitsP.num ((l.drop (e * (w + 1))).take w) + (l.getD (e * (w + 1) + w) false).toNat

/-- the darts of the first edges -/
def decL (l : List Bool) (w : Nat) : Nat → List Int
  | 0 => []
  | e + 1 => decL l w e ++ [(dAt l w e : Int), mateI (dAt l w e : Int)]

theorem decL_len (l : List Bool) (w : Nat) : ∀ e, (decL l w e).length = 2 * e
  | 0 => rfl
  | e + 1 => by unfold decL; rw [List.length_append, decL_len l w e]; simp; omega

theorem decL_get (l : List Bool) (w : Nat) : ∀ n e, e < n → (decL l w n).getD (2 * e) 0 = (dAt l w e : Int) ∧ (decL l w n).getD (2 * e + 1) 0 = mateI (dAt l w e : Int)
  | 0, e, h => by omega
  | n + 1, e, h => by
    unfold decL
    have hl := decL_len l w n
    by_cases he : e < n
    · have := decL_get l w n e he
      simp only [List.getD_eq_getElem?_getD] at this ⊢
      rw [List.getElem?_append_left (by omega), List.getElem?_append_left (by omega)]
      exact this
    · obtain rfl : e = n := by omega
      simp only [List.getD_eq_getElem?_getD]
      rw [List.getElem?_append_right (by omega), List.getElem?_append_right (by omega), hl]
      simp

theorem decL_mates (l : List Bool) (w n : Nat) : MatesTo (decL l w n) n := fun j hj => by
  obtain ⟨h1, h2⟩ := decL_get l w n j hj
  rw [h1, h2]

theorem decL_half (l : List Bool) (w n : Nat) : (decL l w n).length % 2 = 0 ∧ (decL l w n).length / 2 = n := by rw [decL_len]; omega

theorem decL_mates_iff (l : List Bool) (w n : Nat) : Mates (decL l w n) ↔ IsPerm (decL l w n) := by
  obtain ⟨h1, h2⟩ := decL_half l w n
  constructor
  · exact fun h => h.1
  · intro h
    rw [mates_iff _ h h1, h2]
    exact decL_mates l w n

theorem labelB_decL (l : List Bool) (n : Nat) (hl : l.length = n * (widthN n + 1)) : ∀ k, k ≤ n → labelB (decL l (widthN n) n) n k = l.take (k * (widthN n + 1))
  | 0, _ => by simp [labelB]
  | k + 1, hk => by
    obtain ⟨h1, _⟩ := decL_get l (widthN n) n k (by omega)
    unfold labelB
    rw [labelB_decL l n hl k (by omega), h1]
    obtain ⟨w, hw⟩ : ∃ w, widthN n = w := ⟨_, rfl⟩
    rw [hw] at hl h1 ⊢
    obtain ⟨a, ha⟩ : ∃ a, k * (w + 1) = a := ⟨_, rfl⟩
    have haw : a + (w + 1) ≤ l.length := by
      rw [hl, ← ha, ← Nat.succ_mul]; exact Nat.mul_le_mul_right _ (by omega)
    have hs : (k + 1) * (w + 1) = a + (w + 1) := by rw [Nat.succ_mul, ha]
    rw [hs, ha, List.take_add]
    have hd : dAt l w k = 2 * BitsP.num ((l.drop a).take w) + (l.getD (a + w) false).toNat := by unfold dAt; rw [ha]
    have hcl : ((l.drop a).take w).length = w := by rw [List.length_take, List.length_drop]; omega
    have h2 : ((dAt l w k : Int) / 2).toNat = BitsP.num ((l.drop a).take w) := by
      rw [hd]; cases l.getD (a + w) false <;> (simp; try omega)
    have h3 : ((dAt l w k : Int) % 2 != 0) = l.getD (a + w) false := by
      rw [hd]
      cases l.getD (a + w) false
      · simp
      · have : ((2 * BitsP.num ((l.drop a).take w) + true.toNat : Nat) : Int) % 2 = 1 := by simp <;> omega
        rw [this]; rfl
    have h4 : numBits (BitsP.num ((l.drop a).take w)) w = (l.drop a).take w := by
      have := numBits_num ((l.drop a).take w)
      rwa [hcl] at this
    rw [h2, h3, h4, List.append_assoc]
    congr 1
    have hwd : w < (l.drop a).length := by rw [List.length_drop]; omega
    rw [List.take_succ_eq_append_getElem hwd]
    congr 1
    rw [List.getElem_drop, List.getD_eq_getElem?_getD, List.getElem?_eq_getElem (by omega)]; rfl

theorem labelB_all (l : List Bool) (n : Nat) (hl : l.length = n * (widthN n + 1)) : labelB (decL l (widthN n) n) n n = l := by
  rw [labelB_decL l n hl n (Nat.le_refl _), ← hl, List.take_length]
end Go.Proofs.Ytoipbbobkllddaa

