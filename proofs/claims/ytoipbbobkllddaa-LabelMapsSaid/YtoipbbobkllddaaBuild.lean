/- The contracts of strings.Builder: WriteByte and String, in the state of a law's memory. -/
import Derived.Test.YtoipbbobkllddaaVecOut
import Derived.Lib.Builder
import Derived.Lib.UnsafeStr
import Derived.Shelf.RegionOpenPlain
import Derived.Laws.Externs
namespace Go.Proofs.Ytoipbbobkllddaa
open Go.RowKit

theorem St.lose {w0 w w' : World} {o : Thing} {os : List Thing} (h : St w0 w (o :: os)) (hk : Keeps o.foot w w') : St w0 w' os :=
  ⟨h.sep.tail.keep hk (fun p hp g hg hm => h.sep.2.2.1 p hp g hm hg), h.bel.trans (hk.below h.size (fun g hg => h.sep.2.1 g hg))⟩

theorem Keeps.freeze {S : List Nat} {a w : World} (h : Keeps S a w) {p : Addr} (hp : p.block ∈ S ∨ a.heap.size ≤ p.block) (n : Nat) : Keeps S a (w.freeze p n) :=
  h.trans (T := [p.block]) (by
    unfold World.freeze
    split
    · exact Keeps.refl _ _
    · exact ⟨rfl, rfl, rfl, by simp, fun k _ hn => by
        simp only [Array.getElem?_modify]
        rw [if_neg (fun e => hn (by simp [e]))]⟩) (by simpa using hp)

/-- a builder's own block -/
def bldObj (p v : Value) : Obj := .cells #[p, v] 91 (0, 0)

set_option maxRecDepth 100000 in
theorem copyCheck_used (b : Nat) (w : World) (h0 : w.cell? ⟨b, 0, none⟩ = some (.pointer (some ⟨b, 0, none⟩))) :
    Calls Try.prog 64 #[.pointer (some ⟨b, 0, none⟩)] w fun e w' => e = .returned (.tuple #[]) ∧ w' = w := by
  obtain ⟨j, hj, _⟩ := Option.map_eq_some_iff.1 (show (Try.prog.info? 91).map (·.size) = some 2 by kernel_rfl)
  go_enter Try.func64, Try.ntmps64
  go_wp2
  rw [Lib.run_neq_ptr_same w _ Try.underlying89 hj]
  go_wp2
  go_end0
  exact ⟨rfl, rfl⟩

set_option maxRecDepth 100000 in
theorem copyCheck_fresh (b : Nat) (w : World) (h0 : w.cell? ⟨b, 0, none⟩ = some (.pointer none)) (hsh : w.shape? b = some (91, 2)) (hfz : w.frozen? ⟨b, 0, none⟩ = false) :
    Calls Try.prog 64 #[.pointer (some ⟨b, 0, none⟩)] w fun e w' => e = .returned (.tuple #[]) ∧ w' = w.setCell ⟨b, 0, none⟩ (.pointer (some ⟨b, 0, none⟩)) := by
  obtain ⟨j, hj, hjs⟩ := Option.map_eq_some_iff.1 (show (Try.prog.info? 91).map (·.size) = some 2 by kernel_rfl)
  go_enter Try.func64, Try.ntmps64
  go_wp2
  rw [Lib.run_to_unsafe w ⟨b, 0, none⟩ Try.underlying89 Try.underlying114 hj (by rw [hjs]; decide) hsh (Nat.zero_lt_succ 1)]
  simp only [Result.andThen]
  rw [Oper.upon_value]
  go_wp2
  rw [run_callFunc_extern Try.func68 (by kernel_rfl) (by kernel_rfl) (by kernel_rfl) (e := Extern.AbiNoEscape.same) (by kernel_rfl)]
  rw [Lib.run_noEscape]
  simp only [Result.andThen]
  rw [Oper.upon_value]
  go_wp2
  rw [Lib.run_from_unsafe w ⟨b, 0, none⟩ Try.underlying114 Try.underlying89 hj hsh (by kernel_rfl)]
  simp only [Result.andThen]
  rw [Oper.upon_value]
  go_wp2
  go_end0
  exact ⟨rfl, rfl⟩

set_option maxRecDepth 100000 in
theorem copyCheck_any {w0 w : World} {os : List Thing} {b : Nat} {p v : Value} (h : St w0 w (cellT b (bldObj p v) :: os)) (hp : p = .pointer none ∨ p = .pointer (some ⟨b, 0, none⟩)) :
    Calls Try.prog 64 #[.pointer (some ⟨b, 0, none⟩)] w fun e w' => e = .returned (.tuple #[]) ∧ St w0 w' (cellT b (bldObj (.pointer (some ⟨b, 0, none⟩)) v) :: os) := by
  rcases hp with rfl | rfl
  · refine (copyCheck_fresh b w (h.cellAt 0) (by simp [World.shape?, h.block, bldObj]) (h.freeAt 0)).mono ?_
    rintro e w' ⟨rfl, rfl⟩
    exact ⟨rfl, h.storeCell 0 _⟩
  · refine (copyCheck_used b w (h.cellAt 0)).mono ?_
    rintro e w' ⟨rfl, rfl⟩
    exact ⟨rfl, h⟩

set_option maxHeartbeats 1000000 in
theorem writeByte_any {w0 w : World} {os : List Thing} {b : Nat} {p v : Value} {l : List Nat} (h : St w0 w (cellT b (bldObj p v) :: rowT 5 v (bytesOf l) :: os)) (hp : p = .pointer none ∨ p = .pointer (some ⟨b, 0, none⟩))
    (x : Nat) (hn : l.length < 1099511627776) :
    Calls Try.prog 49 #[.pointer (some ⟨b, 0, none⟩), .int .u8 x] w fun e w' => e = .returned .nilIface ∧ ∃ v', St w0 w' (cellT b (bldObj (.pointer (some ⟨b, 0, none⟩)) v') :: rowT 5 v' (bytesOf (l ++ [x])) :: os) := by
  obtain ⟨i0, hi, hz0, hz1, hz2⟩ := info_parts info_u8
  have hcc := Lib.hid (fun (_ : Unit) => copyCheck_any h hp)
  have hbl : (bytesOf l).length = l.length := bytesOf_len l
  have HM := Lib.hid (fun w1 : World => Reads.made w1 #[.int .u8 (x : Int)] 5 (0, 0) 1 (by simp) (by decide))
  have HB := Lib.hid hbl
  have HA := Lib.hid (bytesOf_append l [x])
  clear h hbl
  go_enter Try.func49, Try.ntmps49
  go_wp2_with fail
  refine (hcc.out ()).mono ?_
  rintro e w1 ⟨rfl, h1⟩
  obtain ⟨a, cap, rfl, hcap, hcm⟩ := ownsRow_slice h1.swap.row
  rw [HB.out] at hcap h1
  have c1 : w1.cell? ⟨b, 1, none⟩ = some (.slice a l.length cap) := h1.cellAt 1
  have H1 := Lib.hid h1.swap
  clear h1
  go_wp2_with (at_builtin; refine wpList_append_st rfl _ _ 37 rfl 5 i0 (.int .u8 0) 1 Try.underlying37 hi hz0 hz1 hz2 rfl _ _ _ [.int .u8 x] rfl rfl (H1.out.alloc _) (HM.out _) (one_oneCell _ rfl) ?c1 ?c2 ?_)
  case c1 => simp only [HB.out, List.length_cons, List.length_nil]; unfold maxLen; omega
  case c2 => simp only [HB.out, List.length_cons, List.length_nil]; omega
  intro v1 w2 S1
  obtain ⟨a1, cap1, rfl, hcap1, hcm1⟩ := ownsRow_slice S1.row
  have hl1 : (bytesOf l ++ [Value.int .u8 (x : Int)]).length = l.length + 1 := by rw [List.length_append, HB.out]; rfl
  rw [hl1] at S1
  have S2 := S1.swap
  have k0 : w2.cell? ⟨b, 1, none⟩ = some (.slice a l.length cap) := S2.cellAt 1
  have kf : w2.frozen? ⟨b, 1, none⟩ = false := S2.freeAt 1
  have S3 := Lib.hid (S2.storeCell 1 (.slice a1 (l.length + 1) cap1))
  rw [hl1]
  clear S1 S2 hl1
  go_wp2
  go_ret
  refine ⟨rfl, .slice a1 (l.length + 1) cap1, ?_⟩
  rw [HA.out]
  exact S3.out

theorem u8_of_nums (l : List Nat) (hl : ∀ x ∈ l, x < 256) : ∃ l8 : List UInt8, l = l8.map UInt8.toNat ∧ strOf l = ⟨l8.toArray⟩ := by
  refine ⟨l.map UInt8.ofNat, ?_, ?_⟩
  · rw [List.map_map]
    conv => lhs; rw [← List.map_id l]
    refine List.map_congr_left fun x hx => ?_
    have := hl x hx
    simp [Nat.mod_eq_of_lt this]
  · simp only [strOf, strOfNums, List.map_map]
    rfl

set_option maxRecDepth 100000 in
set_option maxHeartbeats 2000000 in
theorem bldString_nil {w0 w : World} {os : List Thing} {b : Nat} {p : Value} (h : St w0 w (cellT b (bldObj p (.slice none 0 0)) :: os)) :
    Calls Try.prog 51 #[.pointer (some ⟨b, 0, none⟩)] w fun e w' => e = .returned (.string (strOf [])) ∧ St w0 w' os := by
  have HS := Lib.hid h.tail.drew
  have hUS : ∀ W : World, (Builtin.unsafeString_ #[112, 3] 9 #[.pointer none, .int .i64 0]).run Try.prog W = .ok (.string .empty) W := fun W => Lib.run_unsafeString_none W _ _ _ _
  have c1 : w.drew.cell? ⟨b, 1, none⟩ = some (.slice none 0 0) := by
    rw [show w.drew.cell? ⟨b, 1, none⟩ = w.cell? ⟨b, 1, none⟩ from rfl]; exact h.cellAt 1
  have hSD : (Builtin.unsafeSliceData_ #[37] 112 #[.slice none 0 0]).run Try.prog w.drew = .ok (.pointer none) w.drew := rfl
  clear h
  go_enter Try.func51, Try.ntmps51
  have mixed : Try.prog.follows Departure.mixedOrders = true := by kernel_rfl
  go_wp2
  go_region_o
  all_goals (go_wp2; go_ret; exact ⟨rfl, HS.out⟩)

set_option maxRecDepth 100000 in
set_option maxHeartbeats 2000000 in
theorem bldString_any {w0 w : World} {os : List Thing} {b : Nat} {p v : Value} {l : List Nat} (h : St w0 w (cellT b (bldObj p v) :: rowT 5 v (bytesOf l) :: os)) (hl : ∀ x ∈ l, x < 256) (hv : l = [] → v = .slice none 0 0) :
    Calls Try.prog 51 #[.pointer (some ⟨b, 0, none⟩)] w fun e w' => e = .returned (.string (strOf l)) ∧ St w0 w' os := by
  by_cases hl0 : l = []
  · subst hl0
    obtain rfl := hv rfl
    refine (bldString_nil h).mono ?_
    rintro e w' ⟨rfl, h'⟩
    exact ⟨rfl, h'.tail⟩
  clear hv
  have HS : Hid (∀ w', Keeps (rowT 5 v (bytesOf l)).foot w w' → St w0 w' os) := fun w' hk => h.tail.lose hk
  have c1 : w.drew.cell? ⟨b, 1, none⟩ = some v := by
    rw [show w.drew.cell? ⟨b, 1, none⟩ = w.cell? ⟨b, 1, none⟩ from rfl]; exact h.cellAt 1
  obtain ⟨l8, hl8, hstr⟩ := u8_of_nums l hl
  rw [hstr]
  have hrow := h.swap.row
  have hll : (bytesOf l).length = l8.length := by rw [bytesOf_len, hl8]; simp
  have hbs : bytesOf l = l8.map fun x => Value.int .u8 (x.toNat : Int) := by rw [hl8, bytesOf, List.map_map]; rfl
  rw [hll] at hrow
  have h80 : l8 ≠ [] := by rintro rfl; exact hl0 hl8
  have hl80 : l8.length ≠ 0 := by simpa using h80
  have hsame := hrow
  obtain ⟨g, cap, cur, rfl, hg, hnc, hcm, hcs⟩ : ∃ g cap cur, v = .slice (some ⟨g, 0, none⟩) l8.length cap ∧ w.heap[g]? = some (.cells cur 5 (0, 0)) ∧ l8.length ≤ cap ∧ cap ≤ maxLen ∧ cur.size = cap * 1 := by
    rcases hrow.2 with ⟨rfl, h0⟩ | ⟨g, cap, cur, rfl, _, hg, hnc, hcm, hcs, htake⟩
    · exact absurd h0 hl80
    · exact ⟨g, cap, cur, rfl, hg, hnc, hcm, hcs⟩
  have hSD : (Builtin.unsafeSliceData_ #[37] 112 #[.slice (some ⟨g, 0, none⟩) l8.length cap]).run Try.prog w.drew = .ok (.pointer (some ⟨g, 0, none⟩)) w.drew :=
    Lib.run_unsafeSliceData_row _ _ _ _ _ _ (by omega)
  have hUS : (Builtin.unsafeString_ #[112, 3] 9 #[.pointer (some ⟨g, 0, none⟩), .int .i64 l8.length]).run Try.prog w.drew = .ok (.string ⟨l8.toArray⟩) (w.drew.freeze ⟨g, 0, none⟩ l8.length) := by
    refine Lib.run_unsafeString_row w.drew 112 3 9 5 Try.underlying112 (by kernel_rfl) g cur.size (by have hg' : w.drew.heap[g]? = some (.cells cur 5 (0, 0)) := hg; simp [World.shape?, hg']) l8 h80 (by omega) (by unfold maxLen at hcm; omega) ?_
    intro j x hx
    exact hsame.cells (g := g) rfl j (.int .u8 x.toNat) (by simp [hbs, hx])
  have HK : Hid (Keeps (rowT 5 (.slice (some ⟨g, 0, none⟩) l8.length cap) (bytesOf l)).foot w (w.drew.freeze ⟨g, 0, none⟩ l8.length)) :=
    ((Keeps.refl _ w).drew).freeze (.inl (by simp [rowT, Value.ownBlock])) _
  clear h hrow hsame hg hnc hcm hcs h80 hl80 hbs hll hl hl0 hl8 hstr
  go_enter Try.func51, Try.ntmps51
  have mixed : Try.prog.follows Departure.mixedOrders = true := by kernel_rfl
  go_wp2
  go_region_o
  all_goals (go_wp2; go_ret; exact ⟨rfl, HS.out _ HK.out⟩)
end Go.Proofs.Ytoipbbobkllddaa

