/- The walk of CrcOf. -/
import Derived.Test.YtgpdkobefnhfiaaRef
import Derived.Test.YtgpdkobefnhfiaaGrid
import Derived.Test.YtgpdkobefnhfiaaCloneSt
namespace Go.Proofs.Ytgpdkobefnhfiaa
open Go.RowKit

/-- the checksum's own memory -/
def sumT (b r n : Nat) : Thing where
  foot := [b]
  ok := fun w => w.heap[b]? = some (sumObj r n)
  loc := fun _ _ hh h => by rw [hh b (by simp)]; exact h
  lt := fun w h g hg => by
    simp at hg; subst hg
    exact (Array.getElem?_eq_some_iff.1 h).1

/-- the first k lists' first forty bytes -/
def cat (ls : List (List Nat)) (k : Nat) : List Nat := ((ls.take k).map fun l => l.take 40).flatten

theorem cat_succ (ls : List (List Nat)) (k : Nat) (hk : k < ls.length) : cat ls (k + 1) = cat ls k ++ (ls[k]).take 40 := by
  unfold cat
  rw [List.take_succ_eq_append_getElem hk, List.map_append, List.flatten_append]
  simp only [List.map_cons, List.map_nil, List.flatten_cons, List.flatten_nil, List.append_nil]

theorem cat_length (ls : List (List Nat)) (k : Nat) : (cat ls k).length ≤ 40 * k := by
  induction k with
  | zero => simp [cat]
  | succ k ih =>
    by_cases hk : k < ls.length
    · rw [cat_succ ls k hk, List.length_append, List.length_take]; omega
    · have : cat ls (k + 1) = cat ls k := by
        unfold cat
        rw [List.take_of_length_le (by omega), List.take_of_length_le (by omega)]
      rw [this]; omega

theorem of_add (l p : List Nat) : regAfter (CrcP.of l) p = CrcP.of (l ++ p) := by
  unfold regAfter CrcP.of
  rw [Nat.xor_assoc, Nat.xor_self, Nat.xor_zero, CrcP.run_append]

set_option maxRecDepth 100000 in
set_option maxHeartbeats 4000000 in
theorem crcOf_walk (a0 : Option Addr) (len0 cap0 : Nat) (A0 : Nat → Option Addr) (L0 C0 : Nat → Nat) (Z0 : Nat → List Int) (w : World) (w0 : IsGrid .u8 w a0 len0 cap0 A0 L0 C0 Z0) :
    Calls Try.prog 5 #[.slice a0 len0 cap0] w fun e w' => e = .returned (.bool true) ∧ Below w.heap.size w w' := by
  obtain ⟨ls, e0, G0, m0⟩ := w0.bytes
  subst e0
  clear w0
  obtain ⟨i0, hi, hz0, hz1, hz2⟩ := info_parts info_u8
  have hm0 : ls.length ≤ 9223372036854775807 := by unfold maxLen at m0; omega
  clear m0
  go_enter Try.func5, Try.ntmps5
  go_wp2_with fail
  refine (awake_any w).mono ?_
  rintro e w1 ⟨rfl, hb1⟩
  have S1 := Lib.hid ((St.start w).below hb1)
  go_wp2_with fail
  refine (new_any w1).mono ?_
  rintro e w2 ⟨rfl, rfl⟩
  have S2 : Hid (St w (w1.alloc (sumObj 0 0)) (sumT w1.heap.size 0 0 :: [])) :=
    S1.out.new (o := sumT w1.heap.size 0 0) ((Keeps.refl _ _).alloc _) (heap_alloc_new w1 _) (by simp [sumT])
  generalize w1.alloc (sumObj 0 0) = w2 at S2
  generalize w1.heap.size = bs at S2
  clear S1 hb1 w1
  go_wp2_with fail
  have hof0 : CrcP.of [] = 0 := by decide +kernel
  go_loopw [4, 14] (fun v i wr => ∃ k : Nat, k ≤ ls.length ∧ k ≤ 8 ∧ i = .int .i64 k ∧ (∀ x ∈ cat ls k, x < 256) ∧ St w wr (rowT 5 v (bytesOf (cat ls k)) :: sumT bs (CrcP.of (cat ls k)) (cat ls k).length :: [])) (fun _ i _ => ls.length - (intOf i).toNat)
  case atStart =>
    refine ⟨0, by omega, by omega, rfl, by simp [cat], ?_⟩
    have e : cat ls 0 = [] := by simp [cat]
    rw [e, hof0]
    exact S2.out.new (o := rowT 5 (.slice none 0 0) (bytesOf [])) (Keeps.refl _ _) (World.ownsRow_nil _ _ _ _) (by simp [rowT, Value.ownBlock])
  case round =>
    obtain ⟨k, hk, hk8, rfl, hb, hS⟩ := hrel
    clear S2 hof0
    have hcl := cat_length ls k
    obtain ⟨av, cv, rfl, hcv, _⟩ := ownsRow_slice hS.row
    rw [bytesOf_len] at hS hcv ⊢
    by_cases hlt : k < ls.length
    · obtain ⟨gb, off, a', cap', rfl, c0, RL, bL, mL⟩ := G0.get k hlt
      have cG : wr.cell? ⟨gb, off + k, none⟩ = some (.slice a' (ls[k]).length cap') := (hS.bel.cell (p := ⟨gb, off + k, none⟩) (World.block_lt_of_cell? w _ c0)).trans c0
      by_cases h8 : k < 8
      · have hcat := cat_succ ls k hlt
        have RL' := hS.arg RL
        generalize ls[k] = l at cG RL' bL mL hcat
        unfold maxLen at mL
        obtain ⟨n, hn, n0, n3⟩ : ∃ n, n = min l.length 40 ∧ n ≤ l.length ∧ n ≤ 40 := ⟨_, rfl, by omega, by omega⟩
        have hmin : ∀ w, (Builtin.min_ #[3, 3] 3 #[.int .i64 l.length, .int .i64 40]).run Try.prog w = .ok (.int .i64 n) w := fun w => by
          simp [Builtin.min_, Builtin.min2]
          omega
        have hcapl := RL'.len_le
        have hncap : n ≤ cap' := by omega
        have RP := RL'.take n n0
        rw [bytesOf_take] at RP
        have htk : l.take 40 = l.take n := by
          rw [hn]
          by_cases h : l.length ≤ 40
          · rw [List.take_of_length_le h, List.take_of_length_le (by omega)]
          · rw [show min l.length 40 = 40 from by omega]
        have bp : ∀ x ∈ l.take n, x < 256 := fun x hx => bL x (List.mem_of_mem_take hx)
        have ep : (l.take n).length = n := by simp; omega
        rw [htk] at hcat
        generalize l.take n = p at RP bp ep hcat
        have HCAT := Lib.hid hcat
        have HS := Lib.hid hS
        have HRP := Lib.hid RP
        have HEP := Lib.hid ep
        clear hcat hS RP ep hn htk RL RL' c0
        go_wp2_with fail
        clear hmin cG
        rw [← HEP.out]
        refine (cloneBytes_st HS.out _ p (by rw [HEP.out]; exact HRP.out) (by rw [HEP.out]; omega)).mono ?_
        rintro e w3 ⟨ap, cp, rfl, S3, hk3, hcp⟩
        clear HS HRP
        have hp40 : p.length ≤ 40 := by rw [HEP.out]; omega
        have S := Lib.hid S3.rot3
        clear S3 hk3 HEP n0 n3 hncap hcapl
        -- the copy
        go_wp2_with fail
        refine (copy_any bs _ _ _ (S.out.ok (o := sumT bs (CrcP.of (cat ls k)) (cat ls k).length) (by simp))).mono ?_
        rintro e w4 ⟨rfl, rfl⟩
        have hA : Keeps [] w3 (w3.alloc (sumObj (CrcP.of (cat ls k)) (cat ls k).length)).drew := ((Keeps.refl [] w3).alloc _).drew
        have SC := S.out.new (o := sumT w3.heap.size (CrcP.of (cat ls k)) (cat ls k).length) hA (heap_alloc_new w3 _) (by simp [sumT])
        generalize (w3.alloc (sumObj (CrcP.of (cat ls k)) (cat ls k).length)).drew = w4 at SC
        generalize w3.heap.size = bc at SC
        clear S hA
        have S := Lib.hid SC
        clear SC
        go_wp2_with fail
        refine (value_any bc _ _ _ (S.out.ok (o := sumT bc (CrcP.of (cat ls k)) (cat ls k).length) (by simp))).mono ?_
        rintro e w5 ⟨rfl, rfl⟩
        go_wp2_with fail
        have hofl : CrcP.of (cat ls k) < 4294967296 := CrcP.of_lt hb
        refine (add_any bs _ _ _ p _ (S.out.ok (o := sumT bs (CrcP.of (cat ls k)) (cat ls k).length) (by simp)) (S.out.reads (E := 5) (xs := bytesOf p) (by simp)) hofl bp (by omega)).mono ?_
        rintro e w5 ⟨rfl, hb5, hk5⟩
        rw [of_add, ← HCAT.out] at hb5
        have hlen : (cat ls k).length + p.length = (cat ls (k + 1)).length := by rw [HCAT.out, List.length_append]
        rw [hlen] at hb5
        have S5 := S.out.swap.turn (o' := sumT bs (CrcP.of (cat ls (k + 1))) (cat ls (k + 1)).length) hk5 hb5 (fun g hg => .inl hg)
        clear S hb5 hk5
        have S := Lib.hid S5
        clear S5
        have hofs : CrcP.of (cat ls (k + 1)) < 4294967296 := CrcP.of_lt (by rw [HCAT.out]; intro x hx; rcases List.mem_append.1 hx with h | h; exact hb x h; exact bp x h)
        have hb1 : ∀ x ∈ cat ls (k + 1), x < 256 := by
          rw [HCAT.out]; intro x hx; rcases List.mem_append.1 hx with h | h; exact hb x h; exact bp x h
        have HLEN := Lib.hid hlen
        clear hlen
        have S := Lib.hid S.out.rot4
        have RP := Lib.hid (S.out.reads (E := 5) (v := .slice ap p.length cp) (xs := bytesOf p) (by simp))
        go_wp2_with (at_builtin; refine wpList_append_st rfl _ _ 22 rfl 5 i0 (.int .u8 0) 1 Try.underlying22 hi hz0 hz1 hz2 rfl _ _ _ (bytesOf p) rfl rfl S.out RP.out (oneCell_bytes _) ?c1 ?c2 ?_)
        case c1 => rw [bytesOf_len, bytesOf_len]; unfold maxLen; omega
        case c2 => rw [bytesOf_len, bytesOf_len]; omega
        intro v6 w6 S6
        rw [← bytesOf_append, ← HCAT.out] at S6
        obtain ⟨a6, c6, rfl, hc6, _⟩ := ownsRow_slice S6.row
        rw [bytesOf_len] at S6 hc6 ⊢
        clear RP S
        have S := Lib.hid S6
        clear S6
        have hcl1 := cat_length ls (k + 1)
        go_wp2_with fail
        refine (value_any bc _ _ _ (S.out.ok (o := sumT bc (CrcP.of (cat ls k)) (cat ls k).length) (by simp))).mono ?_
        rintro e w7 ⟨rfl, rfl⟩
        go_wp2_with fail
        refine (value_any bs _ _ _ (S.out.ok (o := sumT bs (CrcP.of (cat ls (k + 1))) (cat ls (k + 1)).length) (by simp))).mono ?_
        rintro e w7 ⟨rfl, rfl⟩
        go_wp2_with fail
        refine (refOf_any _ _ _ (S.out.reads (E := 5) (xs := bytesOf (cat ls (k + 1))) (by simp)) hb1 (by omega)).mono ?_
        rintro e w7 ⟨rfl, hk7⟩
        have S7 := Lib.hid (S.out.same hk7)
        clear S hk7
        go_wp2_with fail
        refine (len_any bs _ _ _ (S7.out.ok (o := sumT bs (CrcP.of (cat ls (k + 1))) (cat ls (k + 1)).length) (by simp))).mono ?_
        rintro e w8 ⟨rfl, rfl⟩
        go_wp2_with fail
        have S8 := Lib.hid S7.out.rot3
        clear S7
        refine (add_any bc _ _ _ p _ (S8.out.ok (o := sumT bc (CrcP.of (cat ls k)) (cat ls k).length) (by simp)) (S8.out.reads (E := 5) (xs := bytesOf p) (by simp)) hofl bp (by omega)).mono ?_
        rintro e w8 ⟨rfl, hb8, hk8'⟩
        rw [of_add, ← HCAT.out, HLEN.out] at hb8
        have S9 := Lib.hid (S8.out.turn (o' := sumT bc (CrcP.of (cat ls (k + 1))) (cat ls (k + 1)).length) hk8' hb8 (fun g hg => .inl hg))
        clear S8 hb8 hk8'
        go_wp2_with fail
        refine (value_any bc _ _ _ (S9.out.ok (o := sumT bc (CrcP.of (cat ls (k + 1))) (cat ls (k + 1)).length) (by simp))).mono ?_
        rintro e w9 ⟨rfl, rfl⟩
        go_wp2_with fail
        refine (value_any bs _ _ _ (S9.out.ok (o := sumT bs (CrcP.of (cat ls (k + 1))) (cat ls (k + 1)).length) (by simp))).mono ?_
        rintro e w9 ⟨rfl, rfl⟩
        go_wp2_with fail
        refine (len_any bc _ _ _ (S9.out.ok (o := sumT bc (CrcP.of (cat ls (k + 1))) (cat ls (k + 1)).length) (by simp))).mono ?_
        rintro e w9 ⟨rfl, rfl⟩
        go_wp2_with fail
        refine (len_any bs _ _ _ (S9.out.ok (o := sumT bs (CrcP.of (cat ls (k + 1))) (cat ls (k + 1)).length) (by simp))).mono ?_
        rintro e w9 ⟨rfl, rfl⟩
        go_wp2
        go_roundw
        case rel => exact ⟨k + 1, by omega, by omega, by go_num, hb1, S9.out.tail.rot3.tail⟩
        case measure => simp [intOf]; omega
      · have HS := Lib.hid hS
        clear hS RL c0
        have h8' : 8 ≤ k := by omega
        clear h8
        go_wp2_with fail
        refine (crcOf_any _ _ _ (HS.out.reads (E := 5) (xs := bytesOf (cat ls k)) (by simp)) hb (by omega)).mono ?_
        rintro e w5 ⟨rfl, hb5⟩
        have S5 := Lib.hid (HS.out.below hb5)
        clear HS hb5
        go_wp2_with fail
        refine (refOf_any _ _ _ (S5.out.reads (E := 5) (xs := bytesOf (cat ls k)) (by simp)) hb (by omega)).mono ?_
        rintro e w6 ⟨rfl, hk6⟩
        go_wp2
        go_ret
        exact ⟨rfl, (S5.out.same hk6).bel⟩
    · have HS := Lib.hid hS
      clear hS
      go_wp2_with fail
      refine (crcOf_any _ _ _ (HS.out.reads (E := 5) (xs := bytesOf (cat ls k)) (by simp)) hb (by omega)).mono ?_
      rintro e w5 ⟨rfl, hb5⟩
      have S5 := Lib.hid (HS.out.below hb5)
      clear HS hb5
      go_wp2_with fail
      refine (refOf_any _ _ _ (S5.out.reads (E := 5) (xs := bytesOf (cat ls k)) (by simp)) hb (by omega)).mono ?_
      rintro e w6 ⟨rfl, hk6⟩
      go_wp2
      go_ret
      exact ⟨rfl, (S5.out.same hk6).bel⟩
end Go.Proofs.Ytgpdkobefnhfiaa
