/- The document's functions for bits: Size, Value, Few. -/
import Derived.Test.YtoipbbobkllddaaText
namespace Go.Proofs.Ytoipbbobkllddaa
open Go.RowKit

/-- bits as numbers -/
def bitsOf (l : List Bool) : List Int := l.map fun b => ((b.toNat : Nat) : Int)
theorem bitsOf_len (l : List Bool) : (bitsOf l).length = l.length := by simp [bitsOf]
theorem bitsOf_get (l : List Bool) (j : Nat) (h : j < l.length) : (intsOf (bitsOf l))[j]? = some (.int .i64 (((l.getD j false).toNat : Nat) : Int)) := by
  simp [intsOf, bitsOf, h, List.getD]
theorem bitsOf_append (l m : List Bool) : intsOf (bitsOf (l ++ m)) = intsOf (bitsOf l) ++ intsOf (bitsOf m) := by simp [intsOf, bitsOf]
theorem flags_bitsOf (l : List Bool) : flags (bitsOf l) = l := by
  induction l with
  | nil => rfl
  | cons b l ih =>
    rw [bitsOf, List.map_cons, flags, List.map_cons]
    have : (l.map fun b => ((b.toNat : Nat) : Int)).map (fun x => x != 0) = l := ih
    rw [this]
    cases b <;> rfl
theorem bits_oneCell (l : List Int) : ∀ u ∈ intsOf l, u.oneCell' = true := by
  intro u hu
  obtain ⟨x, _, rfl⟩ := List.mem_map.1 hu
  rfl

/-- how many bits -/
def sizeOf' (k : Int) : Nat := min 64 k.toNat

set_option maxRecDepth 100000 in
theorem refSize_any (k : Int) (w : World) : Calls Try.prog 65 #[.int .i64 k] w fun e w' => e = .returned (.int .i64 (sizeOf' k : Nat)) ∧ w = w' := by
  by_cases h0 : k < 0
  · have e : sizeOf' k = 0 := by unfold sizeOf'; omega
    rw [e]
    clear e
    go_enter Try.func65, Try.ntmps65
    go_wp2
    go_ret
    exact ⟨rfl, rfl⟩
  · by_cases h1 : k > 64
    · have e : sizeOf' k = 64 := by unfold sizeOf'; omega
      rw [e]
      clear e
      go_enter Try.func65, Try.ntmps65
      go_wp2
      go_ret
      exact ⟨rfl, rfl⟩
    · have e : Hid (((sizeOf' k : Nat) : Int) = k) := by
        show ((sizeOf' k : Nat) : Int) = k
        unfold sizeOf'; omega
      go_enter Try.func65, Try.ntmps65
      go_wp2
      go_ret
      exact ⟨by rw [e.out]; rfl, rfl⟩

theorem num_drop (l : List Bool) (k : Nat) (h : k < l.length) : BitsP.num (l.drop k) = (l.getD k false).toNat + 2 * BitsP.num (l.drop (k + 1)) := by
  rw [List.drop_eq_getElem_cons h]
  simp [BitsP.num, List.getD, h]

set_option maxRecDepth 100000 in
set_option maxHeartbeats 1000000 in
theorem refValue_any (sv : Value) (l : List Bool) (w : World) (hv : Reads w sv (intsOf (bitsOf l))) (hn : l.length ≤ 64) :
    Calls Try.prog 54 #[sv] w fun e w' => e = .returned (.int .u64 (BitsP.num l : Nat)) ∧ w = w' := by
  obtain ⟨ao, cap, rfl, hcap, hm, _, hc0⟩ := hv
  rw [intsOf_len, bitsOf_len] at hcap ⊢
  have HC := Lib.hid hc0
  have HN := Lib.hid hn
  clear hm hc0
  go_enter Try.func54, Try.ntmps54
  go_wp2_with fail
  go_loopw [3, 4] (fun x i wr => ∃ k : Nat, k ≤ l.length ∧ x = .int .u64 (BitsP.num (l.drop k) : Nat) ∧ i = .int .i64 ((k : Int) - 1) ∧ w = wr) (fun _ i _ => (intOf i + 1).toNat)
  case atStart => exact ⟨l.length, by omega, by rw [List.drop_length]; rfl, by go_num, rfl⟩
  case round =>
    obtain ⟨k, hk, rfl, rfl, rfl⟩ := hrel
    by_cases hlt : 0 < k
    · obtain ⟨j, rfl⟩ : ∃ j, k = j + 1 := ⟨k - 1, by omega⟩
      rcases HC.out with hc | ⟨bb, off, rfl, hc⟩
      · have : l.length = 0 := by rw [← bitsOf_len, ← intsOf_len, hc]; rfl
        omega
      have cb := hc j _ (bitsOf_get l j (by omega))
      have hd := num_drop l j (by omega)
      have hb : BitsP.num (l.drop j) < 18446744073709551616 := by
        have h1 := BitsP.num_lt (l.drop j)
        have h2 : 2 ^ (l.drop j).length ≤ 2 ^ 64 := Nat.pow_le_pow_right (by decide) (by rw [List.length_drop]; omega)
        omega
      have ht : (l.getD j false).toNat < 2 := by cases l.getD j false <;> decide
      generalize (l.getD j false).toNat = t at cb hd ht
      rw [hd] at hb
      have HD := Lib.hid hd
      generalize BitsP.num (l.drop (j + 1)) = q at hb HD ⊢
      have hj64 : j < 64 := by omega
      clear hc hd hn
      have hj : (((j + 1 : Nat) : Int) - 1) = (j : Int) := by omega
      rw [hj]
      clear hj hcap
      go_wp2
      go_roundw
      case rel => exact ⟨j, by omega, by rw [HD.out]; go_num, by go_num, by first | rfl | trivial⟩
      case measure => simp [intOf]
    · have hk0 : k = 0 := by omega
      subst hk0
      go_wp2
      go_ret
      exact ⟨by simp, rfl⟩

/-- the bits of a byte -/
def eight (b : Nat) : List Bool := (List.range 8).map fun j => (b / 2 ^ j) % 2 == 1
theorem eight_len (b : Nat) : (eight b).length = 8 := by simp [eight]
/-- bits of bytes, not more than so many -/
def fewOf (p : List Nat) (most : Nat) : List Bool := (p.flatMap eight).take most

theorem eight_take (b j : Nat) (h : j < 8) : (eight b).take (j + 1) = (eight b).take j ++ [(b / 2 ^ j) % 2 == 1] := by
  rw [List.take_add_one]
  simp [eight, h]

theorem few_more (A : List Bool) (b j most : Nat) (h : j < 8) (hl : ((A ++ (eight b).take j).take most).length < most) :
    (A ++ (eight b).take (j + 1)).take most = (A ++ (eight b).take j).take most ++ [(b / 2 ^ j) % 2 == 1] := by
  have h1 : (A ++ (eight b).take j).length < most := by rw [List.length_take] at hl; omega
  rw [List.take_of_length_le (Nat.le_of_lt h1), eight_take b j h, ← List.append_assoc, List.take_of_length_le]
  rw [List.length_append]; simp; simp at h1; omega

theorem few_full (A B C : List Bool) (most : Nat) (hl : ¬ ((A ++ B).take most).length < most) : (A ++ (B ++ C)).take most = (A ++ B).take most := by
  rw [List.length_take] at hl
  rw [← List.append_assoc, List.take_append_of_le_length (by omega)]

theorem few_round (p : List Nat) (k most : Nat) (h : k < p.length) : fewOf (p.take (k + 1)) most = ((p.take k).flatMap eight ++ eight (p.getD k 0)).take most := by
  unfold fewOf
  rw [List.take_succ_eq_append_getElem h, List.flatMap_append]
  simp [List.getD, h]

theorem bool_of_bit (x : Nat) : (((x % 2 == 1 : Bool).toNat : Nat) : Int) = (x : Int) % 2 := by
  rcases Nat.mod_two_eq_zero_or_one x with h | h <;> simp [h] <;> omega

set_option maxRecDepth 100000 in
set_option maxHeartbeats 2000000 in
theorem refFew_any {w0 w : World} {os : List Thing} (h : St w0 w os) (sp : Value) (p : List Nat) (hp : ∀ x ∈ p, x < 256) (hpl : p.length ≤ 9223372036854775807)
    (hv : ∀ w' o, St w0 w' (o :: os) → Reads w' sp (bytesOf p)) (most : Nat) (hmost : most < 1099511627776) :
    Calls Try.prog 24 #[sp, .int .i64 most] w fun e w' => ∃ v, e = .returned v ∧ St w0 w' (rowT 3 v (intsOf (bitsOf (fewOf p most))) :: os) := by
  obtain ⟨i0, hi, hz0, hz1, hz2⟩ := info_parts info_i64
  have S1 : Hid (St w0 w (rowT 3 (.slice none 0 0) [] :: os)) := h.newRow (Keeps.refl _ _) (World.ownsRow_nil _ _ _ _)
  obtain ⟨ao, cap, rfl, hcap, hm, _, hc0⟩ := hv w _ S1.out
  rw [bytesOf_len] at hcap hv ⊢
  have HV := Lib.hid hv
  have HP := Lib.hid hp
  clear hm hc0 h hv hp
  go_enter Try.func24, Try.ntmps24
  go_wp2_with fail
  go_loopw [11, 5] (fun i v wr => ∃ k : Nat, k ≤ p.length ∧ i = .int .i64 k ∧ St w0 wr (rowT 3 v (intsOf (bitsOf (fewOf (p.take k) most))) :: os)) (fun i _ _ => p.length - (intOf i).toNat)
  case atStart => exact ⟨0, by omega, rfl, by simpa [fewOf, intsOf, bitsOf] using S1.out⟩
  case round =>
    obtain ⟨k, hk, rfl, hS⟩ := hrel
    clear S1
    by_cases hlt : k < p.length
    · obtain ⟨ao', cap', he, _, _, _, hc⟩ := HV.out wr _ hS
      simp only [Value.slice.injEq] at he
      obtain ⟨rfl, hdrop, rfl⟩ := he
      clear hdrop
      rcases hc with hc | ⟨bb, off, rfl, hc⟩
      · have : p = [] := by simpa [bytesOf] using hc
        subst this; simp at hlt
      have cb := hc k _ (bytesOf_get p k hlt)
      have hb : p[k] < 256 := HP.out _ (List.getElem_mem hlt)
      have hfr := few_round p k most hlt
      rw [show p.getD k 0 = p[k] by simp [List.getD, hlt]] at hfr
      unfold fewOf at hS
      generalize p[k] = by' at cb hb hfr
      generalize (p.take k).flatMap eight = A at hS hfr
      have HS := Lib.hid hS
      have HF := Lib.hid hfr
      clear hS hfr hc
      go_wp2_with fail
      go_loopw [5, 7, 8] (fun v y i wr => ∃ j : Nat, j ≤ 8 ∧ i = .int .i64 j ∧ y = .int .u8 ((by' / 2 ^ j : Nat) : Int) ∧ St w0 wr (rowT 3 v (intsOf (bitsOf ((A ++ (eight by').take j).take most))) :: os)) (fun _ _ i _ => 8 - (intOf i).toNat)
      case atStart => exact ⟨0, by omega, rfl, by simp, by simpa using HS.out⟩
      case round =>
        obtain ⟨j, hj, rfl, rfl, hS⟩ := hrel
        clear HS
        obtain ⟨a2, cap2, rfl, hcap2, hcm2⟩ := ownsRow_slice hS.row
        rw [intsOf_len, bitsOf_len] at hcap2 hS ⊢
        by_cases hj8 : j < 8
        · by_cases hlen : ((A ++ (eight by').take j).take most).length < most
          · have HM := Lib.hid (few_more A by' j most hj8 hlen)
            have hq : by' / 2 ^ j < 256 := Nat.lt_of_le_of_lt (Nat.div_le_self _ _) hb
            have hd : Hid (by' / 2 ^ (j + 1) = by' / 2 ^ j / 2) := by
              show by' / 2 ^ (j + 1) = by' / 2 ^ j / 2
              rw [Nat.pow_succ, Nat.div_div_eq_div_mul]
            have HB := Lib.hid (bool_of_bit (by' / 2 ^ j))
            obtain ⟨L, hL⟩ : ∃ L, L = (A ++ (eight by').take j).take most := ⟨_, rfl⟩
            rw [← hL] at HM hlen hS hcap2 ⊢
            obtain ⟨n, hn⟩ : ∃ n, L.length = n := ⟨_, rfl⟩
            rw [hn] at hlen hcap2 hS ⊢
            have HN := Lib.hid hn
            have HS := Lib.hid hS
            have HR := Lib.hid (fun (w1 : World) (y : Int) => Reads.made w1 #[.int .i64 y] 3 (0, 0) 1 (by simp) (by decide))
            generalize by' / 2 ^ j = q at hq hd HB HM ⊢
            clear hL hn hS hcm2 hb cb
            go_wp2_with (at_builtin; refine wpList_append_st rfl _ _ 22 rfl 3 i0 (.int .i64 0) 8 Try.underlying22 hi hz0 hz1 hz2 rfl _ _ _ [.int .i64 ((q : Int) % 2)] rfl (by first | rfl | simp) (HS.out.alloc _) (HR.out _ _) (one_oneCell _ rfl) ?c1 ?c2 ?_)
            case c1 => rw [intsOf_len, bitsOf_len, HN.out]; unfold maxLen; omega
            case c2 => rw [intsOf_len, bitsOf_len, HN.out]; omega
            intro v2 w2 S2
            have hrow : intsOf (bitsOf L) ++ [Value.int .i64 ((q : Int) % 2)] = intsOf (bitsOf ((A ++ (eight by').take (j + 1)).take most)) := by
              rw [HM.out, bitsOf_append, ← HB.out]; rfl
            rw [hrow] at S2
            have S2 := Lib.hid S2
            clear hrow HS HR
            go_wp2
            go_roundw
            case rel => exact ⟨j + 1, by omega, by go_num, by rw [hd.out]; go_num, S2.out⟩
            case measure => simp [intOf]; omega
          · have hfull := few_full A ((eight by').take j) ((eight by').drop j) most hlen
            rw [List.take_append_drop] at hfull
            rw [← HF.out] at hfull
            rw [← hfull] at hS hlen hcap2 ⊢
            have HS := Lib.hid hS
            generalize (fewOf (p.take (k + 1)) most).length = n at hlen hcap2 HS ⊢
            clear hfull hS hcm2 cb hb
            go_wp2
            go_roundw
            case rel => exact ⟨k + 1, by omega, by go_num, HS.out⟩
            case measure => simp [intOf]; omega
        · have hj8' : j = 8 := by omega
          subst hj8'
          have h8 : (eight by').take 8 = eight by' := List.take_of_length_le (by rw [eight_len]; exact Nat.le_refl _)
          rw [h8, ← HF.out] at hS hcap2 ⊢
          have HS := Lib.hid hS
          generalize (fewOf (p.take (k + 1)) most).length = n at hcap2 HS ⊢
          clear hS hcm2 cb hb h8
          go_wp2
          go_roundw
          case rel => exact ⟨k + 1, by omega, by go_num, HS.out⟩
          case measure => simp [intOf]; omega
    · have hkl : k = p.length := by omega
      subst hkl
      rw [List.take_length] at hS
      have HS := Lib.hid hS
      clear hS
      go_wp2
      go_ret
      exact ⟨_, rfl, HS.out⟩
end Go.Proofs.Ytoipbbobkllddaa

