/- The walk of CrcPuts. -/
import Derived.Test.YtgpdkobefnhfiaaAwake
import Derived.Test.YtgpdkobefnhfiaaPut
namespace Go.Proofs.Ytgpdkobefnhfiaa
open Go.RowKit

def five : List Nat := [1, 2, 3, 4, 5]
theorem five_made (w : World) : Reads (w.alloc (.cells #[.int .u8 1, .int .u8 2, .int .u8 3, .int .u8 4, .int .u8 5] 5)) (.slice (some ⟨w.heap.size, 0, none⟩) 5 5) (bytesOf five) :=
  Reads.made w #[.int .u8 1, .int .u8 2, .int .u8 3, .int .u8 4, .int .u8 5] 5 (0, 0) 5 (by decide) (by decide)

set_option maxRecDepth 100000 in
set_option maxHeartbeats 2000000 in
theorem crcPuts_walk (a0 : Option Addr) (len0 cap0 : Nat) (z0 : List Int) (a1 : Int) (w : World) (w0 : IsRow .u8 w a0 len0 cap0 z0) (w1 : (Lit.int .u32 a1).wf = true) :
    Calls Try.prog 6 #[.slice a0 len0 cap0, .int .u32 a1] w fun e w' => e = .returned (.bool true) ∧ Below w.heap.size w w' := by
  obtain ⟨l0, e0, b0, R0, m0⟩ := w0.bytes
  obtain ⟨x1, x1'⟩ := wf_u32 w1
  obtain ⟨x, rfl⟩ := Int.eq_ofNat_of_zero_le x1
  have hx : x < 4294967296 := by omega
  clear w0 w1 x1 x1' m0
  have p0 := R0.len_le
  obtain ⟨i0, hi, hz0, hz1, hz2⟩ := info_parts info_u8
  obtain ⟨n, hn, n0, n3⟩ : ∃ n, n = min len0 20 ∧ n ≤ len0 ∧ n ≤ 20 := ⟨_, rfl, by omega, by omega⟩
  have hmin : ∀ w, (Builtin.min_ #[3, 3] 3 #[.int .i64 len0, .int .i64 20]).run Try.prog w = .ok (.int .i64 n) w := fun w => by
    simp [Builtin.min_, Builtin.min2]
    omega
  clear hn
  have E0 := Lib.hid e0
  clear e0
  have hncap : n ≤ cap0 := by omega
  go_enter Try.func6, Try.ntmps6
  go_wp2_with fail
  refine (awake_any w).mono ?_
  rintro e w1 ⟨rfl, hb1⟩
  have S1 := Lib.hid ((St.start w).below hb1)
  go_wp2_with fail
  have R1 := (R0.take n n0)
  rw [bytesOf_take] at R1
  have bl : ∀ x ∈ l0.take n, x < 256 := fun x hx => b0 x (List.mem_of_mem_take hx)
  have el : (l0.take n).length = n := by simp [E0.out]; omega
  generalize l0.take n = l at R1 bl el
  subst el
  refine (cloneBytes_st S1.out _ l (S1.out.arg R1) (by omega)).mono ?_
  rintro e w2 ⟨a, cap, rfl, S2, hk2, hcap⟩
  clear S1 hk2 hmin R0 R1 b0 E0 n0 p0 hncap hb1
  have S := Lib.hid S2
  clear S2
  go_wp2_with fail
  refine (cloneBytes_st S.out _ l (S.out.reads (E := 5) (by simp)) (by omega)).mono ?_
  rintro e w3 ⟨a3, cap3, rfl, S3, hk3, hcap3⟩
  clear S hk3
  have S := Lib.hid S3
  clear S3
  go_wp2_with (at_builtin; refine wpList_append_st rfl _ _ 22 rfl 5 i0 (.int .u8 0) 1 Try.underlying22 hi hz0 hz1 hz2 rfl _ _ _ (bytesOf five) rfl rfl (S.out.alloc _) (five_made _) (oneCell_bytes _) ?c1 ?c2 ?_)
  case c1 => rw [bytesOf_len, bytesOf_len]; unfold maxLen; simp [five]; omega
  case c2 => rw [bytesOf_len, bytesOf_len]; simp [five]; omega
  intro v4 w4 S4
  rw [← bytesOf_append] at S4
  clear S
  obtain ⟨a4, cap4, rfl, hcap4, _⟩ := ownsRow_slice S4.row
  have hl5 : (l ++ five).length = l.length + 5 := by simp [five]
  rw [bytesOf_len, hl5] at S4 hcap4 ⊢
  have S := Lib.hid S4
  clear S4
  have RL := S.out.reads (E := 5) (v := .slice a4 (l.length + 5) cap4) (xs := bytesOf (l ++ five)) (by simp)
  have RT := RL.take l.length (by omega)
  rw [bytesOf_take, List.take_left' rfl] at RT
  have hc4 : l.length ≤ cap4 := by omega
  go_wp2_with fail
  refine (put_any _ _ _ l x _ RT hx (by omega)).mono ?_
  rintro e w5 ⟨v5, rfl, ho5, hk5⟩
  obtain ⟨g5, cap5, rfl, hcap5, hm5⟩ := ownsRow_shape ho5 (by omega)
  unfold maxLen at hm5
  have S5 := Lib.hid (S.out.newRow hk5 ho5)
  clear S RL RT ho5 hk5
  have S := S5
  clear S5
  go_wp2_with fail
  refine (cloneBytes_st S.out _ l (S.out.reads (E := 5) (by simp)) (by omega)).mono ?_
  rintro e w6 ⟨a6, cap6, rfl, S6, hk6, hcap6⟩
  clear S hk6
  have S := Lib.hid S6
  clear S6
  go_wp2_with (at_builtin; refine wpList_append_st rfl _ _ 22 rfl 5 i0 (.int .u8 0) 1 Try.underlying22 hi hz0 hz1 hz2 rfl _ _ _ (bytesOf five) rfl rfl (S.out.alloc _) (five_made _) (oneCell_bytes _) ?d1 ?d2 ?_)
  case d1 => rw [bytesOf_len, bytesOf_len]; unfold maxLen; simp [five]; omega
  case d2 => rw [bytesOf_len, bytesOf_len]; simp [five]; omega
  intro v7 w7 S7
  rw [← bytesOf_append] at S7
  clear S
  obtain ⟨a7, cap7, rfl, hcap7, _⟩ := ownsRow_slice S7.row
  rw [bytesOf_len, hl5] at S7 hcap7 ⊢
  have S := Lib.hid S7
  clear S7
  have b5 : ∀ x ∈ l ++ five, x < 256 := by
    intro x hx
    rcases List.mem_append.1 hx with h | h
    · exact bl x h
    · simp only [five, List.mem_cons, List.not_mem_nil, or_false] at h; omega
  go_wp2_with fail
  refine (bytesEqual_any _ _ (l ++ five) (l ++ five) _ (S.out.reads (E := 5) (by simp)) (S.out.reads (E := 5) (by simp)) b5 b5).mono ?_
  rintro e w8 ⟨rfl, rfl⟩
  rw [decide_eq_true (rfl : l ++ five = l ++ five)]
  go_wp2_with fail
  refine (cloneBytes_st S.out _ l (S.out.reads (E := 5) (by simp)) (by omega)).mono ?_
  rintro e w8 ⟨a8, cap8, rfl, S8, hk8, hcap8⟩
  clear S hk8
  have S := Lib.hid S8
  clear S8
  go_wp2_with fail
  refine (four_any x _ hx).mono ?_
  rintro e w9 ⟨v9, rfl, ho9, hk9⟩
  have S9 := (S.out.newRow hk9 ho9).swap
  have R9 := S9.reads (E := 5) (v := v9) (xs := bytesOf (four x)) (by simp)
  clear S ho9 hk9
  have S := Lib.hid S9
  have R := Lib.hid R9
  clear S9 R9
  go_wp2_with (at_builtin; refine wpList_append_st rfl _ _ 22 rfl 5 i0 (.int .u8 0) 1 Try.underlying22 hi hz0 hz1 hz2 rfl _ _ _ (bytesOf (four x)) rfl rfl S.out R.out (oneCell_bytes _) ?e1 ?e2 ?_)
  case e1 => rw [bytesOf_len, bytesOf_len]; unfold maxLen; simp [four]; omega
  case e2 => rw [bytesOf_len, bytesOf_len]; simp [four]; omega
  intro v10 w10 S10
  rw [← bytesOf_append] at S10
  clear S R
  obtain ⟨a10, cap10, rfl, hcap10, _⟩ := ownsRow_slice S10.row
  have hl4 : (l ++ four x).length = l.length + 4 := by simp [four]
  rw [bytesOf_len, hl4] at S10 hcap10 ⊢
  have S := Lib.hid S10
  clear S10
  have b4 : ∀ y ∈ l ++ four x, y < 256 := by
    intro y hy
    rcases List.mem_append.1 hy with h | h
    · exact bl y h
    · exact four_lt x y h
  go_wp2_with fail
  refine (bytesEqual_any _ _ (l ++ four x) (l ++ four x) _ (S.out.reads (E := 5) (by simp)) (S.out.reads (E := 5) (by simp)) b4 b4).mono ?_
  rintro e w8 ⟨rfl, rfl⟩
  rw [decide_eq_true (rfl : l ++ four x = l ++ four x)]
  go_wp2_with fail
  have RQ := S.out.reads (E := 5) (v := .slice (some ⟨g5, 0, none⟩) (l.length + 4) cap5) (xs := bytesOf (l ++ four x)) (by simp)
  have RD := RQ.drop l.length (by omega)
  rw [bytesOf_drop, List.drop_left' rfl, Nat.zero_add, Nat.add_sub_cancel_left] at RD
  refine (get_four _ _ _ _ _ _ RD (by omega) (by omega) (by omega) (by omega)).mono ?_
  rintro e w11 ⟨rfl, hk11⟩
  have hv4 : val4 (x % 256) (x / 256 % 256) (x / 65536 % 256) (x / 16777216 % 256) = x := by unfold val4; omega
  rw [hv4]
  clear hv4 RD RQ
  have RP := S.out.reads (E := 5) (v := .slice a l.length cap) (xs := bytesOf l) (by simp)
  have S' := Lib.hid (S.out.same hk11)
  have RP' := RP.keep hk11 (by simp)
  clear RP hk11 S
  have hgt : (∃ z : Nat, ((l.length : Int) == 4) = true ∧ Hid (Calls Try.prog 19 #[.slice a l.length cap] w11 fun e w' => e = .returned (.tuple #[.int .u32 z, .int .i64 0]) ∧ Keeps [] w11 w')) ∨
      (((l.length : Int) == 4) = false ∧ Hid (Calls Try.prog 19 #[.slice a l.length cap] w11 fun e w' => e = .returned (.tuple #[.int .u32 0, .int .i64 3]) ∧ Keeps [] w11 w')) := by
    by_cases h4 : l.length = 4
    · obtain ⟨p0, p1, p2, p3, rfl⟩ : ∃ p0 p1 p2 p3, l = [p0, p1, p2, p3] := by
        match l, h4 with
        | [p0, p1, p2, p3], _ => exact ⟨p0, p1, p2, p3, rfl⟩
      exact .inl ⟨_, rfl, get_four _ p0 p1 p2 p3 _ RP' (bl _ (by simp)) (bl _ (by simp)) (bl _ (by simp)) (bl _ (by simp))⟩
    · exact .inr ⟨beq_eq_false_iff_ne.2 (by omega), (get_other _ l _ RP' h4).mono fun e w' ⟨h1, h2⟩ => ⟨h1, h2 ▸ Keeps.refl _ _⟩⟩
  clear RP' bl b4 b5
  rcases hgt with ⟨z, h4, hget⟩ | ⟨h4, hget⟩
  all_goals
    go_wp2_with fail
    refine hget.out.mono ?_
    rintro e w12 ⟨rfl, hk12⟩
    clear hget
    have S := Lib.hid (S'.out.same hk12)
    clear S' hk12
    go_wp2_with fail
    refine (add_nil _ _).mono ?_
    rintro e w13 ⟨rfl, rfl⟩
    go_wp2_with fail
    refine (value_nil _).mono ?_
    rintro e w13 ⟨rfl, rfl⟩
    go_wp2_with fail
    refine (len_nil _).mono ?_
    rintro e w13 ⟨rfl, rfl⟩
    go_wp2_with fail
    refine (copy_nil _).mono ?_
    rintro e w13 ⟨rfl, rfl⟩
    go_wp2
    go_ret
    exact ⟨rfl, S.out.bel⟩
end Go.Proofs.Ytgpdkobefnhfiaa
