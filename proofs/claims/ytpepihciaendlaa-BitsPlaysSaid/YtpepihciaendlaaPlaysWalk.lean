/- The walk of BitsPlays. -/
import Derived.Test.YtpepihciaendlaaActs
import Derived.Test.YtpepihciaendlaaSameWalk
import Derived.Test.YtpepihciaendlaaNumsWalk
namespace Go.Proofs.Ytpepihciaendlaa
open Go.RowKit

theorem St.take2 {w0 w : World} {a b : Thing} {os : List Thing} (h : St w0 w (a :: b :: os)) : St w0 w [a, b] := by
  have h1 : St w0 w (os ++ [a, b]) := h.perm (by have := List.perm_append_comm (l₁ := [a, b]) (l₂ := os); simpa using this)
  clear h
  induction os with
  | nil => exact h1
  | cons o os ih => exact ih h1.tail

theorem flags_append (a b : List Int) : flags (a ++ b) = flags a ++ flags b := by simp [flags]
theorem intsOf_append (a b : List Int) : intsOf (a ++ b) = intsOf a ++ intsOf b := by simp [intsOf]

set_option maxRecDepth 100000 in
set_option maxHeartbeats 4000000 in
theorem bitsPlays_walk (a0 : Option Addr) (len0 cap0 : Nat) (w : World) (w0 : IsActs w a0 len0 cap0) :
    Calls Try.prog 6 #[.slice a0 len0 cap0] w fun e w' => e = .returned (.bool true) ∧ Below w.heap.size w w' := by
  obtain ⟨i0, hi, hz0, hz1, hz2⟩ := info_parts info_i64
  have H := Lib.hid (St.start w)
  have hlm : len0 ≤ 9223372036854775807 := by
    rcases w0 with ⟨h, _⟩ | ⟨_, _, _, _, _, _, h1, h2, _⟩
    · omega
    · unfold maxLen at h2; omega
  have HA := Lib.hid w0
  clear w0
  go_enter Try.func6, Try.ntmps6
  go_wp2_with fail
  refine (awake_any H.out).mono ?_
  rintro e w1 ⟨rfl, h1⟩
  have H1 := Lib.hid h1
  clear h1 H
  go_wp2_with fail
  refine (bitsNew_any H1.out).mono ?_
  rintro e w2 ⟨b, rfl, h2, _⟩
  have H2 : Hid (St w w2 (vecT b (.slice none 0 0) [] :: rowT 3 (.slice none 0 0) (intsOf (bitsOf [])) :: [])) := (St.newRow h2 (Keeps.refl _ _) (World.ownsRow_nil _ _ _ _)).swap
  clear h2 H1
  go_wp2_with fail
  go_loopw [4, 16] (fun lv iv wr => ∃ (i : Nat) (l : List Bool) (v : Value), i ≤ len0 ∧ iv = .int .i64 i ∧ l.length ≤ 1500 ∧ St w wr (vecT b v l :: rowT 3 lv (intsOf (bitsOf l)) :: [])) (fun _ iv _ => len0 - (intOf iv).toNat)
  case atStart => exact ⟨0, [], _, by omega, rfl, by decide, H2.out⟩
  case round =>
    obtain ⟨i, l, v, hil, rfl, hl, hS⟩ := hrel
    have HS := Lib.hid hS
    clear hS H2
    obtain ⟨al, cl, rfl, _, _⟩ := ownsRow_slice HS.out.swap.row
    rw [intsOf_len, bitsOf_len] at HS ⊢
    obtain ⟨nl, hnl⟩ : ∃ nl, l.length = nl := ⟨_, rfl⟩
    rw [hnl] at HS hl ⊢
    have HNL := Lib.hid hnl
    clear hnl
    by_cases hlt : i < len0
    · rcases HA.out with ⟨h0, _⟩ | ⟨bb, off, f, A, C, rfl, hc1, hc2, hf⟩
      · omega
      obtain ⟨k0, k1, k2, k3, hR, hd, hx, hbl, hk⟩ := hf i hlt
      obtain ⟨⟨d, bits, x, k⟩, hact⟩ : ∃ y, f i = y := ⟨_, rfl⟩
      rw [hact] at k0 k1 k2 k3 hR hd hx hbl hk
      simp only at k0 k1 k2 k3 hR hd hx hbl hk
      have cell : ∀ {p : Addr} {u : Value}, w.cell? p = some u → wr.cell? p = some u := fun {p u} h => by
        rw [HS.out.bel.cell (World.block_lt_of_cell? w p h)]; exact h
      have c0 := cell k0
      have c1 := cell k1
      have c2 := cell k2
      have c3 := cell k3
      obtain ⟨N, hN⟩ : ∃ N, bits.length = N := ⟨_, rfl⟩
      rw [hN] at c1 hbl hR
      have HN := Lib.hid hN
      have HR := Lib.hid hR
      have hk64 := wf_i64 hk
      generalize A i = Ai at c1 HR
      generalize C i = Ci at c1 HR
      clear k0 k1 k2 k3 hf hact cell hN hR hk
      by_cases hbrk : i < 25 ∧ nl ≤ 700
      · obtain ⟨hb1, hb2⟩ := hbrk
        obtain ⟨c, hc⟩ : ∃ c, wr.heap.size = c := ⟨_, rfl⟩
        obtain ⟨O, hO⟩ : ∃ O, (Obj.cells #[.int .u8 (d : Int), .slice Ai N Ci, .int .u64 (x : Int), .int .i64 k] 54) = O := ⟨_, rfl⟩
        have hS1 := HS.out.newCell (.cells #[.int .u8 (d : Int), .slice Ai N Ci, .int .u64 (x : Int), .int .i64 k] 54)
        rw [hc] at hS1
        have S1 : Hid (St w (wr.alloc (.cells #[.int .u8 (d : Int), .slice Ai N Ci, .int .u64 (x : Int), .int .i64 k] 54)) (rowT 3 (.slice none 0 0) (intsOf (bitsOf (flags (bits.take (min 0 40))))) :: cellT c (.cells #[.int .u8 (d : Int), .slice Ai N Ci, .int .u64 (x : Int), .int .i64 k] 54) :: vecT b v l :: rowT 3 (.slice al nl cl) (intsOf (bitsOf l)) :: [])) :=
          hS1.newRow (Keeps.refl _ _) (World.ownsRow_nil _ _ _ _)
        have HR1 := Lib.hid (fun (w1 : World) (y : Int) => Reads.made w1 #[.int .i64 y] 3 (0, 0) 1 (by simp) (by decide))
        have HNM : Hid (N ≤ 9223372036854775807) := by show _ ≤ _; unfold maxLen at hbl; omega
        have hNM := HNM.out
        clear hS1 hO HS hbl
        go_wp2_with fail
        try rw [hc]
        go_loopw [7, 31] (fun sv kv wr' => ∃ q : Nat, q ≤ N ∧ kv = .int .i64 q ∧ St w wr' (rowT 3 sv (intsOf (bitsOf (flags (bits.take (min q 40))))) :: cellT c (.cells #[.int .u8 (d : Int), .slice Ai N Ci, .int .u64 (x : Int), .int .i64 k] 54) :: vecT b v l :: rowT 3 (.slice al nl cl) (intsOf (bitsOf l)) :: [])) (fun _ kv _ => N - (intOf kv).toNat)
        case atStart => exact ⟨0, by omega, rfl, S1.out⟩
        case round =>
          obtain ⟨q, hq, rfl, hS2⟩ := hrel
          have S2 := Lib.hid hS2
          clear hS2 S1
          by_cases hqN : q < N
          · have hqb : q < bits.length := by rw [HN.out]; exact hqN
            obtain ⟨z, hz⟩ : ∃ z, bits[q] = z := ⟨_, rfl⟩
            obtain ⟨ao, cp, he, _, _, _, hcc⟩ := HR.out
            simp only [Value.slice.injEq] at he
            obtain ⟨rfl, hxx, rfl⟩ := he
            clear hxx
            rcases hcc with hcc | ⟨ab, aof, rfl, hcc⟩
            · exfalso
              have : bits.length = 0 := by rw [← intsOf_len, hcc]; rfl
              omega
            have cz : wr.cell? ⟨ab, aof + q, none⟩ = some (.int .i64 z) := by
              have h1 := hcc q (.int .i64 z) (by simp only [intsOf, List.getElem?_map, List.getElem?_eq_getElem hqb, hz]; rfl)
              rw [S2.out.bel.cell (World.block_lt_of_cell? w _ h1)]; exact h1
            clear hcc
            by_cases hq40 : q < 40
            · have HT : Hid (bits.take (min (q + 1) 40) = bits.take (min q 40) ++ [z]) := by
                show _ = _
                rw [show min (q + 1) 40 = q + 1 by omega, show min q 40 = q by omega, List.take_succ_eq_append_getElem hqb, hz]
              have HLN : Hid ((intsOf (bitsOf (flags (bits.take (min q 40))))).length ≤ 40) := by
                show _ ≤ _
                rw [intsOf_len, bitsOf_len, flags_len, List.length_take]; omega
              by_cases hzz : z = 0
              · have HE : Hid (intsOf (bitsOf (flags (bits.take (min q 40)))) ++ [.int .i64 0] = intsOf (bitsOf (flags (bits.take (min (q + 1) 40))))) := by
                  show _ = _
                  rw [HT.out, flags_append, bitsOf_append, hzz]; rfl
                have dz : (z != 0) = false := by rw [hzz]; rfl
                clear hz
                subst hzz
                go_wp2_with (at_builtin; refine wpList_append_st rfl _ _ 23 rfl 3 i0 (.int .i64 0) 8 Try.underlying23 hi hz0 hz1 hz2 rfl _ _ _ [.int .i64 0] rfl (by first | rfl | simp) (S2.out.alloc _) (HR1.out _ _) (one_oneCell _ rfl) ?c1 ?c2 ?_)
                case c1 => have := HLN.out; simp only [List.length_cons, List.length_nil]; unfold maxLen; omega
                case c2 => have := HLN.out; simp only [List.length_cons, List.length_nil]; omega
                intro v3 w3 h3
                rw [HE.out] at h3
                have S3 := Lib.hid h3
                clear h3 S2
                go_wp2_with fail
                go_roundw
                case rel => exact ⟨q + 1, by omega, by go_num, S3.out⟩
                case measure => simp [intOf]; omega
              · have HE : Hid (intsOf (bitsOf (flags (bits.take (min q 40)))) ++ [.int .i64 1] = intsOf (bitsOf (flags (bits.take (min (q + 1) 40))))) := by
                  show _ = _
                  rw [HT.out, flags_append, bitsOf_append]
                  have : flags [z] = [true] := by simp [flags, hzz]
                  rw [this]; rfl
                have dz : (z != 0) = true := by simp [hzz]
                clear hz
                go_wp2_with (at_builtin; refine wpList_append_st rfl _ _ 23 rfl 3 i0 (.int .i64 0) 8 Try.underlying23 hi hz0 hz1 hz2 rfl _ _ _ [.int .i64 1] rfl (by first | rfl | simp) (S2.out.alloc _) (HR1.out _ _) (one_oneCell _ rfl) ?c1 ?c2 ?_)
                case c1 => have := HLN.out; simp only [List.length_cons, List.length_nil]; unfold maxLen; omega
                case c2 => have := HLN.out; simp only [List.length_cons, List.length_nil]; omega
                intro v3 w3 h3
                rw [HE.out] at h3
                have S3 := Lib.hid h3
                clear h3 S2
                go_wp2_with fail
                go_roundw
                case rel => exact ⟨q + 1, by omega, by go_num, S3.out⟩
                case measure => simp [intOf]; omega
            · have HT : Hid (min (q + 1) 40 = min q 40) := by show _ = _; omega
              clear hz
              go_wp2_with fail
              go_roundw
              case rel => exact ⟨q + 1, by omega, by go_num, by rw [HT.out]; exact S2.out⟩
              case measure => simp [intOf]; omega
          · obtain rfl : q = N := by omega
            obtain ⟨B, hB⟩ : ∃ B, flags (bits.take (min q 40)) = B := ⟨_, rfl⟩
            have hBl : B.length = min q 40 := by rw [← hB, flags_len, List.length_take, HN.out]; omega
            rw [hB] at S2
            have HB := Lib.hid (And.intro hB hBl)
            clear hB hBl
            have d0 : wr.cell? ⟨c, 0, none⟩ = some (.int .u8 (d : Int)) := S2.out.swap.cellAt 0
            have d1 : wr.cell? ⟨c, 1, none⟩ = some (.slice Ai q Ci) := S2.out.swap.cellAt 1
            have d2 : wr.cell? ⟨c, 2, none⟩ = some (.int .u64 (x : Int)) := S2.out.swap.cellAt 2
            have d3 : wr.cell? ⟨c, 3, none⟩ = some (.int .i64 k) := S2.out.swap.cellAt 3
            obtain ⟨r, hr⟩ : ∃ r, d % 4 = r := ⟨_, rfl⟩
            have hr4 : r < 4 := by omega
            have hri : ((d : Int) % 4) = (r : Int) := by omega
            have hrr : r = 0 ∨ r = 1 ∨ r = 2 ∨ r = 3 := by omega
            clear hr
            obtain ⟨m40, hm40⟩ : ∃ m, min q 40 = m := ⟨_, rfl⟩
            have hmq : m40 ≤ q ∧ m40 ≤ 40 := by omega
            have hmin : ∀ w, (Builtin.min_ #[3, 3] 3 #[.int .i64 q, .int .i64 40]).run Try.prog w = .ok (.int .i64 m40) w := fun w => by
              rw [run_min2]
              congr 2
              split <;> omega
            have HM40 := Lib.hid hm40
            have hCi : q ≤ Ci ∧ Ci ≤ 9223372036854775807 := by
              have h1 := HR.out.len_le
              obtain ⟨_, _, he, _, hm, _⟩ := HR.out
              simp only [Value.slice.injEq] at he
              obtain ⟨_, _, rfl⟩ := he
              unfold maxLen at hm; omega
            obtain ⟨hCi1, hCi2⟩ := hCi
            have HBN : Hid (B.length ≤ 40 ∧ l.length ≤ 1500 ∧ nl = l.length) := ⟨by rw [HB.out.2]; omega, by rw [HNL.out]; omega, HNL.out.symm⟩
            have HLL : Hid ((intsOf (bitsOf l)).length ≤ 1500) := by show _ ≤ _; rw [intsOf_len, bitsOf_len]; have := HBN.out; omega
            have hnl7 : l.length ≤ 700 := by have := HBN.out; omega
            clear hm40 hq hqN
            rcases hrr with rfl | rfl | rfl | rfl
            · have e0 : ((d : Int) % 4 == 0) = true := beq_iff_eq.2 (by omega)
              have HRT : Hid (Reads w (.slice Ai m40 Ci) (intsOf (bits.take m40))) := by
                show Reads _ _ _
                have := HR.out.take m40 hmq.1
                rwa [show (intsOf bits).take m40 = intsOf (bits.take m40) by simp [intsOf, List.map_take]] at this
              have hadd := vecAdd_any (b := b) (v := v) (l := l) S2.out.rot3 (.slice Ai m40 Ci) (bits.take m40) (fun w' v' l' h' => h'.arg HRT.out) (by rw [List.length_take]; have := HBN.out; omega)
              rw [show flags (bits.take m40) = B by rw [← HM40.out]; exact HB.out.1] at hadd
              have HADD := Lib.hid hadd
              have HLX : Hid ((intsOf (bitsOf B)).length ≤ 1500) := by show _ ≤ _; rw [intsOf_len, bitsOf_len]; have := HBN.out; omega
              have HLN : Hid ((l ++ B).length ≤ 1500) := by show _ ≤ _; rw [List.length_append]; have := HBN.out; omega
              clear hadd
              go_wp2_with fail
              refine HADD.out.mono ?_
              rintro e w3 ⟨rfl, v3, h3⟩
              have S4 := Lib.hid h3.rot4
              have R4 := Lib.hid (h3.reads (E := 3) (v := u7) (xs := intsOf (bitsOf B)) (by simp))
              clear h3 HADD S2 d0 d1 d2 d3
              go_wp2_with (at_builtin; refine wpList_append_st rfl _ _ 23 rfl 3 i0 (.int .i64 0) 8 Try.underlying23 hi hz0 hz1 hz2 rfl _ _ _ (intsOf (bitsOf B)) rfl rfl S4.out R4.out (bits_oneCell _) ?c1 ?c2 ?_)
              case c1 => have := HLL.out; have := HLX.out; unfold maxLen; omega
              case c2 => have := HLL.out; have := HLX.out; omega
              intro v5 w5 h5
              rw [← bitsOf_append] at h5
              have S5 := Lib.hid h5
              clear h5 S4 R4
              have HK := Lib.hid (like_any (b := b) (v := v3) (l := l ++ B) S5.out (by simp) (by have := HLN.out; omega) v5 (fun w' os' h' => h'.reads (E := 3) (by simp)))
              go_wp2_with fail
              refine HK.out.mono ?_
              rintro e w6 ⟨rfl, h6⟩
              have S6 := Lib.hid (St.take2 h6.swap)
              clear h6 HK S5
              go_wp2_with fail
              go_roundw
              case rel => first | exact ⟨i + 1, l ++ B, v3, by omega, by go_num, HLN.out, S6.out⟩ | ((repeat apply Exists.intro); exact ⟨⟨i + 1, l ++ B, v3, by omega, by go_num, HLN.out, S6.out⟩, rfl⟩)
              case measure => simp [intOf]; omega
            · have e0 : ((d : Int) % 4 == 0) = false := beq_eq_false_iff_ne.2 (by omega)
              have e1 : ((d : Int) % 4 == 1) = true := beq_iff_eq.2 (by omega)
              have HADD := Lib.hid (vecNum_any (b := b) (v := v) (l := l) S2.out.rot3 x k hx (by have := HBN.out; omega))
              obtain ⟨NB, hNB⟩ : ∃ NB, numBits x (clamp k) = NB := ⟨_, rfl⟩
              have hNBl : NB.length ≤ 64 := by rw [← hNB, numBits_len]; exact clamp_le k
              have HNB := Lib.hid hNB
              rw [hNB] at HADD
              have HLX : Hid ((intsOf (bitsOf NB)).length ≤ 1500) := by show _ ≤ _; rw [intsOf_len, bitsOf_len]; omega
              have HLN : Hid ((l ++ NB).length ≤ 1500) := by show _ ≤ _; rw [List.length_append]; have := HBN.out; omega
              clear hNB
              go_wp2_with fail
              refine HADD.out.mono ?_
              rintro e w3 ⟨rfl, v3, h3⟩
              have S3 := Lib.hid h3
              clear h3 HADD S2 d0 d1 d2 d3
              have d2 : w3.cell? ⟨c, 2, none⟩ = some (.int .u64 (x : Int)) := S3.out.rot3.cellAt 2
              have d3 : w3.cell? ⟨c, 3, none⟩ = some (.int .i64 k) := S3.out.rot3.cellAt 3
              have HRN := Lib.hid (refNum_any S3.out x hx k)
              rw [HNB.out] at HRN
              go_wp2_with fail
              refine HRN.out.mono ?_
              rintro e w4 ⟨v4, rfl, h4⟩
              have S4 := Lib.hid h4.rot5
              have R4 := Lib.hid (h4.reads (List.mem_cons_self ..))
              clear h4 S3 HRN d2 d3
              go_wp2_with (at_builtin; refine wpList_append_st rfl _ _ 23 rfl 3 i0 (.int .i64 0) 8 Try.underlying23 hi hz0 hz1 hz2 rfl _ _ _ (intsOf (bitsOf NB)) rfl rfl S4.out R4.out (bits_oneCell _) ?c1 ?c2 ?_)
              case c1 => have := HLL.out; have := HLX.out; unfold maxLen; omega
              case c2 => have := HLL.out; have := HLX.out; omega
              intro v5 w5 h5
              rw [← bitsOf_append] at h5
              have S5 := Lib.hid h5
              clear h5 S4 R4
              have HK := Lib.hid (like_any (b := b) (v := v3) (l := l ++ NB) S5.out (by simp) (by have := HLN.out; omega) v5 (fun w' os' h' => h'.reads (E := 3) (by simp)))
              go_wp2_with fail
              refine HK.out.mono ?_
              rintro e w6 ⟨rfl, h6⟩
              have S6 := Lib.hid (St.take2 h6.rot3)
              clear h6 HK S5
              go_wp2_with fail
              go_roundw
              case rel => first | exact ⟨i + 1, l ++ NB, v3, by omega, by go_num, HLN.out, S6.out⟩ | ((repeat apply Exists.intro); exact ⟨⟨i + 1, l ++ NB, v3, by omega, by go_num, HLN.out, S6.out⟩, rfl⟩)
              case measure => simp [intOf]; omega
            · have e0 : ((d : Int) % 4 == 0) = false := beq_eq_false_iff_ne.2 (by omega)
              have e1 : ((d : Int) % 4 == 1) = false := beq_eq_false_iff_ne.2 (by omega)
              have e2 : ((d : Int) % 4 == 2) = true := beq_iff_eq.2 (by omega)
              have HLX : Hid ((intsOf (bitsOf B)).length ≤ 1500) := by show _ ≤ _; rw [intsOf_len, bitsOf_len]; have := HBN.out; omega
              have HLN : Hid ((l ++ B).length ≤ 1500) := by show _ ≤ _; rw [List.length_append]; have := HBN.out; omega
              have HOF := Lib.hid (of_any S2.out u7 B (by have := HBN.out; omega) (fun w' os' h' => h'.reads (E := 3) (by simp)))
              go_wp2_with fail
              refine HOF.out.mono ?_
              rintro e w2 ⟨bw, vw, rfl, h2⟩
              have S3 := Lib.hid h2.rot4
              clear h2 HOF S2 d0 d1 d2 d3
              have HADD := Lib.hid (vecJoin_any (b := b) (v := v) (l := l) S3.out bw B (vecLen_any (b := bw) (v := vw) (l := B) S3.out (by simp)) (fun j w' v' t hj _ h' => vecAt_in (b := bw) (v := vw) (l := B) h' (by simp) j hj) (by have := HBN.out; omega))
              go_wp2_with fail
              refine HADD.out.mono ?_
              rintro e w3 ⟨rfl, v3, h3⟩
              have S4 := Lib.hid h3.rot5
              have R4 := Lib.hid (h3.reads (E := 3) (v := u7) (xs := intsOf (bitsOf B)) (by simp))
              clear h3 HADD S3
              go_wp2_with (at_builtin; refine wpList_append_st rfl _ _ 23 rfl 3 i0 (.int .i64 0) 8 Try.underlying23 hi hz0 hz1 hz2 rfl _ _ _ (intsOf (bitsOf B)) rfl rfl S4.out R4.out (bits_oneCell _) ?c1 ?c2 ?_)
              case c1 => have := HLL.out; have := HLX.out; unfold maxLen; omega
              case c2 => have := HLL.out; have := HLX.out; omega
              intro v5 w5 h5
              rw [← bitsOf_append] at h5
              have S5 := Lib.hid h5
              clear h5 S4 R4
              have HK1 := Lib.hid (like_any (b := bw) (v := vw) (l := B) S5.out (by simp) (by have := HBN.out; omega) u7 (fun w' os' h' => h'.reads (E := 3) (by simp)))
              go_wp2_with fail
              refine HK1.out.mono ?_
              rintro e w6 ⟨rfl, h6⟩
              have S5 := Lib.hid h6
              clear h6 HK1
              have HK := Lib.hid (like_any (b := b) (v := v3) (l := l ++ B) S5.out (by simp) (by have := HLN.out; omega) v5 (fun w' os' h' => h'.reads (E := 3) (by simp)))
              go_wp2_with fail
              refine HK.out.mono ?_
              rintro e w6 ⟨rfl, h6⟩
              have S6 := Lib.hid (St.take2 h6.swap)
              clear h6 HK S5
              go_wp2_with fail
              go_roundw
              case rel => first | exact ⟨i + 1, l ++ B, v3, by omega, by go_num, HLN.out, S6.out⟩ | ((repeat apply Exists.intro); exact ⟨⟨i + 1, l ++ B, v3, by omega, by go_num, HLN.out, S6.out⟩, rfl⟩)
              case measure => simp [intOf]; omega
            · have e0 : ((d : Int) % 4 == 0) = false := beq_eq_false_iff_ne.2 (by omega)
              have e1 : ((d : Int) % 4 == 1) = false := beq_eq_false_iff_ne.2 (by omega)
              have e2 : ((d : Int) % 4 == 2) = false := beq_eq_false_iff_ne.2 (by omega)
              have HLX : Hid ((intsOf (bitsOf l)).length ≤ 1500) := by show _ ≤ _; rw [intsOf_len, bitsOf_len]; have := HBN.out; omega
              have HLN : Hid ((l ++ l).length ≤ 1500) := by show _ ≤ _; rw [List.length_append]; have := HBN.out; omega
              have HADD := Lib.hid (vecJoin_any (b := b) (v := v) (l := l) S2.out.rot3 b l (vecLen_any (b := b) (v := v) (l := l) S2.out.rot3 (by simp)) (fun j w' v' t hj _ h' => by
                have := vecAt_in (b := b) (v := v') (l := l ++ l.take t) h' (by simp) j (by rw [List.length_append]; omega)
                rwa [show (l ++ l.take t).getD j false = l.getD j false by simp [List.getD_eq_getElem?_getD, List.getElem?_append_left hj]] at this) (by have := HBN.out; omega))
              go_wp2_with fail
              refine HADD.out.mono ?_
              rintro e w3 ⟨rfl, v3, h3⟩
              have S3 := Lib.hid h3
              clear h3 HADD S2 d0 d1 d2 d3
              have HCL := Lib.hid (cloneInts_any (.slice al nl cl) (intsOf (bitsOf l)) w3 (S3.out.reads (E := 3) (by simp)) (bits_oneCell _) (by have := HLX.out; omega))
              go_wp2_with fail
              refine HCL.out.mono ?_
              rintro e w4 ⟨v4, rfl, ho, hk⟩
              have h4 := S3.out.newRow hk ho
              have S4 := Lib.hid h4.rot5
              have R4 := Lib.hid (h4.reads (List.mem_cons_self ..))
              clear h4 S3 HCL ho hk
              go_wp2_with (at_builtin; refine wpList_append_st rfl _ _ 23 rfl 3 i0 (.int .i64 0) 8 Try.underlying23 hi hz0 hz1 hz2 rfl _ _ _ (intsOf (bitsOf l)) rfl rfl S4.out R4.out (bits_oneCell _) ?c1 ?c2 ?_)
              case c1 => have := HLL.out; have := HLX.out; unfold maxLen; omega
              case c2 => have := HLL.out; have := HLX.out; omega
              intro v5 w5 h5
              rw [← bitsOf_append] at h5
              have S5 := Lib.hid h5
              clear h5 S4 R4
              have HK := Lib.hid (like_any (b := b) (v := v3) (l := l ++ l) S5.out (by simp) (by have := HLN.out; omega) v5 (fun w' os' h' => h'.reads (E := 3) (by simp)))
              go_wp2_with fail
              refine HK.out.mono ?_
              rintro e w6 ⟨rfl, h6⟩
              have S6 := Lib.hid (St.take2 h6.rot3)
              clear h6 HK S5
              go_wp2_with fail
              go_roundw
              case rel => first | exact ⟨i + 1, l ++ l, v3, by omega, by go_num, HLN.out, S6.out⟩ | ((repeat apply Exists.intro); exact ⟨⟨i + 1, l ++ l, v3, by omega, by go_num, HLN.out, S6.out⟩, rfl⟩)
              case measure => simp [intOf]; omega
      · have hbrk2 : ¬ (i < 25 ∧ nl ≤ 700) := hbrk
        by_cases hb1 : i < 25
        · have hb2 : 700 < nl := by omega
          go_wp2_with fail
          go_ret
          exact ⟨rfl, (HS.out.alloc _).bel⟩
        · go_wp2_with fail
          go_ret
          exact ⟨rfl, (HS.out.alloc _).bel⟩
    · go_wp2_with fail
      go_ret
      exact ⟨rfl, HS.out.bel⟩
end Go.Proofs.Ytpepihciaendlaa

