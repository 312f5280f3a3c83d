/- coder.Decode. -/
import Derived.Test.YtgmgbgjghncipaaNext
import Derived.Deep.RegionHeld3
namespace Go.Proofs.Ytgmgbgjghncipaa
open Go.RowKit

theorem decode_option (pv nv : Value) (k : Int) (h : k < 0 ∨ 8 < k) (w : World) : Calls Try.prog 32 #[pv, nv, .int .i64 k] w fun e w' => e = .returned (.tuple #[.pointer none, .int .i64 15]) ∧ w = w' := by
  have HR := Lib.hid (right_out k h)
  clear h
  go_enter Try.func32, Try.ntmps32
  go_wp2_with fail
  refine (HR.out _).mono ?_
  rintro e w1 ⟨rfl, rfl⟩
  go_wp2
  go_ret2
  exact ⟨rfl, rfl⟩

theorem decode_range (pv : Value) (n : Int) (k : Nat) (hk : k ≤ 8) (h : n < 0 ∨ 16777216 < n) (w : World) : Calls Try.prog 32 #[pv, .int .i64 n, .int .i64 k] w fun e w' => e = .returned (.tuple #[.pointer none, .int .i64 1]) ∧ w = w' := by
  have HR := Lib.hid (right_in k hk)
  clear hk
  by_cases h0 : n < 0
  · clear h
    go_enter Try.func32, Try.ntmps32
    go_wp2_with fail
    refine (HR.out _).mono ?_
    rintro e w1 ⟨rfl, rfl⟩
    go_wp2
    go_ret2
    exact ⟨rfl, rfl⟩
  · have h1 : 16777216 < n := by omega
    clear h
    go_enter Try.func32, Try.ntmps32
    go_wp2_with fail
    refine (HR.out _).mono ?_
    rintro e w1 ⟨rfl, rfl⟩
    go_wp2
    go_ret2
    exact ⟨rfl, rfl⟩

theorem way_index_1 (W : World) : (Instr.index 83 (.agg #[.int .u64 0, .int .u64 0, .int .u64 2147483648, .int .u64 1073741824]) (.int .i64 1)).run Try.prog W = .ok (.int .u64 0) W := by kernel_rfl
theorem way_index_2 (W : World) : (Instr.index 83 (.agg #[.int .u64 0, .int .u64 0, .int .u64 2147483648, .int .u64 1073741824]) (.int .i64 2)).run Try.prog W = .ok (.int .u64 2147483648) W := by kernel_rfl
theorem way_index_3 (W : World) : (Instr.index 83 (.agg #[.int .u64 0, .int .u64 0, .int .u64 2147483648, .int .u64 1073741824]) (.int .i64 3)).run Try.prog W = .ok (.int .u64 1073741824) W := by kernel_rfl

theorem double_all {w0 w : World} {os : List Thing} {s : Nat} {E : TypeId} {lo hi : Nat} {rest : List Value} (h : St w0 w (cellT s (spanObj E lo hi rest) :: os)) (hg : CoderP.Good lo hi) :
    Calls Try.prog 43 #[.pointer (some ⟨s, 0, none⟩)] w fun e w' => ∃ way lo' hi' : Nat, e = .returned (.int .i64 way) ∧ St w0 w' (cellT s (spanObj E lo' hi' rest) :: os) ∧
      ((way = 0 ∧ CoderP.dbl lo hi = none ∧ lo' = lo ∧ hi' = hi) ∨ CoderP.dbl lo hi = some (way, lo', hi')) := by
  cases hd : CoderP.dbl lo hi with
  | none =>
    refine (double_none h hd).mono ?_
    rintro e w' ⟨rfl, rfl⟩
    exact ⟨0, lo, hi, rfl, h, .inl ⟨rfl, rfl, rfl, rfl⟩⟩
  | some q =>
    obtain ⟨way, x, y⟩ := q
    refine (double_some h hg hd).mono ?_
    rintro e w' ⟨rfl, h'⟩
    exact ⟨way, x, y, rfl, h', .inr rfl⟩

set_option maxRecDepth 100000 in
set_option maxHeartbeats 4000000 in
theorem decode_any {w0 w : World} {os : List Thing} (h : St w0 w os) {b : Nat} {bv : Value} {T : List Bool} (hm : vecT b bv T ∈ os) (n k : Nat) (hn : n ≤ 16777216) (hk : k ≤ 8) :
    Calls Try.prog 32 #[.pointer (some ⟨b, 0, none⟩), .int .i64 n, .int .i64 k] w fun e w' =>
      (CoderP.code k (CoderP.told k T n) = T ∧ ∃ o v, e = .returned (.tuple #[.pointer (some ⟨o, 0, none⟩), .int .i64 0]) ∧ St w0 w' (vecT o v (CoderP.told k T n) :: os)) ∨
      (CoderP.code k (CoderP.told k T n) ≠ T ∧ e = .returned (.tuple #[.pointer none, .int .i64 10]) ∧ St w0 w' os) := by
  have HR := Lib.hid (right_in k hk)
  have H := Lib.hid h
  have HM := Lib.hid hm
  have HK := Lib.hid hk
  have hp := pow_le_8 k hk
  clear h hm
  go_enter Try.func32, Try.ntmps32
  go_wp2_with fail
  refine (HR.out _).mono ?_
  rintro e w1 ⟨rfl, rfl⟩
  have H1 : Hid (St w0 (w.alloc (cReaderObj 0 4294967295 (.pointer (some ⟨b, 0, none⟩)) 0 0)) (cellT w.heap.size (cReaderObj 0 4294967295 (.pointer (some ⟨b, 0, none⟩)) 0 0) :: os)) := H.out.newCell _
  obtain ⟨s, hs⟩ : ∃ s, w.heap.size = s := ⟨_, rfl⟩
  rw [hs] at H1
  go_wp2_with fail
  go_loopw [31] (fun i wr => ∃ j : Nat, j ≤ 32 ∧ i = .int .i64 j ∧ St w0 wr (cellT s (cReaderObj 0 4294967295 (.pointer (some ⟨b, 0, none⟩)) j (CoderP.win j (CoderP.str T))) :: os)) (fun i _ => 32 - (intOf i).toNat)
  case atStart => exact ⟨0, by omega, rfl, H1.out⟩
  case round =>
    obtain ⟨j, hj, rfl, hS⟩ := hrel
    have HS := Lib.hid hS
    clear hS H1 hs
    by_cases hlt : j < 32
    · have hw : CoderP.win j (CoderP.str T) < 9223372036854775807 := by
        have := CoderP.win_lt j (CoderP.str T)
        have h2 : 2 ^ j ≤ 2 ^ 32 := Nat.pow_le_pow_right (by decide) (by omega)
        omega
      go_wp2_with fail
      refine (next_any HS.out HM.out hw (by omega)).mono ?_
      rintro e w2 ⟨rfl, h2⟩
      have H2 := Lib.hid h2
      clear h2 HS hw
      go_wp2_with fail
      go_roundw
      case rel => exact ⟨j + 1, by omega, by go_num, H2.out⟩
      case measure => simp [intOf]; omega
    · obtain rfl : j = 32 := by omega
      clear hlt hj H
      go_wp2_with fail
      refine (coderOf_any HS.out k hk).mono ?_
      rintro e w2 ⟨m, g, rfl, h2⟩
      have HT := Lib.hid (CoderP.RAt.start k T n)
      generalize CoderP.win 32 (CoderP.str T) = v0 at h2 HT
      obtain ⟨mm, hmm⟩ : ∃ mm, 2 ^ k = mm := ⟨_, rfl⟩
      rw [hmm] at h2 hp HT
      clear hmm
      obtain ⟨D, hD⟩ : ∃ D, CoderP.told k T n = D := ⟨_, rfl⟩
      rw [hD] at HT
      have HD := Lib.hid hD
      clear hD
      have H2 := Lib.hid h2
      clear h2 HS
      go_wp2_with fail
      refine (bitsNew_any H2.out).mono ?_
      rintro e w3 ⟨o, rfl, h3, _⟩
      have H3 := Lib.hid h3.rot4
      clear h3 H2
      have HP := Lib.hid hp
      clear hp hk
      go_wp2_with fail
      go_loopw [40] (fun i wr => ∃ (j : Nat) (c : Nat → Nat × Nat) (now lo hi : Nat) (out : List Bool) (vv a : Nat) (v' : Value), j ≤ n ∧ i = .int .i64 j ∧ CoderP.RAt mm T n D j c now lo hi out vv a ∧
        St w0 wr (cellT s (cReaderObj lo hi (.pointer (some ⟨b, 0, none⟩)) a vv) :: vecT o v' out :: cellT m (modelObj g mm now) :: cellT g (cntObj c mm) :: os)) (fun i _ => n - (intOf i).toNat)
      case atStart => exact ⟨0, _, _, _, _, _, _, _, _, by omega, rfl, HT.out, H3.out⟩
      case round =>
        obtain ⟨j, c, now, lo, hi, out, vv, a, v', hj, rfl, hT, hS⟩ := hrel
        clear HT H3
        have HS := Lib.hid hS
        have HT := Lib.hid hT
        clear hS hT
        by_cases hlt : j < n
        · have hj32 : j < 16777216 := by omega
          have HN := Lib.hid hn
          clear hn hj
          have c0 : wr.cell? ⟨m, 0, none⟩ = some (.slice (some ⟨g, 0, none⟩) mm mm) := HS.out.rot3.cellAt 0
          have c1 : wr.cell? ⟨m, 1, none⟩ = some (.int .u64 now) := HS.out.rot3.cellAt 1
          have hnow := HT.out.now
          have k0 : wr.cell? ⟨g, now * 2, none⟩ = some (.int .u64 ((c now).1 : Nat)) := HS.out.rot4.cntLo hnow
          have k1 : wr.cell? ⟨g, now * 2 + 1, none⟩ = some (.int .u64 ((c now).2 : Nat)) := HS.out.rot4.cntHi hnow
          go_wp2_with fail
          have SA := HS.out.newCell (.cells #[.int .u64 0, .int .u64 0] 76 (0, 0))
          have a0 : (wr.alloc (.cells #[.int .u64 0, .int .u64 0] 76)).cell? ⟨m, 0, none⟩ = some (.slice (some ⟨g, 0, none⟩) mm mm) := SA.tail.rot3.cellAt 0
          have a1 : (wr.alloc (.cells #[.int .u64 0, .int .u64 0] 76)).cell? ⟨m, 1, none⟩ = some (.int .u64 now) := SA.tail.rot3.cellAt 1
          have b0 : (wr.alloc (.cells #[.int .u64 0, .int .u64 0] 76)).cell? ⟨g, now * 2, none⟩ = some (.int .u64 ((c now).1 : Nat)) := SA.tail.rot4.cntLo hnow
          have b1 : (wr.alloc (.cells #[.int .u64 0, .int .u64 0] 76)).cell? ⟨g, now * 2 + 1, none⟩ = some (.int .u64 ((c now).2 : Nat)) := SA.tail.rot4.cntHi hnow
          have HSA := Lib.hid SA
          clear SA
          go_region
          have S14 := Lib.hid ((HS.out.newCell (.cells #[.int .u64 ((c now).1 : Nat), .int .u64 ((c now).2 : Nat)] 76 (0, 0))).drew)
          obtain ⟨q, hq⟩ : ∃ q, wr.heap.size = q := ⟨_, rfl⟩
          rw [hq] at S14 ⊢
          clear HSA a0 a1 b0 b1 c0 c1 k0 k1 HS hq
          generalize (wr.alloc (.cells #[.int .u64 ((c now).1 : Nat), .int .u64 ((c now).2 : Nat)] 76)).drew = W at S14 ⊢
          have HW := Lib.hid (CoderP.dbl_none HT.out.good HT.out.still).1
          have HFR := Lib.hid (HT.out.fair now)
          have hvv : vv < 4294967296 := by have g1 := HT.out.high; have g2 := HT.out.good.2; omega
          have S15 := Lib.hid S14.out.swap
          clear S14
          have HMID : Hid (∀ W', St w0 W' (cellT s (cReaderObj lo hi (.pointer (some ⟨b, 0, none⟩)) a vv) :: cellT q (.cells #[.int .u64 ((c now).1 : Nat), .int .u64 ((c now).2 : Nat)] 76 (0, 0)) :: vecT o v' out :: cellT m (modelObj g mm now) :: cellT g (cntObj c mm) :: os) →
              Calls Try.prog 40 #[.pointer (some ⟨s, 0, none⟩), .agg #[.int .u64 ((c now).1 : Nat), .int .u64 ((c now).2 : Nat)]] W' fun e w' => e = .returned (.int .u64 ((CoderP.mid lo hi (c now) : Nat) : Int)) ∧
                St w0 w' (cellT s (cReaderObj lo hi (.pointer (some ⟨b, 0, none⟩)) a vv) :: cellT q (.cells #[.int .u64 ((c now).1 : Nat), .int .u64 ((c now).2 : Nat)] 76 (0, 0)) :: vecT o v' out :: cellT m (modelObj g mm now) :: cellT g (cntObj c mm) :: os)) := fun W' hW' =>
            (mid_any hW' s lo hi (c now).1 (c now).2 HW.out HFR.out hW'.spanAt.1 hW'.spanAt.2.1 hW'.spanAt.2.2.2.2).mono fun _ _ ⟨x, y, _⟩ => ⟨x, y⟩
          have k4 : W.cell? ⟨s, 4, none⟩ = some (.int .u64 (vv : Int)) := S15.out.cellAt 4
          have q0 : W.cell? ⟨q, 0, none⟩ = some (.int .u64 ((c now).1 : Nat)) := S15.out.swap.cellAt 0
          have q1 : W.cell? ⟨q, 1, none⟩ = some (.int .u64 ((c now).2 : Nat)) := S15.out.swap.cellAt 1
          go_wp2_with fail
          go_region_held3 (fun w' => w'.cell? ⟨s, 4, none⟩ = some (.int .u64 (vv : Int)) ∧ w'.cell? ⟨q, 0, none⟩ = some (.int .u64 ((c now).1 : Nat)) ∧ w'.cell? ⟨q, 1, none⟩ = some (.int .u64 ((c now).2 : Nat))) (go_keep)
            (first | (go_at_call 40; refine (HMID.out W.drew S15.out.drew).mono ?_; rintro e w1 ⟨rfl, h1⟩; have k4 : w1.cell? ⟨s, 4, none⟩ = some (.int .u64 (vv : Int)) := h1.cellAt 4; have q0 : w1.cell? ⟨q, 0, none⟩ = some (.int .u64 ((c now).1 : Nat)) := h1.swap.cellAt 0; have q1 : w1.cell? ⟨q, 1, none⟩ = some (.int .u64 ((c now).2 : Nat)) := h1.swap.cellAt 1; have H16 := Lib.hid h1; clear h1))
          have S16 := Lib.hid H16.out
          clear H16 HMID S15 k4 q0 q1
          obtain ⟨bit, hbit⟩ : ∃ bit, decide (CoderP.mid lo hi (c now) < vv) = bit := ⟨_, rfl⟩
          cases bit
          · have HB := Lib.hid hbit
            have hlt2 : decide ((CoderP.mid lo hi (c now) : Int) < (vv : Int)) = false := by
              rw [← hbit]; exact decide_eq_decide.2 (by omega)
            have hlt3 := hbit
            have hlt4 : ¬ CoderP.mid lo hi (c now) < vv := of_decide_eq_false hbit
            have hin := HT.out.step hlt false HB.out
            simp only [Bool.false_eq_true, if_false, if_true, Bool.toNat_false, Bool.toNat_true] at hin
            have HIN' := Lib.hid hin
            clear hin
            clear hbit HT
            go_wp2_with fail
            have S17 := Lib.hid S16.out.drew
            go_still_tail 5, (by kernel_rfl)
            change wpList _ _ _ _ _ w1.drew
            generalize w1.drew = W17 at S17 ⊢
            clear S16 hlt2 hlt3 hlt4
            have q0 : W17.cell? ⟨q, 0, none⟩ = some (.int .u64 ((c now).1 : Nat)) := S17.out.swap.cellAt 0
            have q1 : W17.cell? ⟨q, 1, none⟩ = some (.int .u64 ((c now).2 : Nat)) := S17.out.swap.cellAt 1
            go_wp2_with fail
            have htake : Calls Try.prog 41 #[.pointer (some ⟨s, 0, none⟩), .agg #[.int .u64 ((c now).1 : Nat), .int .u64 ((c now).2 : Nat)], .int .i64 0] W17 _ := take_any S17.out (c now).1 (c now).2 HW.out HFR.out false
            refine htake.mono ?_
            rintro e w5 ⟨rfl, h5⟩
            simp only [Bool.false_eq_true, if_false, if_true] at h5
            have h5' : St w0 w5 (cellT s (cReaderObj (lo) (CoderP.mid lo hi (c now)) (.pointer (some ⟨b, 0, none⟩)) a vv) :: cellT q (.cells #[.int .u64 ((c now).1 : Nat), .int .u64 ((c now).2 : Nat)] 76 (0, 0)) :: vecT o v' out :: cellT m (modelObj g mm now) :: cellT g (cntObj c mm) :: os) := h5
            obtain ⟨lo1, hlo1⟩ : ∃ x, lo = x := ⟨_, rfl⟩
            obtain ⟨hi1, hhi1⟩ : ∃ x, CoderP.mid lo hi (c now) = x := ⟨_, rfl⟩
            rw [hhi1, hlo1] at h5' HIN'
            have H5 := Lib.hid (h5'.swap.tail.two)
            clear h5 h5' htake S17 q0 q1 hlo1 hhi1
            go_wp2_with fail
            have hsee : Calls Try.prog 42 #[.pointer (some ⟨m, 0, none⟩), .int .i64 0] w5 _ := see_any H5.out hnow HP.out.2 HFR.out false
            refine hsee.mono ?_
            rintro e w6 ⟨rfl, h6⟩
            have h6' : St w0 w6 (cellT m (modelObj g mm ((2 * now + 0) % mm)) :: cellT g (cntObj (CoderP.upd c now false) mm) :: cellT s (cReaderObj lo1 hi1 (.pointer (some ⟨b, 0, none⟩)) a vv) :: vecT o v' out :: os) := h6
            have H6 := Lib.hid h6'.two.swap
            clear h6 h6' hsee H5
            have hol := HIN'.out.size
            generalize CoderP.upd c now false = c' at H6 HIN'
            generalize (2 * now + 0) % mm = now' at H6 HIN'
            have S7 := Lib.hid (H6.out.newCell (.cells #[.int .i64 0] 3 (0, 0))).swap
            go_wp2_with fail
            have hadd : Calls Try.prog 27 #[.pointer (some ⟨o, 0, none⟩), .slice (some ⟨w6.heap.size, 0, none⟩) 1 1] _ _ := vecAdd_any S7.out _ [0] (fun w' v' l' h' => h'.readsOne) (by simp only [List.length_append, List.length_cons, List.length_nil] at hol ⊢; omega)
            refine hadd.mono ?_
            rintro e w8 ⟨rfl, v8, h8⟩
            rw [show flags [0] = [false] from rfl] at h8
            have H8 := Lib.hid h8.swap.tail.swap
            clear h8 hadd S7 H6 hol
            generalize out ++ [false] = out' at H8 HIN'
            clear hnow HW HFR HB
            go_wp2_with fail
            refine (double_all H8.out HIN'.out.good).mono ?_
            rintro e w9 ⟨way, lo2, hi2, rfl, h9, hcase⟩
            have h9' : St w0 w9 (cellT s (cReaderObj lo2 hi2 (.pointer (some ⟨b, 0, none⟩)) a vv) :: vecT o v8 out' :: cellT m (modelObj g mm now') :: cellT g (cntObj c' mm) :: os) := h9
            have H9 := Lib.hid h9'
            have HCASE := Lib.hid hcase
            clear h9 h9' hcase H8
            go_wp2_with fail
            go_loopw [13] (fun way wr => ∃ (f lo hi vv a w lo' hi' : Nat), way = .int .i64 w ∧ CoderP.RIn mm T n D (j + 1) c' now' lo hi out' vv a f ∧
              ((w = 0 ∧ CoderP.dbl lo hi = none ∧ lo' = lo ∧ hi' = hi) ∨ CoderP.dbl lo hi = some (w, lo', hi')) ∧
              St w0 wr (cellT s (cReaderObj lo' hi' (.pointer (some ⟨b, 0, none⟩)) a vv) :: vecT o v8 out' :: cellT m (modelObj g mm now') :: cellT g (cntObj c' mm) :: os)) (fun way wr => 2 * gapOf s wr + (if intOf way = 0 then 0 else 1))
            case atStart => exact ⟨33, lo1, hi1, vv, a, way, lo2, hi2, rfl, HIN'.out, HCASE.out, H9.out⟩
            case round =>
              obtain ⟨f, lo3, hi3, vv3, a3, w3, lo4, hi4, rfl, hI, hcase, hS⟩ := hrel
              clear HIN' HCASE H9 hvv
              have HS := Lib.hid hS
              have HI := Lib.hid hI
              clear hS hI
              rcases hcase with ⟨rfl, hd, rfl, rfl⟩ | hd
              · have HAT := Lib.hid (HI.out.done hd)
                clear hd
                go_wp2_with fail
                go_roundw
                case rel => exact ⟨j + 1, c', now', lo4, hi4, out', vv3, a3, v8, by have := HN.out; omega, by go_num, HAT.out, HS.out⟩
                case measure => simp [intOf]; omega
              · have hvv3 : vv3 < 4294967296 := by have g1 := HI.out.high; have g2 := HI.out.good.2; omega
                have ha3 : Hid (a3 < 1099511627776) := by show _ < _; have g1 := HI.out.here; omega
                have HG := Lib.hid (gap_span HS.out)
                obtain ⟨f', rfl, hga, hgb, hw3, hoff, hnext⟩ := HI.out.step hd
                have HGG : Hid (4294967296 - (hi4 - lo4) < 4294967296 - (hi3 - lo3)) := by
                  show _ < _
                  have g1 := hga.2; have g2 := hga.1; have g3 := HI.out.good.1; have g4 := HI.out.good.2
                  omega
                have HNX := Lib.hid hnext
                have HGA := Lib.hid hga
                have HVV := Lib.hid hvv3
                clear hnext hga hgb hd HI
                have c4 : wr.cell? ⟨s, 4, none⟩ = some (.int .u64 (vv3 : Int)) := HS.out.cellAt 4
                have f4 : wr.frozen? ⟨s, 4, none⟩ = false := HS.out.freeAt 4
                rcases hw3 with rfl | rfl | rfl
                · have ho : CoderP.off 1 = 0 := by decide
                  have hix : ∀ W, (Instr.index 83 (.agg #[.int .u64 0, .int .u64 0, .int .u64 2147483648, .int .u64 1073741824]) (.int .i64 1)).run Try.prog W = .ok (.int .u64 0) W := fun W => way_index_1 W
                  rw [ho] at hoff HNX
                  have hw0 : IntKind.u64.wrap ((vv3 : Int) - ((0 : Nat) : Int)) = ((vv3 - 0 : Nat) : Int) := by
                    rw [show ((vv3 : Int) - ((0 : Nat) : Int)) = ((vv3 - 0 : Nat) : Int) by omega, wrap_nat _ (by omega)]
                  have hw1 : IntKind.u64.wrap (vv3 : Int) = ((vv3 - 0 : Nat) : Int) := by simpa using hw0
                  have HV : Hid (IntKind.u64.wrap (vv3 : Int) = ((vv3 - 0 : Nat) : Int) ∧ vv3 - 0 < 4294967296) := ⟨hw1, by omega⟩
                  clear hoff hw0 hw1 hvv3 ho
                  go_wp2_with fail
                  go_region
                  clear hix
                  have S20 : Hid (St w0 ((wr.setCell ⟨s, 4, none⟩ (.int .u64 (IntKind.u64.wrap (vv3 : Int)))).drew) (cellT s (cReaderObj lo4 hi4 (.pointer (some ⟨b, 0, none⟩)) a3 (vv3 - 0)) :: vecT o v8 out' :: cellT m (modelObj g mm now') :: cellT g (cntObj c' mm) :: os)) := by
                    rw [HV.out.1]
                    exact (HS.out.setVal _).drew
                  clear HS c4 f4
                  generalize (wr.setCell ⟨s, 4, none⟩ (.int .u64 (IntKind.u64.wrap (vv3 : Int)))).drew = W20 at S20 ⊢
                  go_wp2_with fail
                  refine (next_any (bv := bv) (T := T) S20.out (by simp [HM.out]) (by have := HV.out.2; omega) ha3.out).mono ?_
                  rintro e w21 ⟨rfl, h21⟩
                  have H21 := Lib.hid h21
                  clear h21 S20
                  go_wp2_with fail
                  refine (double_all H21.out HGA.out).mono ?_
                  rintro e w22 ⟨way5, lo5, hi5, rfl, h22, hcase5⟩
                  have h22' : St w0 w22 (cellT s (cReaderObj lo5 hi5 (.pointer (some ⟨b, 0, none⟩)) (a3 + 1) (2 * (vv3 - 0) + (CoderP.str T a3).toNat)) :: vecT o v8 out' :: cellT m (modelObj g mm now') :: cellT g (cntObj c' mm) :: os) := h22
                  have HGN := Lib.hid (gap_span h22')
                  have HME : Hid (2 * (4294967296 - (hi5 - lo5)) + (if (way5 : Int) = 0 then 0 else 1) < 2 * (4294967296 - (hi4 - lo4)) + 1) := by
                    show _ < _
                    rcases hcase5 with ⟨rfl, _, rfl, rfl⟩ | hd5
                    · simp
                    · obtain ⟨g1, g2, g3⟩ := CoderP.dbl_good HGA.out hd5
                      have g4 := g1.1; have g5 := g1.2; have g6 := HGA.out.1; have g7 := HGA.out.2
                      split <;> omega
                  have H22 := Lib.hid h22'
                  have HC5 := Lib.hid hcase5
                  clear h22 h22' hcase5 H21
                  go_wp2_with fail
                  go_roundw
                  case rel => exact ⟨f', lo4, hi4, _, a3 + 1, way5, lo5, hi5, rfl, HNX.out, HC5.out, H22.out⟩
                  case measure =>
                    rw [HGN.out, HG.out]
                    simpa [intOf] using HME.out
                · have ho : CoderP.off 2 = 2147483648 := by decide
                  have hix : ∀ W, (Instr.index 83 (.agg #[.int .u64 0, .int .u64 0, .int .u64 2147483648, .int .u64 1073741824]) (.int .i64 2)).run Try.prog W = .ok (.int .u64 2147483648) W := fun W => way_index_2 W
                  rw [ho] at hoff HNX
                  have hw0 : IntKind.u64.wrap ((vv3 : Int) - ((2147483648 : Nat) : Int)) = ((vv3 - 2147483648 : Nat) : Int) := by
                    rw [show ((vv3 : Int) - ((2147483648 : Nat) : Int)) = ((vv3 - 2147483648 : Nat) : Int) by omega, wrap_nat _ (by omega)]
                  have hw1 : IntKind.u64.wrap ((vv3 : Int) - 2147483648) = ((vv3 - 2147483648 : Nat) : Int) := by simpa using hw0
                  have HV : Hid (IntKind.u64.wrap ((vv3 : Int) - 2147483648) = ((vv3 - 2147483648 : Nat) : Int) ∧ vv3 - 2147483648 < 4294967296) := ⟨hw1, by omega⟩
                  clear hoff hw0 hw1 hvv3 ho
                  go_wp2_with fail
                  go_region
                  clear hix
                  have S20 : Hid (St w0 ((wr.setCell ⟨s, 4, none⟩ (.int .u64 (IntKind.u64.wrap ((vv3 : Int) - 2147483648)))).drew) (cellT s (cReaderObj lo4 hi4 (.pointer (some ⟨b, 0, none⟩)) a3 (vv3 - 2147483648)) :: vecT o v8 out' :: cellT m (modelObj g mm now') :: cellT g (cntObj c' mm) :: os)) := by
                    rw [HV.out.1]
                    exact (HS.out.setVal _).drew
                  clear HS c4 f4
                  generalize (wr.setCell ⟨s, 4, none⟩ (.int .u64 (IntKind.u64.wrap ((vv3 : Int) - 2147483648)))).drew = W20 at S20 ⊢
                  go_wp2_with fail
                  refine (next_any (bv := bv) (T := T) S20.out (by simp [HM.out]) (by have := HV.out.2; omega) ha3.out).mono ?_
                  rintro e w21 ⟨rfl, h21⟩
                  have H21 := Lib.hid h21
                  clear h21 S20
                  go_wp2_with fail
                  refine (double_all H21.out HGA.out).mono ?_
                  rintro e w22 ⟨way5, lo5, hi5, rfl, h22, hcase5⟩
                  have h22' : St w0 w22 (cellT s (cReaderObj lo5 hi5 (.pointer (some ⟨b, 0, none⟩)) (a3 + 1) (2 * (vv3 - 2147483648) + (CoderP.str T a3).toNat)) :: vecT o v8 out' :: cellT m (modelObj g mm now') :: cellT g (cntObj c' mm) :: os) := h22
                  have HGN := Lib.hid (gap_span h22')
                  have HME : Hid (2 * (4294967296 - (hi5 - lo5)) + (if (way5 : Int) = 0 then 0 else 1) < 2 * (4294967296 - (hi4 - lo4)) + 1) := by
                    show _ < _
                    rcases hcase5 with ⟨rfl, _, rfl, rfl⟩ | hd5
                    · simp
                    · obtain ⟨g1, g2, g3⟩ := CoderP.dbl_good HGA.out hd5
                      have g4 := g1.1; have g5 := g1.2; have g6 := HGA.out.1; have g7 := HGA.out.2
                      split <;> omega
                  have H22 := Lib.hid h22'
                  have HC5 := Lib.hid hcase5
                  clear h22 h22' hcase5 H21
                  go_wp2_with fail
                  go_roundw
                  case rel => exact ⟨f', lo4, hi4, _, a3 + 1, way5, lo5, hi5, rfl, HNX.out, HC5.out, H22.out⟩
                  case measure =>
                    rw [HGN.out, HG.out]
                    simpa [intOf] using HME.out
                · have ho : CoderP.off 3 = 1073741824 := by decide
                  have hix : ∀ W, (Instr.index 83 (.agg #[.int .u64 0, .int .u64 0, .int .u64 2147483648, .int .u64 1073741824]) (.int .i64 3)).run Try.prog W = .ok (.int .u64 1073741824) W := fun W => way_index_3 W
                  rw [ho] at hoff HNX
                  have hw0 : IntKind.u64.wrap ((vv3 : Int) - ((1073741824 : Nat) : Int)) = ((vv3 - 1073741824 : Nat) : Int) := by
                    rw [show ((vv3 : Int) - ((1073741824 : Nat) : Int)) = ((vv3 - 1073741824 : Nat) : Int) by omega, wrap_nat _ (by omega)]
                  have hw1 : IntKind.u64.wrap ((vv3 : Int) - 1073741824) = ((vv3 - 1073741824 : Nat) : Int) := by simpa using hw0
                  have HV : Hid (IntKind.u64.wrap ((vv3 : Int) - 1073741824) = ((vv3 - 1073741824 : Nat) : Int) ∧ vv3 - 1073741824 < 4294967296) := ⟨hw1, by omega⟩
                  clear hoff hw0 hw1 hvv3 ho
                  go_wp2_with fail
                  go_region
                  clear hix
                  have S20 : Hid (St w0 ((wr.setCell ⟨s, 4, none⟩ (.int .u64 (IntKind.u64.wrap ((vv3 : Int) - 1073741824)))).drew) (cellT s (cReaderObj lo4 hi4 (.pointer (some ⟨b, 0, none⟩)) a3 (vv3 - 1073741824)) :: vecT o v8 out' :: cellT m (modelObj g mm now') :: cellT g (cntObj c' mm) :: os)) := by
                    rw [HV.out.1]
                    exact (HS.out.setVal _).drew
                  clear HS c4 f4
                  generalize (wr.setCell ⟨s, 4, none⟩ (.int .u64 (IntKind.u64.wrap ((vv3 : Int) - 1073741824)))).drew = W20 at S20 ⊢
                  go_wp2_with fail
                  refine (next_any (bv := bv) (T := T) S20.out (by simp [HM.out]) (by have := HV.out.2; omega) ha3.out).mono ?_
                  rintro e w21 ⟨rfl, h21⟩
                  have H21 := Lib.hid h21
                  clear h21 S20
                  go_wp2_with fail
                  refine (double_all H21.out HGA.out).mono ?_
                  rintro e w22 ⟨way5, lo5, hi5, rfl, h22, hcase5⟩
                  have h22' : St w0 w22 (cellT s (cReaderObj lo5 hi5 (.pointer (some ⟨b, 0, none⟩)) (a3 + 1) (2 * (vv3 - 1073741824) + (CoderP.str T a3).toNat)) :: vecT o v8 out' :: cellT m (modelObj g mm now') :: cellT g (cntObj c' mm) :: os) := h22
                  have HGN := Lib.hid (gap_span h22')
                  have HME : Hid (2 * (4294967296 - (hi5 - lo5)) + (if (way5 : Int) = 0 then 0 else 1) < 2 * (4294967296 - (hi4 - lo4)) + 1) := by
                    show _ < _
                    rcases hcase5 with ⟨rfl, _, rfl, rfl⟩ | hd5
                    · simp
                    · obtain ⟨g1, g2, g3⟩ := CoderP.dbl_good HGA.out hd5
                      have g4 := g1.1; have g5 := g1.2; have g6 := HGA.out.1; have g7 := HGA.out.2
                      split <;> omega
                  have H22 := Lib.hid h22'
                  have HC5 := Lib.hid hcase5
                  clear h22 h22' hcase5 H21
                  go_wp2_with fail
                  go_roundw
                  case rel => exact ⟨f', lo4, hi4, _, a3 + 1, way5, lo5, hi5, rfl, HNX.out, HC5.out, H22.out⟩
                  case measure =>
                    rw [HGN.out, HG.out]
                    simpa [intOf] using HME.out
          · have HB := Lib.hid hbit
            have hlt2 : decide ((CoderP.mid lo hi (c now) : Int) < (vv : Int)) = true := by
              rw [← hbit]; exact decide_eq_decide.2 (by omega)
            have hlt3 := hbit
            have hlt4 : CoderP.mid lo hi (c now) < vv := of_decide_eq_true hbit
            have hin := HT.out.step hlt true HB.out
            simp only [Bool.false_eq_true, if_false, if_true, Bool.toNat_false, Bool.toNat_true] at hin
            have HIN' := Lib.hid hin
            clear hin
            clear hbit HT
            go_wp2_with fail
            have S17 := Lib.hid S16.out.drew
            go_still_tail 5, (by kernel_rfl)
            change wpList _ _ _ _ _ w1.drew
            generalize w1.drew = W17 at S17 ⊢
            clear S16 hlt2 hlt3 hlt4
            have q0 : W17.cell? ⟨q, 0, none⟩ = some (.int .u64 ((c now).1 : Nat)) := S17.out.swap.cellAt 0
            have q1 : W17.cell? ⟨q, 1, none⟩ = some (.int .u64 ((c now).2 : Nat)) := S17.out.swap.cellAt 1
            go_wp2_with fail
            have htake : Calls Try.prog 41 #[.pointer (some ⟨s, 0, none⟩), .agg #[.int .u64 ((c now).1 : Nat), .int .u64 ((c now).2 : Nat)], .int .i64 1] W17 _ := take_any S17.out (c now).1 (c now).2 HW.out HFR.out true
            refine htake.mono ?_
            rintro e w5 ⟨rfl, h5⟩
            simp only [Bool.false_eq_true, if_false, if_true] at h5
            have h5' : St w0 w5 (cellT s (cReaderObj (CoderP.mid lo hi (c now) + 1) (hi) (.pointer (some ⟨b, 0, none⟩)) a vv) :: cellT q (.cells #[.int .u64 ((c now).1 : Nat), .int .u64 ((c now).2 : Nat)] 76 (0, 0)) :: vecT o v' out :: cellT m (modelObj g mm now) :: cellT g (cntObj c mm) :: os) := h5
            obtain ⟨lo1, hlo1⟩ : ∃ x, CoderP.mid lo hi (c now) + 1 = x := ⟨_, rfl⟩
            obtain ⟨hi1, hhi1⟩ : ∃ x, hi = x := ⟨_, rfl⟩
            rw [hlo1, hhi1] at h5' HIN'
            have H5 := Lib.hid (h5'.swap.tail.two)
            clear h5 h5' htake S17 q0 q1 hlo1 hhi1
            go_wp2_with fail
            have hsee : Calls Try.prog 42 #[.pointer (some ⟨m, 0, none⟩), .int .i64 1] w5 _ := see_any H5.out hnow HP.out.2 HFR.out true
            refine hsee.mono ?_
            rintro e w6 ⟨rfl, h6⟩
            have h6' : St w0 w6 (cellT m (modelObj g mm ((2 * now + 1) % mm)) :: cellT g (cntObj (CoderP.upd c now true) mm) :: cellT s (cReaderObj lo1 hi1 (.pointer (some ⟨b, 0, none⟩)) a vv) :: vecT o v' out :: os) := h6
            have H6 := Lib.hid h6'.two.swap
            clear h6 h6' hsee H5
            have hol := HIN'.out.size
            generalize CoderP.upd c now true = c' at H6 HIN'
            generalize (2 * now + 1) % mm = now' at H6 HIN'
            have S7 := Lib.hid (H6.out.newCell (.cells #[.int .i64 1] 3 (0, 0))).swap
            go_wp2_with fail
            have hadd : Calls Try.prog 27 #[.pointer (some ⟨o, 0, none⟩), .slice (some ⟨w6.heap.size, 0, none⟩) 1 1] _ _ := vecAdd_any S7.out _ [1] (fun w' v' l' h' => h'.readsOne) (by simp only [List.length_append, List.length_cons, List.length_nil] at hol ⊢; omega)
            refine hadd.mono ?_
            rintro e w8 ⟨rfl, v8, h8⟩
            rw [show flags [1] = [true] from rfl] at h8
            have H8 := Lib.hid h8.swap.tail.swap
            clear h8 hadd S7 H6 hol
            generalize out ++ [true] = out' at H8 HIN'
            clear hnow HW HFR HB
            go_wp2_with fail
            refine (double_all H8.out HIN'.out.good).mono ?_
            rintro e w9 ⟨way, lo2, hi2, rfl, h9, hcase⟩
            have h9' : St w0 w9 (cellT s (cReaderObj lo2 hi2 (.pointer (some ⟨b, 0, none⟩)) a vv) :: vecT o v8 out' :: cellT m (modelObj g mm now') :: cellT g (cntObj c' mm) :: os) := h9
            have H9 := Lib.hid h9'
            have HCASE := Lib.hid hcase
            clear h9 h9' hcase H8
            go_wp2_with fail
            go_loopw [13] (fun way wr => ∃ (f lo hi vv a w lo' hi' : Nat), way = .int .i64 w ∧ CoderP.RIn mm T n D (j + 1) c' now' lo hi out' vv a f ∧
              ((w = 0 ∧ CoderP.dbl lo hi = none ∧ lo' = lo ∧ hi' = hi) ∨ CoderP.dbl lo hi = some (w, lo', hi')) ∧
              St w0 wr (cellT s (cReaderObj lo' hi' (.pointer (some ⟨b, 0, none⟩)) a vv) :: vecT o v8 out' :: cellT m (modelObj g mm now') :: cellT g (cntObj c' mm) :: os)) (fun way wr => 2 * gapOf s wr + (if intOf way = 0 then 0 else 1))
            case atStart => exact ⟨33, lo1, hi1, vv, a, way, lo2, hi2, rfl, HIN'.out, HCASE.out, H9.out⟩
            case round =>
              obtain ⟨f, lo3, hi3, vv3, a3, w3, lo4, hi4, rfl, hI, hcase, hS⟩ := hrel
              clear HIN' HCASE H9 hvv
              have HS := Lib.hid hS
              have HI := Lib.hid hI
              clear hS hI
              rcases hcase with ⟨rfl, hd, rfl, rfl⟩ | hd
              · have HAT := Lib.hid (HI.out.done hd)
                clear hd
                go_wp2_with fail
                go_roundw
                case rel => exact ⟨j + 1, c', now', lo4, hi4, out', vv3, a3, v8, by have := HN.out; omega, by go_num, HAT.out, HS.out⟩
                case measure => simp [intOf]; omega
              · have hvv3 : vv3 < 4294967296 := by have g1 := HI.out.high; have g2 := HI.out.good.2; omega
                have ha3 : Hid (a3 < 1099511627776) := by show _ < _; have g1 := HI.out.here; omega
                have HG := Lib.hid (gap_span HS.out)
                obtain ⟨f', rfl, hga, hgb, hw3, hoff, hnext⟩ := HI.out.step hd
                have HGG : Hid (4294967296 - (hi4 - lo4) < 4294967296 - (hi3 - lo3)) := by
                  show _ < _
                  have g1 := hga.2; have g2 := hga.1; have g3 := HI.out.good.1; have g4 := HI.out.good.2
                  omega
                have HNX := Lib.hid hnext
                have HGA := Lib.hid hga
                have HVV := Lib.hid hvv3
                clear hnext hga hgb hd HI
                have c4 : wr.cell? ⟨s, 4, none⟩ = some (.int .u64 (vv3 : Int)) := HS.out.cellAt 4
                have f4 : wr.frozen? ⟨s, 4, none⟩ = false := HS.out.freeAt 4
                rcases hw3 with rfl | rfl | rfl
                · have ho : CoderP.off 1 = 0 := by decide
                  have hix : ∀ W, (Instr.index 83 (.agg #[.int .u64 0, .int .u64 0, .int .u64 2147483648, .int .u64 1073741824]) (.int .i64 1)).run Try.prog W = .ok (.int .u64 0) W := fun W => way_index_1 W
                  rw [ho] at hoff HNX
                  have hw0 : IntKind.u64.wrap ((vv3 : Int) - ((0 : Nat) : Int)) = ((vv3 - 0 : Nat) : Int) := by
                    rw [show ((vv3 : Int) - ((0 : Nat) : Int)) = ((vv3 - 0 : Nat) : Int) by omega, wrap_nat _ (by omega)]
                  have hw1 : IntKind.u64.wrap (vv3 : Int) = ((vv3 - 0 : Nat) : Int) := by simpa using hw0
                  have HV : Hid (IntKind.u64.wrap (vv3 : Int) = ((vv3 - 0 : Nat) : Int) ∧ vv3 - 0 < 4294967296) := ⟨hw1, by omega⟩
                  clear hoff hw0 hw1 hvv3 ho
                  go_wp2_with fail
                  go_region
                  clear hix
                  have S20 : Hid (St w0 ((wr.setCell ⟨s, 4, none⟩ (.int .u64 (IntKind.u64.wrap (vv3 : Int)))).drew) (cellT s (cReaderObj lo4 hi4 (.pointer (some ⟨b, 0, none⟩)) a3 (vv3 - 0)) :: vecT o v8 out' :: cellT m (modelObj g mm now') :: cellT g (cntObj c' mm) :: os)) := by
                    rw [HV.out.1]
                    exact (HS.out.setVal _).drew
                  clear HS c4 f4
                  generalize (wr.setCell ⟨s, 4, none⟩ (.int .u64 (IntKind.u64.wrap (vv3 : Int)))).drew = W20 at S20 ⊢
                  go_wp2_with fail
                  refine (next_any (bv := bv) (T := T) S20.out (by simp [HM.out]) (by have := HV.out.2; omega) ha3.out).mono ?_
                  rintro e w21 ⟨rfl, h21⟩
                  have H21 := Lib.hid h21
                  clear h21 S20
                  go_wp2_with fail
                  refine (double_all H21.out HGA.out).mono ?_
                  rintro e w22 ⟨way5, lo5, hi5, rfl, h22, hcase5⟩
                  have h22' : St w0 w22 (cellT s (cReaderObj lo5 hi5 (.pointer (some ⟨b, 0, none⟩)) (a3 + 1) (2 * (vv3 - 0) + (CoderP.str T a3).toNat)) :: vecT o v8 out' :: cellT m (modelObj g mm now') :: cellT g (cntObj c' mm) :: os) := h22
                  have HGN := Lib.hid (gap_span h22')
                  have HME : Hid (2 * (4294967296 - (hi5 - lo5)) + (if (way5 : Int) = 0 then 0 else 1) < 2 * (4294967296 - (hi4 - lo4)) + 1) := by
                    show _ < _
                    rcases hcase5 with ⟨rfl, _, rfl, rfl⟩ | hd5
                    · simp
                    · obtain ⟨g1, g2, g3⟩ := CoderP.dbl_good HGA.out hd5
                      have g4 := g1.1; have g5 := g1.2; have g6 := HGA.out.1; have g7 := HGA.out.2
                      split <;> omega
                  have H22 := Lib.hid h22'
                  have HC5 := Lib.hid hcase5
                  clear h22 h22' hcase5 H21
                  go_wp2_with fail
                  go_roundw
                  case rel => exact ⟨f', lo4, hi4, _, a3 + 1, way5, lo5, hi5, rfl, HNX.out, HC5.out, H22.out⟩
                  case measure =>
                    rw [HGN.out, HG.out]
                    simpa [intOf] using HME.out
                · have ho : CoderP.off 2 = 2147483648 := by decide
                  have hix : ∀ W, (Instr.index 83 (.agg #[.int .u64 0, .int .u64 0, .int .u64 2147483648, .int .u64 1073741824]) (.int .i64 2)).run Try.prog W = .ok (.int .u64 2147483648) W := fun W => way_index_2 W
                  rw [ho] at hoff HNX
                  have hw0 : IntKind.u64.wrap ((vv3 : Int) - ((2147483648 : Nat) : Int)) = ((vv3 - 2147483648 : Nat) : Int) := by
                    rw [show ((vv3 : Int) - ((2147483648 : Nat) : Int)) = ((vv3 - 2147483648 : Nat) : Int) by omega, wrap_nat _ (by omega)]
                  have hw1 : IntKind.u64.wrap ((vv3 : Int) - 2147483648) = ((vv3 - 2147483648 : Nat) : Int) := by simpa using hw0
                  have HV : Hid (IntKind.u64.wrap ((vv3 : Int) - 2147483648) = ((vv3 - 2147483648 : Nat) : Int) ∧ vv3 - 2147483648 < 4294967296) := ⟨hw1, by omega⟩
                  clear hoff hw0 hw1 hvv3 ho
                  go_wp2_with fail
                  go_region
                  clear hix
                  have S20 : Hid (St w0 ((wr.setCell ⟨s, 4, none⟩ (.int .u64 (IntKind.u64.wrap ((vv3 : Int) - 2147483648)))).drew) (cellT s (cReaderObj lo4 hi4 (.pointer (some ⟨b, 0, none⟩)) a3 (vv3 - 2147483648)) :: vecT o v8 out' :: cellT m (modelObj g mm now') :: cellT g (cntObj c' mm) :: os)) := by
                    rw [HV.out.1]
                    exact (HS.out.setVal _).drew
                  clear HS c4 f4
                  generalize (wr.setCell ⟨s, 4, none⟩ (.int .u64 (IntKind.u64.wrap ((vv3 : Int) - 2147483648)))).drew = W20 at S20 ⊢
                  go_wp2_with fail
                  refine (next_any (bv := bv) (T := T) S20.out (by simp [HM.out]) (by have := HV.out.2; omega) ha3.out).mono ?_
                  rintro e w21 ⟨rfl, h21⟩
                  have H21 := Lib.hid h21
                  clear h21 S20
                  go_wp2_with fail
                  refine (double_all H21.out HGA.out).mono ?_
                  rintro e w22 ⟨way5, lo5, hi5, rfl, h22, hcase5⟩
                  have h22' : St w0 w22 (cellT s (cReaderObj lo5 hi5 (.pointer (some ⟨b, 0, none⟩)) (a3 + 1) (2 * (vv3 - 2147483648) + (CoderP.str T a3).toNat)) :: vecT o v8 out' :: cellT m (modelObj g mm now') :: cellT g (cntObj c' mm) :: os) := h22
                  have HGN := Lib.hid (gap_span h22')
                  have HME : Hid (2 * (4294967296 - (hi5 - lo5)) + (if (way5 : Int) = 0 then 0 else 1) < 2 * (4294967296 - (hi4 - lo4)) + 1) := by
                    show _ < _
                    rcases hcase5 with ⟨rfl, _, rfl, rfl⟩ | hd5
                    · simp
                    · obtain ⟨g1, g2, g3⟩ := CoderP.dbl_good HGA.out hd5
                      have g4 := g1.1; have g5 := g1.2; have g6 := HGA.out.1; have g7 := HGA.out.2
                      split <;> omega
                  have H22 := Lib.hid h22'
                  have HC5 := Lib.hid hcase5
                  clear h22 h22' hcase5 H21
                  go_wp2_with fail
                  go_roundw
                  case rel => exact ⟨f', lo4, hi4, _, a3 + 1, way5, lo5, hi5, rfl, HNX.out, HC5.out, H22.out⟩
                  case measure =>
                    rw [HGN.out, HG.out]
                    simpa [intOf] using HME.out
                · have ho : CoderP.off 3 = 1073741824 := by decide
                  have hix : ∀ W, (Instr.index 83 (.agg #[.int .u64 0, .int .u64 0, .int .u64 2147483648, .int .u64 1073741824]) (.int .i64 3)).run Try.prog W = .ok (.int .u64 1073741824) W := fun W => way_index_3 W
                  rw [ho] at hoff HNX
                  have hw0 : IntKind.u64.wrap ((vv3 : Int) - ((1073741824 : Nat) : Int)) = ((vv3 - 1073741824 : Nat) : Int) := by
                    rw [show ((vv3 : Int) - ((1073741824 : Nat) : Int)) = ((vv3 - 1073741824 : Nat) : Int) by omega, wrap_nat _ (by omega)]
                  have hw1 : IntKind.u64.wrap ((vv3 : Int) - 1073741824) = ((vv3 - 1073741824 : Nat) : Int) := by simpa using hw0
                  have HV : Hid (IntKind.u64.wrap ((vv3 : Int) - 1073741824) = ((vv3 - 1073741824 : Nat) : Int) ∧ vv3 - 1073741824 < 4294967296) := ⟨hw1, by omega⟩
                  clear hoff hw0 hw1 hvv3 ho
                  go_wp2_with fail
                  go_region
                  clear hix
                  have S20 : Hid (St w0 ((wr.setCell ⟨s, 4, none⟩ (.int .u64 (IntKind.u64.wrap ((vv3 : Int) - 1073741824)))).drew) (cellT s (cReaderObj lo4 hi4 (.pointer (some ⟨b, 0, none⟩)) a3 (vv3 - 1073741824)) :: vecT o v8 out' :: cellT m (modelObj g mm now') :: cellT g (cntObj c' mm) :: os)) := by
                    rw [HV.out.1]
                    exact (HS.out.setVal _).drew
                  clear HS c4 f4
                  generalize (wr.setCell ⟨s, 4, none⟩ (.int .u64 (IntKind.u64.wrap ((vv3 : Int) - 1073741824)))).drew = W20 at S20 ⊢
                  go_wp2_with fail
                  refine (next_any (bv := bv) (T := T) S20.out (by simp [HM.out]) (by have := HV.out.2; omega) ha3.out).mono ?_
                  rintro e w21 ⟨rfl, h21⟩
                  have H21 := Lib.hid h21
                  clear h21 S20
                  go_wp2_with fail
                  refine (double_all H21.out HGA.out).mono ?_
                  rintro e w22 ⟨way5, lo5, hi5, rfl, h22, hcase5⟩
                  have h22' : St w0 w22 (cellT s (cReaderObj lo5 hi5 (.pointer (some ⟨b, 0, none⟩)) (a3 + 1) (2 * (vv3 - 1073741824) + (CoderP.str T a3).toNat)) :: vecT o v8 out' :: cellT m (modelObj g mm now') :: cellT g (cntObj c' mm) :: os) := h22
                  have HGN := Lib.hid (gap_span h22')
                  have HME : Hid (2 * (4294967296 - (hi5 - lo5)) + (if (way5 : Int) = 0 then 0 else 1) < 2 * (4294967296 - (hi4 - lo4)) + 1) := by
                    show _ < _
                    rcases hcase5 with ⟨rfl, _, rfl, rfl⟩ | hd5
                    · simp
                    · obtain ⟨g1, g2, g3⟩ := CoderP.dbl_good HGA.out hd5
                      have g4 := g1.1; have g5 := g1.2; have g6 := HGA.out.1; have g7 := HGA.out.2
                      split <;> omega
                  have H22 := Lib.hid h22'
                  have HC5 := Lib.hid hcase5
                  clear h22 h22' hcase5 H21
                  go_wp2_with fail
                  go_roundw
                  case rel => exact ⟨f', lo4, hi4, _, a3 + 1, way5, lo5, hi5, rfl, HNX.out, HC5.out, H22.out⟩
                  case measure =>
                    rw [HGN.out, HG.out]
                    simpa [intOf] using HME.out
        · obtain rfl : j = n := by omega
          have hout := HT.out.finish
          rw [hout] at HS
          clear HT hout hlt hj
          have HLEN : Hid (D.length < 4294967296) := by show _ < _; rw [← HD.out, CoderP.told_length]; omega
          go_wp2_with fail
          refine (encode_any HS.out (.pointer (some ⟨o, 0, none⟩)) D k HK.out HLEN.out (fun W os' h' => vecLen_any (b := o) (v := v') (l := D) h' (by simp)) (fun W os' i hi h' => vecAt_in (b := o) (v := v') (l := D) h' (by simp) i hi)).mono ?_
          rintro e w30 ⟨o2, v2, rfl, h30⟩
          have H30 := Lib.hid h30
          clear h30 HS
          go_wp2_with fail
          refine (same_any (b := o2) (b' := b) (v := v2) (v' := bv) (l := CoderP.code k D) (l' := T) H30.out (by simp) (by simp [HM.out])).mono ?_
          rintro e w31 ⟨rfl, mq, rfl⟩
          have H31 := Lib.hid (H30.out.drewN mq)
          clear H30
          by_cases hEQ : CoderP.code k D = T
          · rw [decide_eq_true hEQ]
            have HEQ : Hid (CoderP.code k (CoderP.told k T j) = T) := by show _ = _; rw [HD.out]; exact hEQ
            clear hEQ
            go_wp2_with fail
            go_ret2
            exact .inl ⟨HEQ.out, o, v', rfl, by rw [HD.out]; exact H31.out.tail.tail.rot3.tail.swap.tail⟩
          · rw [decide_eq_false hEQ]
            have HNE : Hid (CoderP.code k (CoderP.told k T j) ≠ T) := by show _ ≠ _; rw [HD.out]; exact hEQ
            clear hEQ
            go_wp2_with fail
            go_ret2
            exact .inr ⟨HNE.out, rfl, H31.out.tail.tail.tail.tail.tail⟩
end Go.Proofs.Ytgmgbgjghncipaa

