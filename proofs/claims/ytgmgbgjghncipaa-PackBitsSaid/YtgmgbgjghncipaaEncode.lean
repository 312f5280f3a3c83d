/- coder.Encode. -/
import Derived.Test.YtgmgbgjghncipaaWriter
import Derived.Test.YtgmgbgjghncipaaSent
import Derived.StillTailTactics
import Derived.WalkMore
namespace Go.Proofs.Ytgmgbgjghncipaa
open Go.RowKit

theorem encode_option (pv : Value) (k : Int) (h : k < 0 ∨ 8 < k) (w : World) : Calls Try.prog 33 #[pv, .int .i64 k] w fun e w' => e = .returned (.tuple #[.pointer none, .int .i64 15]) ∧ w = w' := by
  have HR := Lib.hid (right_out k h)
  clear h
  go_enter Try.func33, Try.ntmps33
  go_wp2_with fail
  refine (HR.out _).mono ?_
  rintro e w1 ⟨rfl, rfl⟩
  go_wp2
  go_ret2
  exact ⟨rfl, rfl⟩

/-- how wide a span is -/
def gapOf (s : Nat) (w : World) : Nat := match w.cell? ⟨s, 0, none⟩, w.cell? ⟨s, 1, none⟩ with | some a, some b => 4294967296 - ((intOf b).toNat - (intOf a).toNat) | _, _ => 0
theorem gap_span {w0 w : World} {os : List Thing} {s : Nat} {E : TypeId} {lo hi : Nat} {rest : List Value} (h : St w0 w (cellT s (spanObj E lo hi rest) :: os)) : gapOf s w = 4294967296 - (hi - lo) := by
  simp [gapOf, h.spanAt.1, h.spanAt.2.1, intOf]

theorem St.two {w0 w : World} {os : List Thing} {a b c d : Thing} (h : St w0 w (a :: b :: c :: d :: os)) : St w0 w (c :: d :: a :: b :: os) :=
  h.perm (by have := (List.perm_append_comm (l₁ := [a, b]) (l₂ := [c, d])).append_right os; simpa using this)

set_option maxRecDepth 100000 in
set_option maxHeartbeats 4000000 in
theorem encode_any {w0 w : World} {os : List Thing} (h : St w0 w os) (pv : Value) (l : List Bool) (k : Nat) (hk : k ≤ 8) (hl : l.length < 4294967296)
    (hlen : ∀ W os', St w0 W (os' ++ os) → Calls Try.prog 17 #[pv] W fun e w' => e = .returned (.int .i64 l.length) ∧ W = w')
    (hat : ∀ W os' i, i < l.length → St w0 W (os' ++ os) → Calls Try.prog 44 #[pv, .int .i64 (i : Nat)] W fun e w' => e = .returned (.int .i64 ((l.getD i false).toNat : Nat)) ∧ W = w') :
    Calls Try.prog 33 #[pv, .int .i64 k] w fun e w' => ∃ o v, e = .returned (.tuple #[.pointer (some ⟨o, 0, none⟩), .int .i64 0]) ∧ St w0 w' (vecT o v (CoderP.code k l) :: os) := by
  have HR := Lib.hid (right_in k hk)
  have HL := Lib.hid hlen
  have HA := Lib.hid hat
  have H := Lib.hid h
  have HK := Lib.hid hk
  have hp := pow_le_8 k hk
  clear h hlen hat
  go_enter Try.func33, Try.ntmps33
  go_wp2_with fail
  refine (HR.out _).mono ?_
  rintro e w1 ⟨rfl, rfl⟩
  go_wp2_with fail
  refine (bitsNew_any H.out).mono ?_
  rintro e w1 ⟨o, rfl, h1, _⟩
  have H1 := Lib.hid (h1.newCell (writerObj 0 4294967295 o 0))
  obtain ⟨s, hs⟩ : ∃ s, w1.heap.size = s := ⟨_, rfl⟩
  rw [hs] at H1
  clear h1 H
  go_wp2_with fail
  refine (coderOf_any H1.out k hk).mono ?_
  rintro e w2 ⟨m, g, rfl, h2⟩
  have HT : Hid (CoderP.At (2 ^ k) l (CoderP.code k l) 0 (fun _ => (1, 1)) 0 0 4294967295 [] 0) := CoderP.At.start _ _ hp.1
  obtain ⟨n, hnn⟩ : ∃ n, 2 ^ k = n := ⟨_, rfl⟩
  rw [hnn] at h2 hp HT
  clear hnn
  obtain ⟨T, hTT⟩ : ∃ T, CoderP.code k l = T := ⟨_, rfl⟩
  rw [hTT] at HT
  have HTT := Lib.hid hTT
  clear hTT
  have H2 := Lib.hid (h2.perm (List.Perm.trans (List.perm_middle (l₁ := [_, _])) (List.Perm.cons _ (List.perm_middle (l₁ := [_, _])))))
  clear h2 H1 hs
  go_wp2_with fail
  refine (HL.out _ [_, _, _, _] H2.out).mono ?_
  rintro e w3 ⟨rfl, rfl⟩
  go_wp2_with fail
  go_loopw [21] (fun i wr => ∃ (j : Nat) (c : Nat → Nat × Nat) (now lo hi : Nat) (out : List Bool) (kk : Nat) (v' : Value), j ≤ l.length ∧ i = .int .i64 j ∧ CoderP.At n l T j c now lo hi out kk ∧
    St w0 wr (cellT s (writerObj lo hi o kk) :: vecT o v' out :: cellT m (modelObj g n now) :: cellT g (cntObj c n) :: os)) (fun i _ => l.length - (intOf i).toNat)
  case atStart => exact ⟨0, _, _, _, _, _, _, _, by omega, rfl, HT.out, H2.out⟩
  case round =>
    obtain ⟨j, c, now, lo, hi, out, kk, v', hj, rfl, hT, hS⟩ := hrel
    clear HT H2
    have HS := Lib.hid hS
    have HT := Lib.hid hT
    clear hS hT
    by_cases hlt : j < l.length
    · have HP := Lib.hid (And.intro hp hl)
      have hj32 : j < 4294967296 := by omega
      clear hp hl hk hj
      go_wp2_with fail
      go_step3
      go_wp2_with fail
      refine (HA.out wr [_, _, _, _] j hlt HS.out).mono ?_
      rintro e w4 ⟨rfl, rfl⟩
      obtain ⟨b, hb⟩ : ∃ b, l.getD j false = b := ⟨_, rfl⟩
      have HB := Lib.hid hb
      rw [hb]
      clear hb
      have c0 : wr.cell? ⟨m, 0, none⟩ = some (.slice (some ⟨g, 0, none⟩) n n) := HS.out.rot3.cellAt 0
      have c1 : wr.cell? ⟨m, 1, none⟩ = some (.int .u64 now) := HS.out.rot3.cellAt 1
      have hnow := HT.out.now
      have k0 : wr.cell? ⟨g, now * 2, none⟩ = some (.int .u64 ((c now).1 : Nat)) := HS.out.rot4.cntLo hnow
      have k1 : wr.cell? ⟨g, now * 2 + 1, none⟩ = some (.int .u64 ((c now).2 : Nat)) := HS.out.rot4.cntHi hnow
      have hb2 : b.toNat < 2 := by cases b <;> decide
      go_wp2_with fail
      have HS2 := Lib.hid HS.out.drew
      go_still_tail 14, (by kernel_rfl)
      change wpList _ _ _ _ _ wr.drew
      generalize wr.drew = W2 at HS2 ⊢
      clear c0 c1 k0 k1 HS
      have c0 : W2.cell? ⟨m, 0, none⟩ = some (.slice (some ⟨g, 0, none⟩) n n) := HS2.out.rot3.cellAt 0
      have c1 : W2.cell? ⟨m, 1, none⟩ = some (.int .u64 now) := HS2.out.rot3.cellAt 1
      have k0 : W2.cell? ⟨g, now * 2, none⟩ = some (.int .u64 ((c now).1 : Nat)) := HS2.out.rot4.cntLo hnow
      have k1 : W2.cell? ⟨g, now * 2 + 1, none⟩ = some (.int .u64 ((c now).2 : Nat)) := HS2.out.rot4.cntHi hnow
      go_wp2_with fail
      have HW := Lib.hid (CoderP.dbl_none HT.out.good HT.out.still).1
      refine (take_any HS2.out (c now).1 (c now).2 HW.out (HT.out.fair now) b).mono ?_
      rintro e w5 ⟨rfl, h5⟩
      have HIN := Lib.hid (HT.out.step hlt b HB.out)
      have hfair := HT.out.fair now
      have h5' : St w0 w5 (cellT s (spanObj 86 (if b = true then CoderP.mid lo hi (c now) + 1 else lo) (if b = true then hi else CoderP.mid lo hi (c now)) [.pointer (some ⟨o, 0, none⟩), .int .i64 (kk : Int)]) :: vecT o v' out :: cellT m (modelObj g n now) :: cellT g (cntObj c n) :: os) := h5
      generalize (if b = true then CoderP.mid lo hi (c now) + 1 else lo) = lo1 at h5' HIN
      generalize (if b = true then hi else CoderP.mid lo hi (c now)) = hi1 at h5' HIN
      have H5 := Lib.hid h5'.two
      clear h5 h5' HS2 c0 c1 k0 k1 HW HT
      go_wp2_with fail
      refine (see_any H5.out hnow HP.out.1.2 hfair b).mono ?_
      rintro e w6 ⟨rfl, h6⟩
      have H6 := Lib.hid h6.two
      clear h6 H5 hfair
      have hnow' := HIN.out.now
      generalize CoderP.upd c now b = c' at H6 HIN
      generalize (2 * now + b.toNat) % n = now' at H6 HIN hnow'
      clear hnow hb2
      go_wp2_with fail
      go_step3
      go_wp2_with fail
      go_loopw [] (fun wr' => ∃ (f lo hi : Nat) (out : List Bool) (kk : Nat) (v' : Value), CoderP.In n l T (j + 1) c' now' lo hi out kk f ∧
        St w0 wr' (cellT s (writerObj lo hi o kk) :: vecT o v' out :: cellT m (modelObj g n now') :: cellT g (cntObj c' n) :: os)) (fun wr' => gapOf s wr')
      case atStart => exact ⟨33, lo1, hi1, out, kk, v', HIN.out, H6.out⟩
      case round =>
        obtain ⟨f, lo2, hi2, out2, kk2, v2, hI, hS2⟩ := hrel
        clear H6 HIN
        have HI := Lib.hid hI
        have HS2 := Lib.hid hS2
        have HG := Lib.hid (gap_span hS2)
        clear hI hS2
        cases hd : CoderP.dbl lo2 hi2 with
        | none =>
          have HD := Lib.hid (HI.out.done hd)
          clear hd
          go_wp2_with fail
          refine (double_none HS2.out HD.out.still).mono ?_
          rintro e w7 ⟨rfl, rfl⟩
          go_wp2_with fail
          rw [Exit.noGoto_normal]
          go_wp2_with fail
          go_roundw
          case rel => exact ⟨j + 1, c', now', lo2, hi2, out2, kk2, v2, by omega, by go_num, HD.out, HS2.out⟩
          case measure => simp [intOf]; omega
        | some q =>
          obtain ⟨wy, a2, b2⟩ := q
          have HD := Lib.hid hd
          clear hd
          go_wp2_with fail
          refine (double_some HS2.out HI.out.good HD.out).mono ?_
          rintro e w7 ⟨rfl, h7⟩
          have h7' : St w0 w7 (cellT s (writerObj a2 b2 o kk2) :: vecT o v2 out2 :: cellT m (modelObj g n now') :: cellT g (cntObj c' n) :: os) := h7
          have H7 := Lib.hid h7'
          clear h7 h7' HS2
          obtain ⟨f', rfl, hga, hgb, hcase⟩ := HI.out.step HD.out
          have HGG : Hid (4294967296 - (b2 - a2) < 4294967296 - (hi2 - lo2)) := by
            show _ < _
            have g1 := hga.2; have g2 := hga.1; have g3 := HI.out.good.1; have g4 := HI.out.good.2
            omega
          have hsz : Hid (out2.length + kk2 < 1099511626000) := by
            show _ < _
            have g1 := HI.out.size; have g2 := HP.out.2
            omega
          clear hga hgb HD HI
          rcases hcase with ⟨rfl, hI⟩ | ⟨rfl, hI⟩ | ⟨rfl, hI⟩
          · have HI := Lib.hid hI
            clear hI
            have c3 : w7.cell? ⟨s, 3, none⟩ = some (.int .i64 (kk2 : Int)) := H7.out.cellAt 3
            have f3 : w7.frozen? ⟨s, 3, none⟩ = false := H7.out.freeAt 3
            have hk40 : kk2 < 1099511626000 := by have := hsz.out; omega
            have S8 : Hid (St w0 (w7.setCell ⟨s, 3, none⟩ (.int .i64 ((kk2 : Int) + 1))) (cellT s (writerObj a2 b2 o (kk2 + 1)) :: vecT o v2 out2 :: cellT m (modelObj g n now') :: cellT g (cntObj c' n) :: os)) := H7.out.setWait (kk2 + 1)
            have HM := Lib.hid (gap_span S8.out)
            clear H7
            go_wp2_with fail
            go_roundw
            case rel => exact ⟨f', a2, b2, out2, kk2 + 1, v2, HI.out, S8.out⟩
            case measure => rw [HM.out, HG.out]; exact HGG.out
          · have HI := Lib.hid hI
            clear hI
            have hput : Calls Try.prog 45 #[.pointer (some ⟨s, 0, none⟩), .int .i64 0] w7 _ := put_any H7.out false (by have := hsz.out; omega)
            have HPUT := Lib.hid hput
            clear hput H7
            go_wp2_with fail
            refine HPUT.out.mono ?_
            rintro e w8 ⟨rfl, v8, h8⟩
            have H8 := Lib.hid h8
            have HM := Lib.hid (gap_span H8.out)
            clear h8
            go_wp2_with fail
            go_roundw
            case rel => exact ⟨f', a2, b2, _, 0, v8, HI.out, H8.out⟩
            case measure => rw [HM.out, HG.out]; exact HGG.out
          · have HI := Lib.hid hI
            clear hI
            have hput : Calls Try.prog 45 #[.pointer (some ⟨s, 0, none⟩), .int .i64 1] w7 _ := put_any H7.out true (by have := hsz.out; omega)
            have HPUT := Lib.hid hput
            clear hput H7
            go_wp2_with fail
            refine HPUT.out.mono ?_
            rintro e w8 ⟨rfl, v8, h8⟩
            have H8 := Lib.hid h8
            have HM := Lib.hid (gap_span H8.out)
            clear h8
            go_wp2_with fail
            go_roundw
            case rel => exact ⟨f', a2, b2, _, 0, v8, HI.out, H8.out⟩
            case measure => rw [HM.out, HG.out]; exact HGG.out
    · obtain rfl : j = l.length := by omega
      have HFIN := Lib.hid HT.out.finish
      have hsz : Hid (out.length + kk < 1099511626000) := by
        show _ < _
        have g1 := HT.out.size
        omega
      have hk40 : kk < 1099511626000 := by have := hsz.out; omega
      have hlo : lo < 4294967296 := by have g1 := HT.out.good.1; have g2 := HT.out.good.2; omega
      have c3 : wr.cell? ⟨s, 3, none⟩ = some (.int .i64 (kk : Int)) := HS.out.cellAt 3
      have f3 : wr.frozen? ⟨s, 3, none⟩ = false := HS.out.freeAt 3
      have S1 : Hid (St w0 (wr.setCell ⟨s, 3, none⟩ (.int .i64 ((kk : Int) + 1))) (cellT s (writerObj lo hi o (kk + 1)) :: vecT o v' out :: cellT m (modelObj g n now) :: cellT g (cntObj c n) :: os)) := HS.out.setWait (kk + 1)
      have c0 : wr.cell? ⟨s, 0, none⟩ = some (.int .u64 (lo : Int)) := HS.out.cellAt 0
      have c2 : wr.cell? ⟨s, 2, none⟩ = some (.pointer (some ⟨o, 0, none⟩)) := HS.out.cellAt 2
      clear HS HT
      by_cases hq : lo < 1073741824
      · have hd : decide ((lo : Int) < 1073741824) = true := decide_eq_true (by omega)
        have HFIN2 : Hid (out ++ false :: List.replicate (kk + 1) true = T) := by
          have := HFIN.out
          simp only [hq, decide_true, not_true_eq_false, decide_false] at this
          exact this
        clear hq HFIN hlo
        go_wp2_with fail
        have hput : Calls Try.prog 45 #[.pointer (some ⟨s, 0, none⟩), .int .i64 0] _ _ := put_any S1.out false (by have := hsz.out; omega)
        refine hput.mono ?_
        rintro e w8 ⟨rfl, v8, h8⟩
        rw [show (!false) = true from rfl, HFIN2.out] at h8
        have c2 : w8.cell? ⟨s, 2, none⟩ = some (.pointer (some ⟨o, 0, none⟩)) := h8.cellAt 2
        have H8 := Lib.hid h8.tail
        clear h8 hput S1 c0
        go_wp2_with fail
        go_ret2
        exact ⟨o, v8, rfl, by rw [HTT.out]; exact H8.out.swap.tail.swap.tail⟩
      · have hd : decide ((lo : Int) < 1073741824) = false := decide_eq_false (by omega)
        have HFIN2 : Hid (out ++ true :: List.replicate (kk + 1) false = T) := by
          have := HFIN.out
          simp only [hq, decide_true, not_false_eq_true, decide_false] at this
          exact this
        clear hq HFIN hlo
        go_wp2_with fail
        have hput : Calls Try.prog 45 #[.pointer (some ⟨s, 0, none⟩), .int .i64 1] _ _ := put_any S1.out true (by have := hsz.out; omega)
        refine hput.mono ?_
        rintro e w8 ⟨rfl, v8, h8⟩
        rw [show (!true) = false from rfl, HFIN2.out] at h8
        have c2 : w8.cell? ⟨s, 2, none⟩ = some (.pointer (some ⟨o, 0, none⟩)) := h8.cellAt 2
        have H8 := Lib.hid h8.tail
        clear h8 hput S1 c0
        go_wp2_with fail
        go_ret2
        exact ⟨o, v8, rfl, by rw [HTT.out]; exact H8.out.swap.tail.swap.tail⟩
end Go.Proofs.Ytgmgbgjghncipaa

