/- The document's coder: Encode. -/
import Derived.Test.YtgmgbgjghncipaaGoes
import Derived.Test.YtgmgbgjghncipaaSpan
import Derived.Deep.CutRange
namespace Go.Proofs.Ytgmgbgjghncipaa
open Go.RowKit

/-- a row of numbers -/
def uRow (f : Nat → Nat) (m : Nat) : List Value := (List.range m).map fun i => Value.int .u64 ((f i : Nat) : Int)
theorem uRow_len (f : Nat → Nat) (m : Nat) : (uRow f m).length = m := by simp [uRow]
theorem uRow_get (f : Nat → Nat) (m i : Nat) (h : i < m) : (uRow f m)[i]? = some (.int .u64 ((f i : Nat) : Int)) := by simp [uRow, h]
theorem uRow_set (f g : Nat → Nat) (m i : Nat) (h : ∀ j, j ≠ i → g j = f j) : (uRow f m).set i (.int .u64 ((g i : Nat) : Int)) = uRow g m := by
  apply List.ext_getElem
  · simp [uRow]
  · intro j h1 h2
    rw [List.getElem_set]
    by_cases he : i = j
    · subst he; simp [uRow]
    · rw [if_neg he]; simp [uRow, h j (fun e => he e.symm)]
theorem uRow_congr {f g : Nat → Nat} {m : Nat} (h : ∀ j, j < m → f j = g j) : uRow f m = uRow g m := by
  unfold uRow
  refine List.map_congr_left fun j hj => ?_
  rw [h j (List.mem_range.1 hj)]

theorem St.uAt {w0 w : World} {os : List Thing} {g m : Nat} {f : Nat → Nat} (h : St w0 w (rowT 22 (.slice (some ⟨g, 0, none⟩) m m) (uRow f m) :: os)) (i : Nat) (hi : i < m) :
    w.cell? ⟨g, i, none⟩ = some (.int .u64 ((f i : Nat) : Int)) ∧ w.frozen? ⟨g, i, none⟩ = false := by
  have h1 := h.rowN (n := m) (uRow_len f m)
  exact ⟨by rw [h1.cellAt i (by omega), uRow_get f m i hi], h1.frozenAt i⟩

theorem St.uSet {w0 w : World} {os : List Thing} {g m : Nat} {f : Nat → Nat} (h : St w0 w (rowT 22 (.slice (some ⟨g, 0, none⟩) m m) (uRow f m) :: os)) (i a : Nat) :
    St w0 (w.setCell ⟨g, i, none⟩ (.int .u64 (a : Int))) (rowT 22 (.slice (some ⟨g, 0, none⟩) m m) (uRow (fun j => if j = i then a else f j) m) :: os) := by
  have h1 := h.store (uRow_len f m) i (.int .u64 (a : Int))
  have h2 := uRow_set f (fun j => if j = i then a else f j) m i (fun j hj => by simp [hj])
  rw [if_pos rfl] at h2
  rw [h2] at h1
  exact h1

theorem St.zSet {w0 w : World} {os : List Thing} {gz go m : Nat} {c : Nat → Nat × Nat} (h : St w0 w (rowT 22 (.slice (some ⟨gz, 0, none⟩) m m) (uRow (fun i => (c i).1) m) :: rowT 22 (.slice (some ⟨go, 0, none⟩) m m) (uRow (fun i => (c i).2) m) :: os)) (x a : Nat) :
    St w0 (w.setCell ⟨gz, x, none⟩ (.int .u64 (a : Int))) (rowT 22 (.slice (some ⟨gz, 0, none⟩) m m) (uRow (fun i => ((setc c x (a, (c x).2)) i).1) m) :: rowT 22 (.slice (some ⟨go, 0, none⟩) m m) (uRow (fun i => ((setc c x (a, (c x).2)) i).2) m) :: os) := by
  have h1 := h.uSet x a
  have e1 : uRow (fun j => if j = x then a else (c j).1) m = uRow (fun i => ((setc c x (a, (c x).2)) i).1) m := uRow_congr fun j _ => by unfold setc; split <;> rfl
  have e2 : uRow (fun i => (c i).2) m = uRow (fun i => ((setc c x (a, (c x).2)) i).2) m := uRow_congr fun j _ => by
    unfold setc; split
    · rename_i h; subst h; rfl
    · rfl
  rw [e1, e2] at h1
  exact h1
theorem St.oSet {w0 w : World} {os : List Thing} {gz go m : Nat} {c : Nat → Nat × Nat} (h : St w0 w (rowT 22 (.slice (some ⟨gz, 0, none⟩) m m) (uRow (fun i => (c i).1) m) :: rowT 22 (.slice (some ⟨go, 0, none⟩) m m) (uRow (fun i => (c i).2) m) :: os)) (x a : Nat) :
    St w0 (w.setCell ⟨go, x, none⟩ (.int .u64 (a : Int))) (rowT 22 (.slice (some ⟨gz, 0, none⟩) m m) (uRow (fun i => ((setc c x ((c x).1, a)) i).1) m) :: rowT 22 (.slice (some ⟨go, 0, none⟩) m m) (uRow (fun i => ((setc c x ((c x).1, a)) i).2) m) :: os) := by
  have h1 := h.swap.uSet x a
  have e1 : uRow (fun j => if j = x then a else (c j).2) m = uRow (fun i => ((setc c x ((c x).1, a)) i).2) m := uRow_congr fun j _ => by unfold setc; split <;> rfl
  have e2 : uRow (fun i => (c i).1) m = uRow (fun i => ((setc c x ((c x).1, a)) i).1) m := uRow_congr fun j _ => by
    unfold setc; split
    · rename_i h; subst h; rfl
    · rfl
  rw [e1, e2] at h1
  exact h1.swap

theorem zeros_row (n : Nat) : List.replicate n (Value.int .u64 0) = uRow (fun _ => 0) n := by
  apply List.ext_getElem <;> simp [uRow]

set_option maxRecDepth 100000 in
set_option maxHeartbeats 8000000 in
theorem ref18_any {w0 w : World} {os : List Thing} (h : St w0 w os) (sv : Value) (l : List Bool) (k : Nat) (hk : k ≤ 8) (hl : l.length < 16777216)
    (hv : ∀ w' os', St w0 w' (os' ++ os) → Reads w' sv (intsOf (bitsOf l))) :
    Calls Try.prog 30 #[sv, .int .i64 k] w fun e w' => ∃ v, e = .returned v ∧ St w0 w' (rowT 3 v (intsOf (bitsOf (CoderP.code k l))) :: os) := by
  have H := Lib.hid h
  obtain ⟨ao, cap, rfl, hcap, hm, _, hc0⟩ := hv w [] h
  rw [intsOf_len, bitsOf_len] at hcap hv ⊢
  have HV := Lib.hid hv
  have hp := pow_le_8 k hk
  clear hm hc0 h hv
  go_enter Try.func30, Try.ntmps30
  go_wp2_with fail
  go_loopw [5, 6] (fun s i wr => ∃ j : Nat, j ≤ k ∧ i = .int .i64 j ∧ s = .int .i64 ((2 ^ j : Nat) : Int) ∧ w = wr) (fun _ i _ => k - (intOf i).toNat)
  case atStart => exact ⟨0, by omega, rfl, rfl, rfl⟩
  case round =>
    obtain ⟨j, hj, rfl, rfl, rfl⟩ := hrel
    have hpj := pow_le_8 j (by omega)
    by_cases hlt : j < k
    · have HS : Hid ((2 ^ (j + 1) : Nat) = 2 ^ j * 2) := Nat.pow_succ _ _
      generalize 2 ^ j = x at hpj HS ⊢
      go_wp2_with fail
      go_roundw
      case rel => exact ⟨j + 1, by omega, by go_num, by rw [HS.out]; go_num, by first | rfl | trivial⟩
      case measure => simp [intOf]; omega
    · obtain rfl : j = k := by omega
      obtain ⟨m, hmm⟩ : ∃ m, 2 ^ j = m := ⟨_, rfl⟩
      have HMM := Lib.hid hmm
      rw [hmm] at hp hpj ⊢
      have hmk := run_make_row' (P := Try.prog) 56 22 (.int .u64 0) 8 Try.underlying56 info_u64 rfl .i64 .i64 m (by omega) (by omega)
      clear hpj hlt hj hmm
      go_wp2_with fail
      go_cut [7, 8] from 26 (fun zv ov wc => ∃ gz go : Nat, zv = .slice (some ⟨gz, 0, none⟩) m m ∧ ov = .slice (some ⟨go, 0, none⟩) m m ∧
        St w0 wc (rowT 22 (.slice (some ⟨gz, 0, none⟩) m m) (uRow (fun _ => 0) m) :: rowT 22 (.slice (some ⟨go, 0, none⟩) m m) (uRow (fun _ => 0) m) :: os))
      case first =>
        have HA : Hid (∀ W os1, St w0 W os1 → St w0 (W.alloc (.cells (madeCells #[.int .u64 0] m) 22)) (rowT 22 (.slice (some ⟨W.heap.size, 0, none⟩) m m) (uRow (fun _ => 0) m) :: os1)) := fun W os1 hW => by
          have := World.ownsRow_lit (base := W.heap.size) (e := 22) (size := 1) W (madeCells #[.int .u64 0] m) m (Nat.le_refl _) (by unfold maxLen; omega) (by simp [madeCells])
          rw [toList_madeCells_one, zeros_row] at this
          exact hW.newRow ((Keeps.refl _ _).alloc _) this
        have S1 := Lib.hid (HA.out _ _ H.out)
        have S2 := Lib.hid (HA.out _ _ S1.out)
        have hsz : (w.alloc (.cells (madeCells #[.int .u64 0] m) 22)).heap.size = w.heap.size + 1 := by simp
        rw [hsz] at S2
        go_region
        · go_wp2_with fail
          go_meet
          exact ⟨_, _, rfl, rfl, S2.out.swap.drew⟩
        · go_wp2_with fail
          go_meet
          exact ⟨_, _, rfl, rfl, S2.out.drew⟩
      case rest =>
        obtain ⟨gz, go, rfl, rfl, hS0⟩ := hcut
        have H0 : Hid (St w0 wc (rowT 22 (.slice (some ⟨gz, 0, none⟩) m m) (uRow (fun i => if i < 0 then 1 else 0) m) :: rowT 22 (.slice (some ⟨go, 0, none⟩) m m) (uRow (fun i => if i < 0 then 1 else 0) m) :: os)) := hS0
        clear hS0 H
        go_wp2_with fail
        go_loopw [32] (fun i wr => ∃ t : Nat, t ≤ m ∧ i = .int .i64 t ∧ St w0 wr (rowT 22 (.slice (some ⟨gz, 0, none⟩) m m) (uRow (fun i => if i < t then 1 else 0) m) :: rowT 22 (.slice (some ⟨go, 0, none⟩) m m) (uRow (fun i => if i < t then 1 else 0) m) :: os)) (fun i _ => m - (intOf i).toNat)
        case atStart => exact ⟨0, by omega, rfl, H0.out⟩
        case round =>
          obtain ⟨t, ht, rfl, hS⟩ := hrel
          have HS := Lib.hid hS
          clear hS H0
          by_cases hlt : t < m
          · obtain ⟨cz, fz⟩ := HS.out.uAt t hlt
            obtain ⟨co, fo⟩ := HS.out.swap.uAt t hlt
            rw [if_neg (by omega)] at cz co
            have HF : Hid ((fun j => if j = t then 1 else if j < t then 1 else 0) = (fun i : Nat => if i < t + 1 then 1 else 0)) := by
              show _ = _
              funext i
              by_cases h1 : i = t
              · subst h1; simp
              · by_cases h2 : i < t
                · simp [h1, h2, show i < t + 1 by omega]
                · simp [h1, h2, show ¬ i < t + 1 by omega]
            have hS1 := HS.out.uSet t 1
            rw [HF.out] at hS1
            obtain ⟨co1, fo1⟩ := hS1.swap.uAt t hlt
            rw [if_neg (by omega)] at co1
            have c2 : (wr.setCell ⟨gz, t, none⟩ (.int .u64 1)).cell? ⟨go, t, none⟩ = some (.int .u64 0) := co1
            have f2 : (wr.setCell ⟨gz, t, none⟩ (.int .u64 1)).frozen? ⟨go, t, none⟩ = false := fo1
            clear co1 fo1
            have hS2 := hS1.swap.uSet t 1
            rw [HF.out] at hS2
            have HS2 := Lib.hid hS2.swap
            clear hS1 hS2 HS
            go_wp2_with fail
            go_roundw
            case rel => exact ⟨t + 1, by omega, by go_num, HS2.out⟩
            case measure => simp [intOf]; omega
          · obtain rfl : t = m := by omega
            have HE : Hid (uRow (fun i => if i < t then 1 else 0) t = uRow (fun i => ((fun _ : Nat => ((1, 1) : Nat × Nat)) i).1) t ∧ uRow (fun i => if i < t then 1 else 0) t = uRow (fun i => ((fun _ : Nat => ((1, 1) : Nat × Nat)) i).2) t) :=
              ⟨uRow_congr fun j hj => by simp [hj], uRow_congr fun j hj => by simp [hj]⟩
            have hS1 := HS.out
            rw [HE.out.1] at hS1
            have hS2 := hS1.swap
            rw [← HE.out.1, HE.out.2] at hS2
            have S3 := Lib.hid hS2.swap
            have HT : Hid (CoderP.At t l (CoderP.code j l) 0 (fun _ => (1, 1)) (CoderP.nowOf j l 0) 0 4294967295 [] 0) := by
              show CoderP.At _ _ _ _ _ _ _ _ _ _
              rw [← HMM.out]
              exact CoderP.At.start _ _ (Nat.two_pow_pos j)
            clear hS1 hS2 HE HS
            have S4 : Hid (St w0 wr (rowT 3 (.slice none 0 0) (intsOf (bitsOf [])) :: rowT 22 (.slice (some ⟨gz, 0, none⟩) t t) (uRow (fun i => ((fun _ : Nat => ((1, 1) : Nat × Nat)) i).1) t) :: rowT 22 (.slice (some ⟨go, 0, none⟩) t t) (uRow (fun i => ((fun _ : Nat => ((1, 1) : Nat × Nat)) i).2) t) :: os)) :=
              S3.out.newRow (Keeps.refl _ _) (World.ownsRow_nil _ _ _ _)
            have HP := Lib.hid (And.intro hp (And.intro hk hl))
            clear S3 hlt ht
            go_wp2_with fail
            go_loopw [10, 11, 12, 13, 44] (fun lv hv wv ov i wr => ∃ (q : Nat) (c : Nat → Nat × Nat) (lo hi : Nat) (out : List Bool) (kk : Nat), q ≤ l.length ∧ i = .int .i64 q ∧ lv = .int .u64 lo ∧ hv = .int .u64 hi ∧ wv = .int .i64 kk ∧ CoderP.At t l (CoderP.code j l) q c (CoderP.nowOf j l q) lo hi out kk ∧
              St w0 wr (rowT 3 ov (intsOf (bitsOf out)) :: rowT 22 (.slice (some ⟨gz, 0, none⟩) t t) (uRow (fun i => (c i).1) t) :: rowT 22 (.slice (some ⟨go, 0, none⟩) t t) (uRow (fun i => (c i).2) t) :: os)) (fun _ _ _ _ i _ => l.length - (intOf i).toNat)
            case atStart => exact ⟨0, _, _, _, _, _, by omega, rfl, rfl, rfl, rfl, HT.out, S4.out⟩
            case round =>
              obtain ⟨q, c, lo, hi, out, kk, hq, rfl, rfl, rfl, rfl, hT, hS⟩ := hrel
              clear HT S4
              have HS := Lib.hid hS
              have HT := Lib.hid hT
              clear hS hT
              by_cases hlt : q < l.length
              · have hq24 : q < 16777216 := by omega
                obtain ⟨ao', cap', he, _, _, _, hc⟩ := HV.out _ [_, _, _] HS.out
                simp only [Value.slice.injEq] at he
                obtain ⟨rfl, hdrop, rfl⟩ := he
                clear hdrop
                rcases hc with hc | ⟨bb, off, rfl, hc⟩
                · have : l.length = 0 := by rw [← bitsOf_len, ← intsOf_len, hc]; rfl
                  omega
                have cb := hc q _ (bitsOf_get l q hlt)
                obtain ⟨b, hb⟩ : ∃ b, l.getD q false = b := ⟨_, rfl⟩
                rw [hb] at cb
                have HB := Lib.hid hb
                clear hb
                have HCB := Lib.hid hc
                have hj8 := hk
                have hll := hl
                clear hc hp hq
                go_wp2_with fail
                go_loopw [16, 17] (fun cv jv wr' => ∃ y : Nat, y ≤ j ∧ jv = .int .i64 y ∧ cv = .int .i64 ((CoderP.nowOf j l q / 2 ^ y : Nat) : Int) ∧ wr' = wr) (fun _ jv _ => (intOf jv).toNat)
                case atStart =>
                  refine ⟨j, by omega, rfl, ?_, rfl⟩
                  rw [Nat.div_eq_of_lt (CoderP.nowOf_lt j l q)]; rfl
                case round =>
                  obtain ⟨y, hy, rfl, rfl, rfl⟩ := hrel
                  have hnl : CoderP.nowOf j l q / 2 ^ y ≤ 256 := by
                    have h1 := CoderP.nowOf_lt j l q
                    have h2 := (pow_le_8 j hk).2
                    have h3 := Nat.div_le_self (CoderP.nowOf j l q) (2 ^ y)
                    omega
                  by_cases hy0 : 0 < y
                  · obtain ⟨y', rfl⟩ : ∃ y', y = y' + 1 := ⟨y - 1, by omega⟩
                    have hst := CoderP.now_step j l q y' (by omega)
                    have hbl : (if y' + 1 ≤ q then (l.getD (q - (y' + 1)) false).toNat else 0) < 2 := by split <;> (try cases l.getD (q - (y' + 1)) false) <;> decide
                    by_cases hyq : y' + 1 ≤ q
                    · rw [if_pos hyq] at hst hbl
                      have cb2 := HCB.out (q - (y' + 1)) _ (bitsOf_get l (q - (y' + 1)) (by omega))
                      obtain ⟨bt, hbt⟩ : ∃ bt, (l.getD (q - (y' + 1)) false).toNat = bt := ⟨_, rfl⟩
                      rw [hbt] at cb2 hst hbl
                      obtain ⟨idx, hidx⟩ : ∃ idx, q - (y' + 1) = idx := ⟨_, rfl⟩
                      have hidx2 : ((q : Int) - ((y' + 1 : Nat) : Int)) = (idx : Int) := by omega
                      have hidx3 : idx < l.length := by omega
                      rw [hidx] at cb2
                      have HST := Lib.hid hst
                      clear hst hbt
                      generalize CoderP.nowOf j l q / 2 ^ (y' + 1) = z at hnl HST ⊢
                      go_wp2_with fail
                      go_roundw
                      case rel => exact ⟨y', by omega, by go_num, by rw [HST.out]; go_num, by first | rfl | trivial⟩
                      case measure => simp [intOf] <;> omega
                    · rw [if_neg hyq] at hst
                      have HST := Lib.hid hst
                      clear hst hbl
                      generalize CoderP.nowOf j l q / 2 ^ (y' + 1) = z at hnl HST ⊢
                      go_wp2_with fail
                      go_roundw
                      case rel => exact ⟨y', by omega, by go_num, by rw [HST.out]; go_num, by first | rfl | trivial⟩
                      case measure => simp [intOf] <;> omega
                  · obtain rfl : y = 0 := by omega
                    have hn0 : CoderP.nowOf j l q / 2 ^ 0 = CoderP.nowOf j l q := by simp
                    rw [hn0]
                    obtain ⟨now, hnow⟩ : ∃ now, CoderP.nowOf j l q = now := ⟨_, rfl⟩
                    rw [hnow] at HT ⊢
                    have HNOW := Lib.hid hnow
                    have hnt := HT.out.now
                    clear hn0 hnl hnow hy0 hy
                    have HW := Lib.hid (CoderP.dbl_none HT.out.good HT.out.still).1
                    have HFR := Lib.hid (HT.out.fair now)
                    have hmi := CoderP.mid_in HW.out HFR.out
                    have hlo32 : lo < 4294967296 := by have := HT.out.good.1; have := HT.out.good.2; omega
                    have hhi32 : hi < 4294967296 := HT.out.good.2
                    have hglo : lo ≤ hi := HT.out.good.1
                    obtain ⟨p, hpp⟩ : ∃ p, c now = p := ⟨_, rfl⟩
                    rw [hpp] at hmi HFR
                    have HPP := Lib.hid hpp
                    clear hpp
                    obtain ⟨p1, p2⟩ := p
                    have hmid32 : CoderP.mid lo hi (p1, p2) < 4294967296 := by omega
                    obtain ⟨hf1, hf2, hf3⟩ : 1 ≤ p1 ∧ 1 ≤ p2 ∧ p1 + p2 < 65536 := HFR.out
                    have HMV := Lib.hid (mid_val lo hi p1 p2 HW.out HFR.out)
                    obtain ⟨md, hmd⟩ : ∃ md, CoderP.mid lo hi (p1, p2) = md := ⟨_, rfl⟩
                    rw [hmd] at hmid32 HMV
                    have HMD : Hid (CoderP.mid lo hi (c now) = md) := by show _ = _; rw [HPP.out]; exact hmd
                    have zc := (HS.out.swap.uAt now hnt).1
                    have oc := (HS.out.rot3.uAt now hnt).1
                    simp only [HPP.out] at zc oc
                    clear hmi hmd
                    have hin := HT.out.step hlt b HB.out
                    rw [HMD.out] at hin
                    have HIN0 := Lib.hid hin
                    have HN2 : Hid (CoderP.nowOf j l (q + 1) = (2 * now + b.toNat) % t) := by
                      show (2 * CoderP.nowOf j l q + (l.getD q false).toNat) % 2 ^ j = _
                      rw [HNOW.out, HB.out, HMM.out]
                    have HUP := Lib.hid (upd_setc c now b)
                    clear hin HT HB
                    go_wp2_with fail
                    go_quiet (fail)
                    rw [HMV.out]
                    have HSN := Lib.hid (HS.out.drewN nq)
                    clear HS zc oc HMV HW HFR
                    generalize wr.drewN nq = W0 at HSN ⊢
                    go_upto_if 90 with fail
                    go_cut [10, 11] from 45 to 175 (fun lv hv wx => lv = .int .u64 ((if b = true then md + 1 else lo : Nat) : Int) ∧ hv = .int .u64 ((if b = true then hi else md : Nat) : Int) ∧
                      St w0 wx (rowT 3 u13 (intsOf (bitsOf out)) :: rowT 22 (.slice (some ⟨gz, 0, none⟩) t t) (uRow (fun i => ((setc c now (p1 + (!b).toNat, p2 + b.toNat)) i).1) t) :: rowT 22 (.slice (some ⟨go, 0, none⟩) t t) (uRow (fun i => ((setc c now (p1 + (!b).toNat, p2 + b.toNat)) i).2) t) :: os))
                    case first =>
                      have zc : W0.cell? ⟨gz, now, none⟩ = some (.int .u64 ((p1 : Nat) : Int)) := by rw [(HSN.out.swap.uAt now hnt).1, HPP.out]
                      have oc : W0.cell? ⟨go, now, none⟩ = some (.int .u64 ((p2 : Nat) : Int)) := by rw [(HSN.out.rot3.uAt now hnt).1, HPP.out]
                      have fz : W0.frozen? ⟨gz, now, none⟩ = false := (HSN.out.swap.uAt now hnt).2
                      have fo : W0.frozen? ⟨go, now, none⟩ = false := (HSN.out.rot3.uAt now hnt).2
                      cases b
                      · have hlit : ((((false).toNat : Nat)) : Int) = 0 := rfl
                        try rw [hlit]
                        have S1 := (HSN.out.rot3.rot3.zSet now (p1 + 1)).rot3
                        rw [HPP.out] at S1
                        have S1 := Lib.hid S1
                        clear HSN
                        go_wp2_with fail
                        go_meet
                        exact ⟨rfl, rfl, S1.out⟩
                      · have hlit : ((((true).toNat : Nat)) : Int) = 1 := rfl
                        try rw [hlit]
                        have S1 := (HSN.out.rot3.rot3.oSet now (p2 + 1)).rot3
                        rw [HPP.out] at S1
                        have S1 := Lib.hid S1
                        clear HSN
                        go_wp2_with fail
                        go_meet
                        exact ⟨rfl, rfl, S1.out⟩
                    case rest =>
                      obtain ⟨rfl, rfl, hS1⟩ := hcut
                      have hHI0 : (if b = true then hi else md) < 4294967296 := by split <;> omega
                      have hLO0 : (if b = true then md + 1 else lo) < 4294967296 := by have := HIN0.out.good.1; have := HIN0.out.good.2; omega
                      generalize (if b = true then md + 1 else lo) = lo1 at HIN0 hLO0 ⊢
                      generalize (if b = true then hi else md) = hi1 at HIN0 hHI0 ⊢
                      have hbb : (!b).toNat + b.toNat = 1 := by cases b <;> rfl
                      have HBU : Hid (CoderP.upd c now b = setc c now (if (p1 + (!b).toNat) + (p2 + b.toNat) = 65536 then ((p1 + (!b).toNat + 1) / 2, (p2 + b.toNat + 1) / 2) else (p1 + (!b).toNat, p2 + b.toNat))) := by
                        show _ = _
                        rw [HUP.out, HPP.out]
                        cases b <;> simp [CoderP.bump]
                      obtain ⟨q1, hq1⟩ : ∃ q1, p1 + (!b).toNat = q1 := ⟨_, rfl⟩
                      obtain ⟨q2, hq2⟩ : ∃ q2, p2 + b.toNat = q2 := ⟨_, rfl⟩
                      rw [hq1, hq2] at HBU hS1
                      have hqa : 1 ≤ q1 := by omega
                      have hqb : 1 ≤ q2 := by omega
                      have hqc : q1 + q2 ≤ 65536 := by omega
                      have S1 := Lib.hid hS1
                      clear hS1 hq1 hq2 hbb HUP HPP HSN hf1 hf2 hf3 HMD hmid32 hlo32 hhi32 hglo
                      have z1 : wc.cell? ⟨gz, now, none⟩ = some (.int .u64 ((q1 : Nat) : Int)) := by rw [(S1.out.swap.uAt now hnt).1, setc_at]
                      have o1 : wc.cell? ⟨go, now, none⟩ = some (.int .u64 ((q2 : Nat) : Int)) := by rw [(S1.out.rot3.uAt now hnt).1, setc_at]
                      go_wp2_with fail
                      go_quiet (fail)
                      have S2 := Lib.hid (S1.out.drewN nq)
                      clear z1 o1 S1
                      generalize wc.drewN nq = W2 at S2 ⊢
                      go_upto_if 115 with fail
                      go_cut [] from 45 to 175 (fun wx => St w0 wx (rowT 3 u13 (intsOf (bitsOf out)) :: rowT 22 (.slice (some ⟨gz, 0, none⟩) t t) (uRow (fun i => ((CoderP.upd c now b) i).1) t) :: rowT 22 (.slice (some ⟨go, 0, none⟩) t t) (uRow (fun i => ((CoderP.upd c now b) i).2) t) :: os))
                      case first =>
                        by_cases hs : q1 + q2 = 65536
                        · have hsb : (((q1 : Int) + (q2 : Int)) == 65536) = true := beq_iff_eq.2 (by omega)
                          have HUQ : Hid (CoderP.upd c now b = setc c now ((q1 + 1) / 2, (q2 + 1) / 2)) := by
                            show _ = _
                            rw [HBU.out, if_pos hs]
                          have z1 : W2.cell? ⟨gz, now, none⟩ = some (.int .u64 ((q1 : Nat) : Int)) := by rw [(S2.out.swap.uAt now hnt).1, setc_at]
                          have o1 : W2.cell? ⟨go, now, none⟩ = some (.int .u64 ((q2 : Nat) : Int)) := by rw [(S2.out.rot3.uAt now hnt).1, setc_at]
                          have fz : W2.frozen? ⟨gz, now, none⟩ = false := (S2.out.swap.uAt now hnt).2
                          have fo : W2.frozen? ⟨go, now, none⟩ = false := (S2.out.rot3.uAt now hnt).2
                          have gg : (W2.setCell ⟨gz, now, none⟩ (.int .u64 ((q1 : Int) / 2 + (q1 : Int) % 2))).cell? ⟨go, now, none⟩ = some (.int .u64 ((q2 : Nat) : Int)) := by
                            have e : ((q1 : Int) / 2 + (q1 : Int) % 2) = (((q1 + 1) / 2 : Nat) : Int) := by omega
                            rw [e, ((S2.out.rot3.rot3.zSet now ((q1 + 1) / 2)).swap.uAt now hnt).1, setc_at, setc_at]
                          have gf : (W2.setCell ⟨gz, now, none⟩ (.int .u64 ((q1 : Int) / 2 + (q1 : Int) % 2))).frozen? ⟨go, now, none⟩ = false := by
                            have e : ((q1 : Int) / 2 + (q1 : Int) % 2) = (((q1 + 1) / 2 : Nat) : Int) := by omega
                            rw [e]
                            exact ((S2.out.rot3.rot3.zSet now ((q1 + 1) / 2)).swap.uAt now hnt).2
                          go_wp2_with fail
                          go_region
                          have S3 : Hid (St w0 (((W2.setCell ⟨gz, now, none⟩ (.int .u64 ((q1 : Int) / 2 + (q1 : Int) % 2))).setCell ⟨go, now, none⟩ (.int .u64 ((q2 : Int) / 2 + (q2 : Int) % 2))).drew) (rowT 3 u13 (intsOf (bitsOf out)) :: rowT 22 (.slice (some ⟨gz, 0, none⟩) t t) (uRow (fun i => ((CoderP.upd c now b) i).1) t) :: rowT 22 (.slice (some ⟨go, 0, none⟩) t t) (uRow (fun i => ((CoderP.upd c now b) i).2) t) :: os)) := by
                            have e : ((q1 : Int) / 2 + (q1 : Int) % 2) = (((q1 + 1) / 2 : Nat) : Int) := by omega
                            have e2 : ((q2 : Int) / 2 + (q2 : Int) % 2) = (((q2 + 1) / 2 : Nat) : Int) := by omega
                            rw [e, e2]
                            have := ((S2.out.rot3.rot3.zSet now ((q1 + 1) / 2)).oSet now ((q2 + 1) / 2)).rot3.drew
                            rw [setc_at, setc_setc, setc_at, setc_setc, ← HUQ.out] at this
                            exact this
                          clear S2 z1 o1 fz fo gg gf
                          go_wp2_with fail
                          go_meet
                          exact S3.out
                        · have hsb : (((q1 : Int) + (q2 : Int)) == 65536) = false := beq_eq_false_iff_ne.2 (by omega)
                          have S3 : Hid (St w0 W2 (rowT 3 u13 (intsOf (bitsOf out)) :: rowT 22 (.slice (some ⟨gz, 0, none⟩) t t) (uRow (fun i => ((CoderP.upd c now b) i).1) t) :: rowT 22 (.slice (some ⟨go, 0, none⟩) t t) (uRow (fun i => ((CoderP.upd c now b) i).2) t) :: os)) := by
                            show St _ _ _
                            rw [HBU.out, if_neg hs]
                            exact S2.out
                          clear S2
                          go_wp2_with fail
                          go_meet
                          exact S3.out
                      case rest =>
                        have HS9 := Lib.hid hcut
                        have HIN := HIN0
                        clear hcut S2 HIN0 HBU hqa hqb hqc
                        generalize CoderP.upd c now b = c2 at HIN HS9
                        generalize (2 * now + b.toNat) % t = now2 at HIN HN2
                        go_wp2_with fail
                        go_loopw [10, 11, 12, 13] (fun lv hv wv ov wr' => ∃ (f lo hi : Nat) (out : List Bool) (kk : Nat), lv = .int .u64 lo ∧ hv = .int .u64 hi ∧ wv = .int .i64 kk ∧ CoderP.In t l (CoderP.code j l) (q + 1) c2 now2 lo hi out kk f ∧
                          St w0 wr' (rowT 3 ov (intsOf (bitsOf out)) :: rowT 22 (.slice (some ⟨gz, 0, none⟩) t t) (uRow (fun i => (c2 i).1) t) :: rowT 22 (.slice (some ⟨go, 0, none⟩) t t) (uRow (fun i => (c2 i).2) t) :: os)) (fun lv hv _ _ _ => 4294967296 - ((intOf hv).toNat - (intOf lv).toNat))
                        case atStart => exact ⟨33, _, _, out, kk, rfl, rfl, rfl, HIN.out, HS9.out⟩
                        case round =>
                          obtain ⟨f, lo2, hi2, out2, kk2, rfl, rfl, rfl, hI, hS2⟩ := hrel
                          have HI := Lib.hid hI
                          have HS2 := Lib.hid hS2
                          have hlo2 : lo2 < 4294967296 := by have := hI.good.1; have := hI.good.2; omega
                          have hhi2 : hi2 < 4294967296 := hI.good.2
                          have hsz : Hid (out2.length + kk2 < 1099511000) := by show _ < _; have := hI.size; omega
                          have hkk2 : kk2 < 1099511000 := by have := hsz.out; omega
                          clear HIN HS9 hI hS2
                          by_cases e1 : hi2 < 2147483648
                          · have d1 : decide ((hi2 : Int) < 2147483648) = true := decide_eq_true (by omega)
                            have hd : CoderP.dbl lo2 hi2 = some (1, 2 * (lo2 - 0), 2 * (hi2 - 0) + 1) := by simp [CoderP.dbl, e1]
                            obtain ⟨f', rfl, hga, hgb, hcase⟩ := HI.out.step hd
                            have hnext : CoderP.In t l (CoderP.code j l) (q + 1) c2 now2 (2 * (lo2 - 0)) (2 * (hi2 - 0) + 1) (out2 ++ false :: List.replicate kk2 true) 0 f' := by rcases hcase with ⟨h, _⟩ | ⟨_, h⟩ | ⟨h, _⟩; cases h; exact h; cases h
                            have HNX := Lib.hid hnext
                            have HME : Hid (4294967296 - ((((2 * (hi2 - 0) + 1 : Nat) : Int)).toNat - (((2 * (lo2 - 0) : Nat) : Int)).toNat) < 4294967296 - ((hi2 : Int).toNat - (lo2 : Int).toNat)) := by
                              show _ < _
                              rw [Int.toNat_natCast, Int.toNat_natCast, Int.toNat_natCast, Int.toNat_natCast]
                              have g1 := hga.2; have g2 := hga.1; have g3 := HI.out.good.1; omega
                            have HLO : Hid (2 * (lo2 : Int) = ((2 * (lo2 - 0) : Nat) : Int)) := by show _ = _; omega
                            have HHI : Hid (2 * (hi2 : Int) + 1 = ((2 * (hi2 - 0) + 1 : Nat) : Int)) := by show _ = _; omega
                            clear hd hga hgb hcase hnext HI e1
                            go_wp2_with fail
                            have hgo : Calls Try.prog 35 #[_, .int .i64 0, .int .i64 kk2] _ _ := goes_any HS2.out false kk2 (by have := hsz.out; omega)
                            refine hgo.mono ?_
                            rintro e w8 ⟨v8, rfl, h8⟩
                            rw [show (!false) = true from rfl] at h8
                            have H8 := Lib.hid h8
                            clear h8 hgo HS2
                            go_wp2_with fail
                            go_roundw
                            case rel => first | exact ⟨f', _, _, _, 0, congrArg (Value.int .u64) HLO.out, congrArg (Value.int .u64) HHI.out, rfl, HNX.out, H8.out⟩ | ((repeat apply Exists.intro); exact ⟨⟨f', _, _, _, 0, congrArg (Value.int .u64) HLO.out, congrArg (Value.int .u64) HHI.out, rfl, HNX.out, H8.out⟩, rfl⟩)
                            case measure =>
                              change 4294967296 - ((2 * (hi2 : Int) + 1).toNat - (2 * (lo2 : Int)).toNat) < 4294967296 - ((hi2 : Int).toNat - (lo2 : Int).toNat)
                              rw [HLO.out, HHI.out]
                              exact HME.out
                          · have d1 : decide ((hi2 : Int) < 2147483648) = false := decide_eq_false (by omega)
                            by_cases e2 : 2147483648 ≤ lo2
                            · have d2 : decide ((2147483648 : Int) ≤ (lo2 : Int)) = true := decide_eq_true (by omega)
                              have hd : CoderP.dbl lo2 hi2 = some (2, 2 * (lo2 - 2147483648), 2 * (hi2 - 2147483648) + 1) := by simp [CoderP.dbl, e1, e2]
                              obtain ⟨f', rfl, hga, hgb, hcase⟩ := HI.out.step hd
                              have hnext : CoderP.In t l (CoderP.code j l) (q + 1) c2 now2 (2 * (lo2 - 2147483648)) (2 * (hi2 - 2147483648) + 1) (out2 ++ true :: List.replicate kk2 false) 0 f' := by rcases hcase with ⟨h, _⟩ | ⟨h, _⟩ | ⟨_, h⟩; cases h; cases h; exact h
                              have HNX := Lib.hid hnext
                              have HME : Hid (4294967296 - ((((2 * (hi2 - 2147483648) + 1 : Nat) : Int)).toNat - (((2 * (lo2 - 2147483648) : Nat) : Int)).toNat) < 4294967296 - ((hi2 : Int).toNat - (lo2 : Int).toNat)) := by
                                show _ < _
                                rw [Int.toNat_natCast, Int.toNat_natCast, Int.toNat_natCast, Int.toNat_natCast]
                                have g1 := hga.2; have g2 := hga.1; have g3 := HI.out.good.1; omega
                              have HLO : Hid (IntKind.u64.wrap (2 * IntKind.u64.wrap ((lo2 : Int) - 2147483648)) = ((2 * (lo2 - 2147483648) : Nat) : Int)) := dbl_lo lo2 2147483648 (by omega) hlo2
                              have HHI : Hid (IntKind.u64.wrap (IntKind.u64.wrap (2 * IntKind.u64.wrap ((hi2 : Int) - 2147483648)) + 1) = ((2 * (hi2 - 2147483648) + 1 : Nat) : Int)) := dbl_hi hi2 2147483648 (by have := HI.out.good.1; omega) hhi2
                              clear hd hga hgb hcase hnext HI e1 e2
                              go_wp2_with fail
                              have hgo : Calls Try.prog 35 #[_, .int .i64 1, .int .i64 kk2] _ _ := goes_any HS2.out true kk2 (by have := hsz.out; omega)
                              refine hgo.mono ?_
                              rintro e w8 ⟨v8, rfl, h8⟩
                              rw [show (!true) = false from rfl] at h8
                              have H8 := Lib.hid h8
                              clear h8 hgo HS2
                              go_wp2_with fail
                              go_roundw
                              case rel => first | exact ⟨f', _, _, _, 0, congrArg (Value.int .u64) HLO.out, congrArg (Value.int .u64) HHI.out, rfl, HNX.out, H8.out⟩ | ((repeat apply Exists.intro); exact ⟨⟨f', _, _, _, 0, congrArg (Value.int .u64) HLO.out, congrArg (Value.int .u64) HHI.out, rfl, HNX.out, H8.out⟩, rfl⟩)
                              case measure =>
                                change 4294967296 - ((IntKind.u64.wrap (IntKind.u64.wrap (2 * IntKind.u64.wrap ((hi2 : Int) - 2147483648)) + 1)).toNat - (IntKind.u64.wrap (2 * IntKind.u64.wrap ((lo2 : Int) - 2147483648))).toNat) < 4294967296 - ((hi2 : Int).toNat - (lo2 : Int).toNat)
                                rw [HLO.out, HHI.out]
                                exact HME.out
                            · have d2 : decide ((2147483648 : Int) ≤ (lo2 : Int)) = false := decide_eq_false (by omega)
                              by_cases e3 : 1073741824 ≤ lo2 ∧ hi2 < 3221225472
                              · have d3 : decide ((1073741824 : Int) ≤ (lo2 : Int)) = true := decide_eq_true (by omega)
                                have d4 : decide ((hi2 : Int) < 3221225472) = true := decide_eq_true (by omega)
                                have hd : CoderP.dbl lo2 hi2 = some (3, 2 * (lo2 - 1073741824), 2 * (hi2 - 1073741824) + 1) := by simp [CoderP.dbl, e1, e2, e3]
                                obtain ⟨f', rfl, hga, hgb, hcase⟩ := HI.out.step hd
                                have hnext : CoderP.In t l (CoderP.code j l) (q + 1) c2 now2 (2 * (lo2 - 1073741824)) (2 * (hi2 - 1073741824) + 1) out2 (kk2 + 1) f' := by rcases hcase with ⟨_, h⟩ | ⟨h, _⟩ | ⟨h, _⟩; exact h; cases h; cases h
                                have HNX := Lib.hid hnext
                                have HME : Hid (4294967296 - ((((2 * (hi2 - 1073741824) + 1 : Nat) : Int)).toNat - (((2 * (lo2 - 1073741824) : Nat) : Int)).toNat) < 4294967296 - ((hi2 : Int).toNat - (lo2 : Int).toNat)) := by
                                  show _ < _
                                  rw [Int.toNat_natCast, Int.toNat_natCast, Int.toNat_natCast, Int.toNat_natCast]
                                  have g1 := hga.2; have g2 := hga.1; have g3 := HI.out.good.1; omega
                                have HLO : Hid (IntKind.u64.wrap (2 * IntKind.u64.wrap ((lo2 : Int) - 1073741824)) = ((2 * (lo2 - 1073741824) : Nat) : Int)) := dbl_lo lo2 1073741824 (by omega) hlo2
                                have HHI : Hid (IntKind.u64.wrap (IntKind.u64.wrap (2 * IntKind.u64.wrap ((hi2 : Int) - 1073741824)) + 1) = ((2 * (hi2 - 1073741824) + 1 : Nat) : Int)) := dbl_hi hi2 1073741824 (by have := HI.out.good.1; omega) hhi2
                                clear hd hga hgb hcase hnext HI e1 e2 e3
                                go_wp2_with fail
                                go_roundw
                                case rel => first | exact ⟨f', _, _, out2, kk2 + 1, congrArg (Value.int .u64) HLO.out, congrArg (Value.int .u64) HHI.out, by go_num, HNX.out, HS2.out⟩ | ((repeat apply Exists.intro); exact ⟨⟨f', _, _, out2, kk2 + 1, congrArg (Value.int .u64) HLO.out, congrArg (Value.int .u64) HHI.out, by go_num, HNX.out, HS2.out⟩, rfl⟩)
                                case measure =>
                                  change 4294967296 - ((IntKind.u64.wrap (IntKind.u64.wrap (2 * IntKind.u64.wrap ((hi2 : Int) - 1073741824)) + 1)).toNat - (IntKind.u64.wrap (2 * IntKind.u64.wrap ((lo2 : Int) - 1073741824))).toNat) < 4294967296 - ((hi2 : Int).toNat - (lo2 : Int).toNat)
                                  rw [HLO.out, HHI.out]
                                  exact HME.out
                              · have hd : CoderP.dbl lo2 hi2 = none := by simp [CoderP.dbl, e1, e2, e3]
                                have HD := Lib.hid (HI.out.done hd)
                                clear hd HI
                                by_cases e4 : 1073741824 ≤ lo2
                                · have d3 : decide ((1073741824 : Int) ≤ (lo2 : Int)) = true := decide_eq_true (by omega)
                                  have d4 : decide ((hi2 : Int) < 3221225472) = false := decide_eq_false (by omega)
                                  clear e1 e2 e3 e4
                                  go_wp2_with fail
                                  go_roundw
                                  case rel =>
                                    first
                                      | exact ⟨q + 1, c2, lo2, hi2, out2, kk2, by omega, by go_num, rfl, rfl, rfl, by rw [HN2.out]; exact HD.out, HS2.out⟩
                                      | ((repeat apply Exists.intro); exact ⟨⟨q + 1, c2, lo2, hi2, out2, kk2, by omega, by go_num, rfl, rfl, rfl, by rw [HN2.out]; exact HD.out, HS2.out⟩, rfl⟩)
                                  case measure => simp [intOf]; omega
                                · have d3 : decide ((1073741824 : Int) ≤ (lo2 : Int)) = false := decide_eq_false (by omega)
                                  clear e1 e2 e3 e4
                                  go_wp2_with fail
                                  go_roundw
                                  case rel =>
                                    first
                                      | exact ⟨q + 1, c2, lo2, hi2, out2, kk2, by omega, by go_num, rfl, rfl, rfl, by rw [HN2.out]; exact HD.out, HS2.out⟩
                                      | ((repeat apply Exists.intro); exact ⟨⟨q + 1, c2, lo2, hi2, out2, kk2, by omega, by go_num, rfl, rfl, rfl, by rw [HN2.out]; exact HD.out, HS2.out⟩, rfl⟩)
                                  case measure => simp [intOf]; omega
              · have hqe : q = l.length := by omega
                subst hqe
                have hfin := HT.out.finish
                have hsz := HT.out.size
                have hkk : kk < 1099511000 := by omega
                have hlo32 : lo < 4294967296 := by have := HT.out.good.1; have := HT.out.good.2; omega
                by_cases hlo : lo < 1073741824
                · have hc : out ++ false :: List.replicate (kk + 1) true = CoderP.code j l := by rw [← hfin]; simp [hlo]
                  have hgo := goes_any HS.out false (kk + 1) (by omega)
                  rw [Int.natCast_succ] at hgo
                  have HGO : Hid (Calls Try.prog 35 #[u13, .int .i64 0, .int .i64 ((kk : Int) + 1)] wr fun e w' => ∃ v', e = .returned v' ∧ St w0 w' (rowT 3 v' (intsOf (bitsOf (CoderP.code j l))) :: os)) := by
                    refine Calls.mono hgo ?_
                    rintro e w8 ⟨v8, rfl, h8⟩
                    rw [show (!false) = true from rfl, hc] at h8
                    exact ⟨_, rfl, h8.swap.tail.swap.tail⟩
                  have d1 : decide ((lo : Int) < 1073741824) = true := decide_eq_true (by omega)
                  clear hgo hc hfin hsz HT hlo
                  go_wp2_with fail
                  refine HGO.out.mono ?_
                  rintro e w8 ⟨v8, rfl, h8⟩
                  go_wp2
                  go_ret
                  exact ⟨_, rfl, h8⟩
                · have hc : out ++ true :: List.replicate (kk + 1) false = CoderP.code j l := by rw [← hfin]; simp [hlo]
                  have hgo := goes_any HS.out true (kk + 1) (by omega)
                  rw [Int.natCast_succ] at hgo
                  have HGO : Hid (Calls Try.prog 35 #[u13, .int .i64 1, .int .i64 ((kk : Int) + 1)] wr fun e w' => ∃ v', e = .returned v' ∧ St w0 w' (rowT 3 v' (intsOf (bitsOf (CoderP.code j l))) :: os)) := by
                    refine Calls.mono hgo ?_
                    rintro e w8 ⟨v8, rfl, h8⟩
                    rw [show (!true) = false from rfl, hc] at h8
                    exact ⟨_, rfl, h8.swap.tail.swap.tail⟩
                  have d1 : decide ((lo : Int) < 1073741824) = false := decide_eq_false (by omega)
                  clear hgo hc hfin hsz HT hlo
                  go_wp2_with fail
                  refine HGO.out.mono ?_
                  rintro e w8 ⟨v8, rfl, h8⟩
                  go_wp2
                  go_ret
                  exact ⟨_, rfl, h8⟩
end Go.Proofs.Ytgmgbgjghncipaa

