/- The contract of the reference's checksum. -/
import Derived.Test.YtgpdkobefnhfiaaAwake
import Derived.Test.YtgpdkobefnhfiaaThings
namespace Go.Proofs.Ytgpdkobefnhfiaa
open Go.RowKit

/-- the cells of a register -/
def regF (x : Nat) : Nat → Value := fun j => .bool (x.testBit j)

/-- the register's row, and all else as it was -/
def RegAt (w0 w : World) (f : Nat → Value) : Prop := w.rowIs w0.heap.size 47 32 f ∧ Keeps [] w0 w

theorem RegAt.store {w0 w : World} {f g : Nat → Value} (h : RegAt w0 w f) (i : Nat) (v : Value) (hg : ∀ j, j < 32 → (if j = i then v else f j) = g j) : RegAt w0 (w.setCell ⟨w0.heap.size, i, none⟩ v) g :=
  ⟨(h.1.set i v).congr hg, h.2.setCell (.inr (Nat.le_refl _)) v⟩

theorem RegAt.congr {w0 w : World} {f g : Nat → Value} (h : RegAt w0 w f) (hg : ∀ j, j < 32 → f j = g j) : RegAt w0 w g := ⟨h.1.congr hg, h.2⟩

theorem RegAt.cell {w0 w : World} {f : Nat → Value} (h : RegAt w0 w f) {i : Nat} (hi : i < 32) : w.cell? ⟨w0.heap.size, i, none⟩ = some (f i) := h.1.cell hi
theorem RegAt.free {w0 w : World} {f : Nat → Value} (h : RegAt w0 w f) (i : Nat) : w.frozen? ⟨w0.heap.size, i, none⟩ = false := h.1.frozen i

set_option maxRecDepth 100000 in
set_option maxHeartbeats 4000000 in
theorem refOf_any (v : Value) (l : List Nat) (w : World) (hv : Reads w v (bytesOf l)) (hl : ∀ x ∈ l, x < 256) (hn : l.length ≤ 1000) :
    Calls Try.prog 16 #[v] w fun e w' => e = .returned (.int .u32 (CrcP.of l : Nat)) ∧ Keeps [] w w' := by
  obtain ⟨ao, cap, rfl, hcap, hm, hnil, hc⟩ := hv
  rw [bytesOf_len] at hcap ⊢
  have HC := Lib.hid hc
  clear hm hnil hc
  go_enter Try.func16, Try.ntmps16
  go_wp2_with fail
  go_loopw [15] (fun i wr => ∃ k : Nat, k ≤ 32 ∧ i = .int .i64 k ∧ RegAt w wr (fun j => .bool (decide (j < k)))) (fun i _ => 32 - (intOf i).toNat)
  case atStart =>
    refine ⟨0, by omega, rfl, ?_, (Keeps.refl _ _).alloc _⟩
    refine World.rowIs_alloc w _ 47 _ fun i hi => ?_
    have : ∀ i, i < 32 → (#[Value.bool false, .bool false, .bool false, .bool false, .bool false, .bool false, .bool false, .bool false, .bool false, .bool false, .bool false, .bool false, .bool false, .bool false, .bool false, .bool false, .bool false, .bool false, .bool false, .bool false, .bool false, .bool false, .bool false, .bool false, .bool false, .bool false, .bool false, .bool false, .bool false, .bool false, .bool false, .bool false])[i]? = some (.bool false) := by
      intro i hi
      have h : i = 0 ∨ i = 1 ∨ i = 2 ∨ i = 3 ∨ i = 4 ∨ i = 5 ∨ i = 6 ∨ i = 7 ∨ i = 8 ∨ i = 9 ∨ i = 10 ∨ i = 11 ∨ i = 12 ∨ i = 13 ∨ i = 14 ∨ i = 15 ∨ i = 16 ∨ i = 17 ∨ i = 18 ∨ i = 19 ∨ i = 20 ∨ i = 21 ∨ i = 22 ∨ i = 23 ∨ i = 24 ∨ i = 25 ∨ i = 26 ∨ i = 27 ∨ i = 28 ∨ i = 29 ∨ i = 30 ∨ i = 31 := by omega
      rcases h with rfl | rfl | rfl | rfl | rfl | rfl | rfl | rfl | rfl | rfl | rfl | rfl | rfl | rfl | rfl | rfl | rfl | rfl | rfl | rfl | rfl | rfl | rfl | rfl | rfl | rfl | rfl | rfl | rfl | rfl | rfl | rfl <;> rfl
    rw [this i hi]
    simp
  case round =>
    obtain ⟨k, hk, rfl, hR⟩ := hrel
    by_cases hlt : k < 32
    · have c0 := hR.cell hlt
      have f0 := hR.free k
      have HR := Lib.hid hR
      clear hR
      go_wp2
      go_roundw
      case rel =>
        refine ⟨k + 1, by omega, by go_num, HR.out.store k _ fun j hj => ?_⟩
        by_cases h : j = k
        · simp [h]
        · simp [h]; omega
      case measure => simp [intOf]; omega
    · have hk2 : k = 32 := by omega
      subst hk2
      have HR : Hid (RegAt w wr (regF 4294967295)) := hR.congr fun j hj => by
        have h1 := CrcP.all_xor 0 j hj
        rw [Nat.zero_xor] at h1
        simp [regF, h1, hj]
      clear hR
      obtain ⟨wa, rfl⟩ : ∃ wa : World, wa = wr := ⟨_, rfl⟩
      go_wp2_with fail
      go_loopw [23] (fun i wr => ∃ k : Nat, k ≤ l.length ∧ i = .int .i64 k ∧ RegAt w wr (regF (CrcP.run 4294967295 (l.take k)))) (fun i _ => l.length - (intOf i).toNat)
      case atStart => exact ⟨0, by omega, rfl, HR.out⟩
      case round =>
        obtain ⟨k, hk, rfl, hR⟩ := hrel
        clear HR
        have hX : CrcP.run 4294967295 (l.take k) < 4294967296 := CrcP.run_lt (by decide) (fun x hx => hl x (List.mem_of_mem_take hx))
        generalize hq : CrcP.run 4294967295 (l.take k) = X at hR hX
        have HQ := Lib.hid hq
        clear hq
        by_cases hlt : k < l.length
        · obtain ⟨bb, off, rfl, hcell⟩ : ∃ bb off, ao = some ⟨bb, off, none⟩ ∧ ∀ j u, (bytesOf l)[j]? = some u → w.cell? ⟨bb, off + j, none⟩ = some u := by
            rcases HC.out with h | ⟨bb, off, h1, h2⟩
            · have : l = [] := by simpa [bytesOf] using h
              subst this; simp at hlt
            · exact ⟨bb, off, h1, h2⟩
          have hc0 := hcell k _ (bytesOf_get l k hlt)
          have cb : wr.cell? ⟨bb, off + k, none⟩ = some (.int .u8 ((l[k] : Nat) : Int)) :=
            (hR.2.nil_below.cell (p := ⟨bb, off + k, none⟩) (World.block_lt_of_cell? w _ hc0)).trans hc0
          have hb : l[k] < 256 := hl _ (List.getElem_mem hlt)
          have hrun : CrcP.run 4294967295 (l.take (k + 1)) = CrcP.step X l[k] := by
            rw [List.take_succ_eq_append_getElem hlt, CrcP.run_append, HQ.out]; rfl
          generalize l[k] = b at cb hb hrun
          have HRUN := Lib.hid hrun
          have HR := Lib.hid hR
          clear hrun hR hcell hc0
          obtain ⟨wa, rfl⟩ : ∃ wa : World, wa = wr := ⟨_, rfl⟩
          go_wp2_with fail
          go_loopw [6, 7] (fun y i wr => ∃ j : Nat, j ≤ 8 ∧ i = .int .i64 j ∧ y = .int .u8 ((b / 2 ^ j : Nat) : Int) ∧ RegAt w wr (regF (X ^^^ b % 2 ^ j))) (fun _ i _ => 8 - (intOf i).toNat)
          case atStart => exact ⟨0, by omega, rfl, by simp, by simpa [Nat.mod_one] using HR.out⟩
          case round =>
            obtain ⟨j, hj, rfl, rfl, hR⟩ := hrel
            clear HR cb
            by_cases hlt' : j < 8
            · have c0 := hR.cell (i := j) (by omega)
              have f0 := hR.free j
              have hst : ∀ u, u = Value.bool ((X ^^^ b % 2 ^ j).testBit j != b.testBit j) → RegAt w (wr.setCell ⟨w.heap.size, j, none⟩ u) (regF (X ^^^ b % 2 ^ (j + 1))) := fun u hu => hR.store j u fun i hi => by
                subst hu
                rw [regF, regF, ← CrcP.xor_step X b j i]
                split <;> rfl
              have hbit := CrcP.testBit_odd b j
              have hy : b / 2 ^ j < 256 := Nat.lt_of_le_of_lt (Nat.div_le_self _ _) hb
              have hdiv : b / 2 ^ (j + 1) = b / 2 ^ j / 2 := by rw [Nat.pow_succ, Nat.div_div_eq_div_mul]
              unfold regF at c0
              generalize (X ^^^ b % 2 ^ j).testBit j = t at c0 hst
              generalize b / 2 ^ j = y at hbit hy hdiv ⊢
              have HST := Lib.hid hst
              have HB := Lib.hid hbit
              have HD := Lib.hid hdiv
              clear hst hbit hdiv hR
              go_wp2
              go_roundw
              case rel =>
                refine ⟨j + 1, by omega, by go_num, by rw [HD.out]; rfl, HST.out _ ?_⟩
                rw [← HB.out]
                have e : ((y : Int) % 2 == 1) = (y % 2 == 1) := by
                  rw [Bool.eq_iff_iff, beq_iff_eq, beq_iff_eq]; omega
                rw [e]
                rfl
              case measure => simp [intOf]; omega
            · have hj8 : j = 8 := by omega
              subst hj8
              have HR : Hid (RegAt w wr (regF (X ^^^ b))) := by
                have e : b % 2 ^ 8 = b := Nat.mod_eq_of_lt hb
                rw [e] at hR
                exact hR
              clear hR
              have hXb : X ^^^ b < 4294967296 := Nat.xor_lt_two_pow (n := 32) hX (by omega)
              obtain ⟨wb, rfl⟩ : ∃ wb : World, wb = wr := ⟨_, rfl⟩
              go_wp2_with fail
              go_loopw [8] (fun i wr => ∃ j : Nat, j ≤ 8 ∧ i = .int .i64 j ∧ RegAt w wr (regF (CrcP.fN j (X ^^^ b)))) (fun i _ => 8 - (intOf i).toNat)
              case atStart => exact ⟨0, by omega, rfl, HR.out⟩
              case round =>
                obtain ⟨j, hj, rfl, hR⟩ := hrel
                clear HR
                have hY : CrcP.fN j (X ^^^ b) < 4294967296 := CrcP.fN_lt hXb
                by_cases hlt' : j < 8
                · have hf : CrcP.fN (j + 1) (X ^^^ b) = CrcP.f (CrcP.fN j (X ^^^ b)) := rfl
                  generalize CrcP.fN j (X ^^^ b) = Y at hR hY hf
                  have c0 := hR.cell (i := 0) (by omega)
                  unfold regF at c0
                  obtain ⟨t0, ht0⟩ : ∃ t, t = Y.testBit 0 := ⟨_, rfl⟩
                  rw [← ht0] at c0
                  have HT0 := Lib.hid ht0
                  clear ht0
                  have HR := Lib.hid hR
                  have HF := Lib.hid hf
                  clear hR hf
                  obtain ⟨wc, rfl⟩ : ∃ wc : World, wc = wr := ⟨_, rfl⟩
                  go_wp2_with fail
                  go_loopw [10] (fun i wr => ∃ j : Nat, j ≤ 31 ∧ i = .int .i64 j ∧ RegAt w wr (fun x => .bool (if x < j then Y.testBit (x + 1) else Y.testBit x))) (fun i _ => 31 - (intOf i).toNat)
                  case atStart => exact ⟨0, by omega, rfl, HR.out.congr fun x hx => by simp [regF]⟩
                  case round =>
                    obtain ⟨i, hi, rfl, hR⟩ := hrel
                    clear HR c0
                    by_cases hlt2 : i < 31
                    · have c1 := hR.cell (i := i + 1) (by omega)
                      have c2 := hR.cell (i := i) (by omega)
                      have f0 := hR.free i
                      have e1 : (if i + 1 < i then Y.testBit (i + 1 + 1) else Y.testBit (i + 1)) = Y.testBit (i + 1) := if_neg (by omega)
                      have e2 : (if i < i then Y.testBit (i + 1) else Y.testBit i) = Y.testBit i := if_neg (by omega)
                      simp only [e1, e2] at c1 c2
                      have HST : Hid (RegAt w (wr.setCell ⟨w.heap.size, i, none⟩ (.bool (Y.testBit (i + 1)))) (fun x => .bool (if x < i + 1 then Y.testBit (x + 1) else Y.testBit x))) := hR.store i _ fun x hx => by
                        by_cases h : x = i
                        · subst h; simp
                        · by_cases h2 : x < i
                          · simp [h, h2, show x < i + 1 from by omega]
                          · simp [h, h2, show ¬ x < i + 1 from by omega]
                      clear hR e1 e2
                      go_wp2
                      go_roundw
                      case rel => exact ⟨i + 1, by omega, by go_num, HST.out⟩
                      case measure => simp [intOf]; omega
                    · have hi31 : i = 31 := by omega
                      subst hi31
                      have c31 := hR.cell (i := 31) (by omega)
                      have f31 := hR.free 31
                      have HST : Hid (RegAt w (wr.setCell ⟨w.heap.size, 31, none⟩ (.bool false)) (regF (Y / 2))) := hR.store 31 _ fun x hx => by
                        have h := CrcP.shift_bits Y x hY hx
                        rw [regF, ← h]
                        by_cases h1 : x = 31
                        · simp [h1]
                        · simp [h1, show x < 31 from by omega]
                      clear hR
                      obtain ⟨wd, rfl⟩ : ∃ wd : World, wd = wr := ⟨_, rfl⟩
                      have hYh : (if Y % 2 = 1 then 3988292384 else 0) < 4294967296 := by split <;> decide
                      have hyf : CrcP.f Y = Y / 2 ^^^ (if Y % 2 = 1 then 3988292384 else 0) := rfl
                      have HP := Lib.hid hyf
                      clear hyf
                      go_wp2_with fail
                      go_loopw [11, 12] (fun y i wr => ∃ j : Nat, j ≤ 32 ∧ i = .int .i64 j ∧ y = .int .u32 ((3988292384 / 2 ^ j : Nat) : Int) ∧ RegAt w wr (regF (Y / 2 ^^^ (if Y % 2 = 1 then 3988292384 else 0) % 2 ^ j))) (fun _ i _ => 32 - (intOf i).toNat)
                      case atStart => exact ⟨0, by omega, rfl, by simp, by simpa [Nat.mod_one] using HST.out⟩
                      case round =>
                        obtain ⟨m, hm, rfl, rfl, hR⟩ := hrel
                        clear HST
                        by_cases hlt3 : m < 32
                        · have cm := hR.cell hlt3
                          have fm := hR.free m
                          have hstep := fun x => CrcP.xor_step (Y / 2) (if Y % 2 = 1 then 3988292384 else 0) m x
                          have hst : ∀ u, u = Value.bool ((Y / 2 ^^^ (if Y % 2 = 1 then 3988292384 else 0) % 2 ^ m).testBit m != (if Y % 2 = 1 then 3988292384 else 0).testBit m) → RegAt w (wr.setCell ⟨w.heap.size, m, none⟩ u) (regF (Y / 2 ^^^ (if Y % 2 = 1 then 3988292384 else 0) % 2 ^ (m + 1))) := fun u hu => hR.store m u fun i hi => by
                            subst hu
                            rw [regF, regF, ← hstep i]
                            split <;> rfl
                          have hsame : (if Y % 2 = 1 then 3988292384 else 0).testBit m = false → RegAt w wr (regF (Y / 2 ^^^ (if Y % 2 = 1 then 3988292384 else 0) % 2 ^ (m + 1))) := fun h0 => hR.congr fun i hi => by
                            rw [regF, regF, ← hstep i, h0]
                            by_cases h : i = m
                            · subst h; simp
                            · simp [h]
                          have hbit := CrcP.testBit_odd 3988292384 m
                          have hq : 3988292384 / 2 ^ m < 4294967296 := Nat.lt_of_le_of_lt (Nat.div_le_self _ _) (by decide)
                          have hdiv : 3988292384 / 2 ^ (m + 1) = 3988292384 / 2 ^ m / 2 := by rw [Nat.pow_succ, Nat.div_div_eq_div_mul]
                          unfold regF at cm
                          generalize (Y / 2 ^^^ (if Y % 2 = 1 then 3988292384 else 0) % 2 ^ m).testBit m = t at cm hst
                          generalize 3988292384 / 2 ^ m = q at hbit hq hdiv ⊢
                          have HST := Lib.hid hst
                          have HS := Lib.hid hsame
                          have HB := Lib.hid hbit
                          have HD := Lib.hid hdiv
                          clear hst hsame hbit hdiv hR hstep
                          cases t0 with
                          | false =>
                            have h0 : ¬ Y % 2 = 1 := by
                              have := HT0.out
                              rw [Nat.testBit_zero] at this
                              simpa using this
                            go_wp2
                            go_roundw
                            case rel => exact ⟨m + 1, by omega, by go_num, by rw [HD.out]; rfl, HS.out (by rw [if_neg h0]; simp)⟩
                            case measure => simp [intOf]; omega
                          | true =>
                            have h0 : Y % 2 = 1 := by
                              have := HT0.out
                              rw [Nat.testBit_zero] at this
                              simpa using this.symm
                            by_cases hodd : q % 2 = 1
                            · have h1 : ((q : Int) % 2 == 1) = true := beq_iff_eq.2 (by omega)
                              go_wp2
                              go_roundw
                              case rel =>
                                refine ⟨m + 1, by omega, by go_num, by rw [HD.out]; rfl, HST.out _ ?_⟩
                                rw [if_pos h0, ← HB.out, beq_iff_eq.2 hodd]
                                simp
                              case measure => simp [intOf]; omega
                            · have h1 : ((q : Int) % 2 == 1) = false := beq_eq_false_iff_ne.2 (by omega)
                              go_wp2
                              go_roundw
                              case rel =>
                                refine ⟨m + 1, by omega, by go_num, by rw [HD.out]; rfl, HS.out ?_⟩
                                rw [if_pos h0, ← HB.out]
                                exact beq_eq_false_iff_ne.2 hodd
                              case measure => simp [intOf]; omega
                        · have hm32 : m = 32 := by omega
                          subst hm32
                          have HR : Hid (RegAt w wr (regF (CrcP.f Y))) := by
                            have e : (if Y % 2 = 1 then 3988292384 else 0) % 2 ^ 32 = (if Y % 2 = 1 then 3988292384 else 0) := Nat.mod_eq_of_lt hYh
                            rw [e, ← HP.out] at hR
                            exact hR
                          clear hR
                          go_wp2
                          go_roundw
                          case rel => exact ⟨j + 1, by omega, by go_num, by rw [HF.out]; exact HR.out⟩
                          case measure => simp [intOf]; omega
                · have hj8 : j = 8 := by omega
                  subst hj8
                  have HR : Hid (RegAt w wr (regF (CrcP.run 4294967295 (l.take (k + 1))))) := by
                    rw [HRUN.out]
                    exact hR
                  clear hR
                  go_wp2
                  go_roundw
                  case rel => exact ⟨k + 1, by omega, by go_num, HR.out⟩
                  case measure => simp [intOf]; omega
        · have hkl : k = l.length := by omega
          subst hkl
          have hX' : X = CrcP.run 4294967295 l := by rw [← HQ.out, List.take_length]
          have HR := Lib.hid hR
          have hC : X ^^^ 4294967295 < 4294967296 := Nat.xor_lt_two_pow (n := 32) hX (by decide)
          have hall : ∀ t, t < 32 → (X ^^^ 4294967295).testBit (31 - t) = !X.testBit (31 - t) := fun t ht => CrcP.all_xor X (31 - t) (by omega)
          have HX' : Hid (X ^^^ 4294967295 = CrcP.of l) := by rw [hX']; rfl
          clear hX' hR
          generalize X ^^^ 4294967295 = C at hC hall HX'
          have HA := Lib.hid hall
          clear hall
          obtain ⟨wa, rfl⟩ : ∃ wa : World, wa = wr := ⟨_, rfl⟩
          go_wp2_with fail
          go_loopw [13, 14] (fun y i wr => ∃ t : Nat, t ≤ 32 ∧ (∃ iv : Int, iv = 31 - (t : Int) ∧ i = .int .i64 iv) ∧ y = .int .u32 ((CrcP.hi C t : Nat) : Int) ∧ RegAt w wr (regF X)) (fun _ i _ => (intOf i + 1).toNat)
          case atStart => exact ⟨0, by omega, ⟨31, by omega, rfl⟩, by rw [CrcP.hi_zero C hC]; rfl, HR.out⟩
          case round =>
            obtain ⟨t, ht, ⟨iv, hiv, rfl⟩, rfl, hR⟩ := hrel
            clear HR
            by_cases hlt : t < 32
            · obtain ⟨u, hu⟩ : ∃ u : Nat, iv = u := ⟨31 - t, by omega⟩
              subst hu
              have hut : 31 - t = u := by omega
              have hi1 := CrcP.hi_succ C t hlt
              have hb := HA.out t hlt
              rw [hut] at hi1 hb
              have hle : CrcP.hi C (t + 1) < 4294967296 := Nat.lt_of_le_of_lt (Nat.div_le_self _ _) hC
              have hle0 : CrcP.hi C t * 2 < 4294967296 := by omega
              have cu := hR.cell (i := u) (by omega)
              unfold regF at cu
              rw [hb] at hi1
              have hu32 : u < 32 := by omega
              generalize X.testBit u = tb at cu hi1
              generalize CrcP.hi C t = h at hi1 hle0 ⊢
              have HI := Lib.hid hi1
              have HR := Lib.hid hR
              have HIV := Lib.hid hiv
              clear hi1 hR hiv hut hb hle
              cases tb with
              | false =>
                have hsum := HI.out
                simp only [Bool.not_false, if_true] at hsum
                have hh : h * 2 + 1 < 4294967296 := by omega
                have HS := Lib.hid hsum
                clear hsum
                go_wp2
                go_roundw
                case rel => exact ⟨t + 1, by omega, ⟨(u : Int) - 1, by have := HIV.out; omega, rfl⟩, by rw [HS.out]; go_num, HR.out⟩
                case measure => simp [intOf]
              | true =>
                have hsum := HI.out
                simp only [Bool.not_true, Bool.false_eq_true, if_false] at hsum
                have HS := Lib.hid hsum
                clear hsum
                go_wp2
                go_roundw
                case rel => exact ⟨t + 1, by omega, ⟨(u : Int) - 1, by have := HIV.out; omega, rfl⟩, by rw [HS.out]; go_num, HR.out⟩
                case measure => simp [intOf]
            · have ht32 : t = 32 := by omega
              subst ht32
              obtain rfl : iv = -1 := by omega
              have HR := Lib.hid hR
              clear hR hiv
              go_wp2
              go_ret
              refine ⟨?_, HR.out.2⟩
              rw [← HX'.out, CrcP.hi_all]
              rfl
end Go.Proofs.Ytgpdkobefnhfiaa
