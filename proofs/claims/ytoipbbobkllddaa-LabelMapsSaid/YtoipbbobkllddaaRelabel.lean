/- What a map says; dual.Relabel; dart.Same. -/
import Derived.Test.YtoipbbobkllddaaDart
import Derived.Deep.RegionHeld3
namespace Go.Proofs.Ytoipbbobkllddaa
open Go.RowKit

theorem St.cellMem {w0 w : World} {os : List Thing} {b : Nat} {c : Array Value} {E : TypeId} {fz : Nat × Nat} (h : St w0 w os) (hm : cellT b (.cells c E fz) ∈ os) (j : Nat) : w.cell? ⟨b, j, none⟩ = c[j]? := by
  have h0 : w.heap[b]? = some (.cells c E fz) := h.ok hm
  simp [World.cell?, h0]

theorem backN_inv {ps : List Int} (hp : IsPerm ps) {y : Nat} (hy : y < ps.length) : backN (invL ps) y = toN ps y := by
  have hq := invL_perm hp
  have hy2 : y < (invL ps).length := by rw [invL_len]; exact hy
  have h1 := toN_back hq hy2
  have hb := backN_lt hq hy2
  have ht := (toN_lt hp hy).1
  refine toN_inj hq hb (by rw [invL_len]; exact ht) ?_
  rw [h1, invL_toN ht, back_toN hp hy]

/-- a list by other names -/
noncomputable def conjL (ps xs : List Int) : List Int := mapL xs.length fun y => toN ps (toN xs (backN ps y))
theorem conjL_len (ps xs : List Int) : (conjL ps xs).length = xs.length := mapL_len _ _
theorem conjL_perm {ps xs : List Int} (hp : IsPerm ps) (hx : IsPerm xs) (hl : ps.length = xs.length) : IsPerm (conjL ps xs) := by
  refine mapL_perm (fun y hy => ?_) fun i j hi hj he => ?_
  · have := (toN_lt hx (show backN ps y < xs.length by rw [← hl]; exact backN_lt hp (by rw [hl]; exact hy))).1
    rw [← hl] at this ⊢
    exact (toN_lt hp this).1
  · have bi : backN ps i < xs.length := by rw [← hl]; exact backN_lt hp (by rw [hl]; exact hi)
    have bj : backN ps j < xs.length := by rw [← hl]; exact backN_lt hp (by rw [hl]; exact hj)
    have h1 := toN_inj hp (by rw [hl]; exact (toN_lt hx bi).1) (by rw [hl]; exact (toN_lt hx bj).1) he
    exact back_inj hp (by rw [hl]; exact hi) (by rw [hl]; exact hj) (toN_inj hx bi bj h1)
theorem conj_back {ps xs : List Int} (hp : IsPerm ps) (hx : IsPerm xs) (hl : ps.length = xs.length) : conjL (invL ps) (conjL ps xs) = xs := by
  have h1 := eq_mapL hx
  conv => rhs; rw [h1]
  unfold conjL
  rw [mapL_len]
  refine mapL_congr fun y hy => ?_
  have hyp : y < ps.length := by rw [hl]; exact hy
  have ht := (toN_lt hp hyp).1
  have hxy := (toN_lt hx hy).1
  rw [backN_inv hp hyp, mapL_toN _ (by rw [← hl]; exact ht), back_toN hp hyp, invL_toN (toN_lt hp (by rw [hl]; exact hxy)).1, back_toN hp (by rw [hl]; exact hxy)]

/-- the first of them -/
noncomputable def conjRow (ps xs : List Int) (i : Nat) : Nat → Int := fun y => if backN ps y < i then (toN ps (toN xs (backN ps y)) : Int) else 0

section
variable {w0 w : World} {os : List Thing} {m : Nat} {xs : List Int} {r : Int}

set_option maxRecDepth 100000 in
theorem dartDarts_any (h : St w0 w os) (hm : HasMap os m xs r) : Calls Try.prog 37 #[.pointer (some ⟨m, 0, none⟩)] w fun e w' => e = .returned (.int .i64 xs.length) ∧ w = w' := by
  obtain ⟨p, q, v, h1, h2, h3⟩ := hm
  obtain ⟨a, c, rfl, _, _⟩ := ownsRow_slice (h.ok h3)
  have k0 : w.cell? ⟨m, 0, none⟩ = some (.pointer (some ⟨p, 0, none⟩)) := h.cellMem h1 0
  have hc := h.permAt h2
  rw [intsOf_len] at hc
  have HL := Lib.hid (permLen_any hc)
  clear h h1 h2 h3 hc
  go_enter Try.func37, Try.ntmps37
  go_wp2_with fail
  refine HL.out.mono ?_
  rintro e w1 ⟨rfl, rfl⟩
  go_wp2_with fail
  go_ret
  exact ⟨rfl, rfl⟩

set_option maxRecDepth 100000 in
theorem dartEdges_any (h : St w0 w os) (hm : HasMap os m xs r) (n : Nat) (hl : xs.length = 2 * n) (hn : n ≤ 1000) : Calls Try.prog 36 #[.pointer (some ⟨m, 0, none⟩)] w fun e w' => e = .returned (.int .i64 n) ∧ w = w' := by
  have HD := Lib.hid (dartDarts_any h hm)
  obtain ⟨N, hN⟩ : ∃ N, xs.length = N := ⟨_, rfl⟩
  rw [hN] at HD hl
  have hq : (N : Int).tdiv 2 = (n : Int) := by rw [Int.tdiv_eq_ediv_of_nonneg (by omega)]; omega
  have hN1 : N ≤ 2000 := by omega
  clear h hm hl
  go_enter Try.func36, Try.ntmps36
  go_wp2_with fail
  refine HD.out.mono ?_
  rintro e w1 ⟨rfl, rfl⟩
  go_wp2_with fail
  go_ret
  exact ⟨rfl, rfl⟩

set_option maxRecDepth 100000 in
theorem dartRoot_any (h : St w0 w os) (hm : HasMap os m xs r) : Calls Try.prog 40 #[.pointer (some ⟨m, 0, none⟩)] w fun e w' => e = .returned (.int .i64 r) ∧ w = w' := by
  obtain ⟨p, q, v, h1, h2, h3⟩ := hm
  have k : w.cell? ⟨m, 12, none⟩ = some (.int .i64 r) := h.cellMem h1 12
  clear h h1 h2 h3
  go_enter Try.func40, Try.ntmps40
  go_wp2_with fail
  go_ret
  exact ⟨rfl, rfl⟩

set_option maxRecDepth 100000 in
theorem dartLone_any (h : St w0 w os) (hm : HasMap os m xs r) : Calls Try.prog 59 #[.pointer (some ⟨m, 0, none⟩)] w fun e w' => e = .returned (.int .i64 0) ∧ w = w' := by
  obtain ⟨p, q, v, h1, h2, h3⟩ := hm
  have k : w.cell? ⟨m, 13, none⟩ = some (.int .i64 0) := h.cellMem h1 13
  clear h h1 h2 h3
  go_enter Try.func59, Try.ntmps59
  go_wp2_with fail
  go_ret
  exact ⟨rfl, rfl⟩

set_option maxRecDepth 100000 in
theorem dartSigma_any (h : St w0 w os) (hm : HasMap os m xs r) (hx : IsPerm xs) (d : Nat) (hd : d < xs.length) : Calls Try.prog 58 #[.pointer (some ⟨m, 0, none⟩), .int .i64 d] w fun e w' => e = .returned (.int .i64 (toN xs d : Nat)) ∧ w = w' := by
  obtain ⟨p, q, v, h1, h2, h3⟩ := hm
  obtain ⟨a, c, rfl, _, _⟩ := ownsRow_slice (h.ok h3)
  have k0 : w.cell? ⟨m, 0, none⟩ = some (.pointer (some ⟨p, 0, none⟩)) := h.cellMem h1 0
  have hc := h.permAt h2
  have hr := h.reads h3
  rw [intsOf_len] at hc hr
  have HA := Lib.hid (permAt_in hc xs rfl hr d hd (toN xs d : Nat) (toN_lt hx hd).2)
  clear h h1 h2 h3 hc hr hd
  go_enter Try.func58, Try.ntmps58
  go_wp2_with fail
  refine HA.out.mono ?_
  rintro e w1 ⟨rfl, rfl⟩
  go_wp2_with fail
  go_ret
  exact ⟨rfl, rfl⟩
end

/-- one of a permutation, as At tells it -/
theorem atV {w0 w : World} {os : List Thing} {q : Nat} {v : Value} {ps : List Int} (h : St w0 w os) (hq : PermV w0 os q v ps) (hp : IsPerm ps) (d : Nat) (hd : d < ps.length) :
    Calls Try.prog 42 #[.pointer (some ⟨q, 0, none⟩), .int .i64 (d : Nat)] w fun e w' => e = .returned (.int .i64 (toN ps d : Nat)) ∧ w = w' := by
  obtain ⟨hc, hr⟩ := hq w [] h
  have hr2 := hr
  obtain ⟨a, c, rfl, _, _, _, _⟩ := hr2
  rw [intsOf_len] at hc hr
  exact permAt_in hc ps rfl hr d hd _ (toN_lt hp hd).2

theorem lenV {w0 w : World} {os : List Thing} {q : Nat} {v : Value} {ps : List Int} (h : St w0 w os) (hq : PermV w0 os q v ps) :
    Calls Try.prog 14 #[.pointer (some ⟨q, 0, none⟩)] w fun e w' => e = .returned (.int .i64 ps.length) ∧ w = w' := by
  obtain ⟨hc, hr⟩ := hq w [] h
  obtain ⟨a, c, rfl, _, _, _, _⟩ := hr
  rw [intsOf_len] at hc
  exact permLen_any hc

set_option maxRecDepth 100000 in
set_option maxHeartbeats 4000000 in
theorem relabel_any {w0 w : World} {os : List Thing} (h : St w0 w os) (m : Nat) (xs ps : List Int) (r : Nat) (q : Nat) (v : Value) (n : Nat) (hm : HasMap os m xs (r : Nat)) (hq : PermV w0 os q v ps) (hM : Mates ps) (hx : IsPerm xs) (hl : xs.length = 2 * n) (hlp : ps.length = 2 * n) (hn : n ≤ 1000) (hn0 : 0 < n) (hr : r < 2 * n) :
    Calls Try.prog 38 #[.pointer (some ⟨m, 0, none⟩), .pointer (some ⟨q, 0, none⟩)] w fun e w' => ∃ m' p' q' v', e = .returned (.tuple #[.pointer (some ⟨m', 0, none⟩), .int .i64 0]) ∧ St w0 w' (cellT m' (dartObj (some ⟨p', 0, none⟩) q' (toN ps r : Nat) 0) :: cellT p' (permObj v') :: rowT 3 v' (intsOf (conjL ps xs)) :: os) := by
  have HLN := Lib.hid (lenV h hq)
  have HDA := Lib.hid (dartDarts_any h hm)
  obtain ⟨N, hN⟩ : ∃ N, 2 * n = N := ⟨_, rfl⟩
  rw [hN] at hl hlp hr
  rw [hlp] at HLN
  rw [hl] at HDA
  have hN1 : N ≤ 2000 := by omega
  have hN2 : N % 2 = 0 := by omega
  have HN := Lib.hid hN
  have HL := Lib.hid hl
  have HLP := Lib.hid hlp
  have HX := Lib.hid hx
  have HMT := Lib.hid hM
  have HTM := Lib.hid ((mates_toN hM.1 hM.2.1).1 hM)
  have HHM := Lib.hid hm
  have HPV := Lib.hid hq
  have hmk := run_make_row' (P := Try.prog) 22 3 (.int .i64 0) 8 Try.underlying22 info_i64 rfl .i64 .i64 N (by omega) (by omega)
  have h3 := h.newRow ((Keeps.refl _ _).alloc _) (made_row w N (by omega))
  have S3 : Hid (St w0 (w.alloc (.cells (madeCells #[.int .i64 0] N) 3)) (rowT 3 (.slice (some ⟨w.heap.size, 0, none⟩) N N) (iRow (conjRow ps xs 0) N) :: os)) := by
    have e : List.replicate N (Value.int .i64 0) = iRow (conjRow ps xs 0) N := by
      rw [show conjRow ps xs 0 = fun _ => 0 from by funext d; unfold conjRow; rw [if_neg (by omega)]]
      apply List.ext_getElem <;> simp [iRow]
    show St _ _ _
    rw [← e]; exact h3
  clear h h3 hm hq hM hx hl hlp hN
  go_enter Try.func38, Try.ntmps38
  go_wp2_with fail
  refine HLN.out.mono ?_
  rintro e w1 ⟨rfl, rfl⟩
  go_wp2_with fail
  refine HDA.out.mono ?_
  rintro e w1 ⟨rfl, rfl⟩
  go_wp2_with fail
  refine HDA.out.mono ?_
  rintro e w1 ⟨rfl, rfl⟩
  clear HLN HDA
  go_wp2_with fail
  generalize hW : w.alloc (.cells (madeCells #[.int .i64 0] N) 3) = W3 at S3 ⊢
  clear hW hmk
  generalize w.heap.size = g at S3 ⊢
  go_loopw [26] (fun iv wr => ∃ i : Nat, i ≤ N ∧ iv = .int .i64 i ∧ St w0 wr (rowT 3 (.slice (some ⟨g, 0, none⟩) N N) (iRow (conjRow ps xs i) N) :: os)) (fun iv _ => N - (intOf iv).toNat)
  case atStart => exact ⟨0, by omega, rfl, S3.out⟩
  case round =>
    obtain ⟨i, hi, rfl, hS⟩ := hrel
    have HS := Lib.hid hS
    clear hS S3
    by_cases hlt : i < N
    · have hmN := mateN_lt hN2 hlt
      have hxor := xor1 i (by omega)
      obtain ⟨e, he⟩ : ∃ e, mateN i = e := ⟨_, rfl⟩
      rw [he] at hmN hxor
      have hix : i < xs.length := by rw [HL.out]; exact hlt
      have hip : i < ps.length := by rw [HLP.out]; exact hlt
      have hep : e < ps.length := by rw [HLP.out]; exact hmN
      have hA1 := atV HS.out (HPV.out.cons _) HMT.out.1 e hep
      have hA2 := atV HS.out (HPV.out.cons _) HMT.out.1 i hip
      have htm := HTM.out i hip
      rw [he] at htm
      have hpi := (toN_lt HMT.out.1 hip).1
      have hxi := (toN_lt HX.out hix).1
      have hA4 := dartSigma_any HS.out (HHM.out.more [_]) HX.out i hix
      obtain ⟨x, hx⟩ : ∃ x, toN xs i = x := ⟨_, rfl⟩
      rw [hx] at hxi hA4
      have hxp : x < ps.length := by rw [HLP.out, ← HL.out]; exact hxi
      have hA5 := atV HS.out (HPV.out.cons _) HMT.out.1 x hxp
      have hbk := back_toN HMT.out.1 hip
      obtain ⟨p, hp⟩ : ∃ p, toN ps i = p := ⟨_, rfl⟩
      obtain ⟨y, hy⟩ : ∃ y, toN ps x = y := ⟨_, rfl⟩
      rw [hp] at htm hpi hA2 hbk
      rw [hy] at hA5
      rw [htm] at hA1
      rw [HLP.out] at hpi
      have hxor2 := xor1 p (by omega)
      have HA1 := Lib.hid hA1
      have HA2 := Lib.hid hA2
      have HA4 := Lib.hid hA4
      have HA5 := Lib.hid hA5
      have hrow := HS.out.rowN (iRow_len _ N)
      have cz := hrow.cellAt p (by omega)
      rw [iRow_get _ N p hpi] at cz
      have fz := hrow.frozenAt p
      have hst := HS.out.store (iRow_len _ N) p (.int .i64 (y : Nat))
      have hset := iRow_set (conjRow ps xs i) (conjRow ps xs (i + 1)) N p (fun z hz hne => by
        have hzp : z < ps.length := by rw [HLP.out]; exact hz
        have hbi : backN ps z ≠ i := fun h => hne (by
          have := toN_back HMT.out.1 hzp
          rw [h, hp] at this; exact this.symm)
        unfold conjRow
        by_cases hb : backN ps z < i
        · rw [if_pos hb, if_pos (by omega)]
        · rw [if_neg hb, if_neg (by omega)])
      have htx : conjRow ps xs (i + 1) p = (y : Int) := by unfold conjRow; rw [hbk, if_pos (by omega), hx, hy]
      rw [htx] at hset
      rw [hset] at hst
      have HST := Lib.hid hst
      generalize mateN p = pm at hxor2 HA1
      clear hst hset htx hrow hx hy hp hbk he hA1 hA2 hA4 hA5 htm hix hip hep hxi hxp HS
      go_wp2_with fail
      refine HA1.out.mono ?_
      rintro e1 w4 ⟨rfl, rfl⟩
      go_wp2_with fail
      refine HA2.out.mono ?_
      rintro e1 w4 ⟨rfl, rfl⟩
      go_wp2_with fail
      refine HA2.out.mono ?_
      rintro e1 w4 ⟨rfl, rfl⟩
      go_wp2_with fail
      refine HA4.out.mono ?_
      rintro e1 w4 ⟨rfl, rfl⟩
      go_wp2_with fail
      refine HA5.out.mono ?_
      rintro e1 w4 ⟨rfl, rfl⟩
      clear HA1 HA2 HA4 HA5
      go_wp2_with fail
      go_roundw
      case rel => exact ⟨i + 1, by omega, by go_num, HST.out⟩
      case measure => simp [intOf]; omega
    · have hiN : i = N := by omega
      have hfin : iRow (conjRow ps xs i) N = intsOf (conjL ps xs) := by
        unfold conjL
        rw [HL.out, ← mapL_row]
        refine iRow_congr fun j hj => ?_
        have := backN_lt HMT.out.1 (show j < ps.length by rw [HLP.out]; exact hj)
        rw [HLP.out] at this
        unfold conjRow
        rw [if_pos (by omega)]
      rw [hfin] at HS
      have hrp : r < ps.length := by rw [HLP.out]; exact hr
      have hpr := (toN_lt HMT.out.1 hrp).1
      rw [HLP.out] at hpr
      have HRT := Lib.hid (dartRoot_any HS.out (HHM.out.more [_]))
      have HA := Lib.hid (atV HS.out (HPV.out.cons _) HMT.out.1 r hrp)
      have HLO := Lib.hid (dartLone_any HS.out (HHM.out.more [_]))
      have HNW := Lib.hid (dartNew_any HS.out (.slice (some ⟨g, 0, none⟩) N N) (conjL ps xs) n (fun W os' hW => hW.reads (E := 3) (by simp)) (conjL_perm HMT.out.1 HX.out (by rw [HL.out, HLP.out])) (by rw [conjL_len, HL.out, HN.out]) hn (toN ps r : Nat) (.inr ⟨hn0, by omega, by have := HN.out; omega⟩))
      clear hi hfin hrp HS
      go_wp2_with fail
      refine HRT.out.mono ?_
      rintro e1 w4 ⟨rfl, rfl⟩
      go_wp2_with fail
      refine HA.out.mono ?_
      rintro e1 w4 ⟨rfl, rfl⟩
      go_wp2_with fail
      refine HLO.out.mono ?_
      rintro e1 w4 ⟨rfl, rfl⟩
      clear HRT HA HLO
      go_wp2_with fail
      refine HNW.out.mono ?_
      rintro e1 w5 ⟨m', p', q', v', rfl, h5⟩
      have H5 := Lib.hid (h5.rot4.tail)
      clear h5 HNW
      go_wp2_with fail
      go_ret2
      exact ⟨_, _, _, _, rfl, H5.out⟩

set_option maxRecDepth 100000 in
theorem dartSame_any {w0 w : World} {os : List Thing} (h : St w0 w os) (a b : Nat) (xs : List Int) (r : Int) (ha : HasMap os a xs r) (hb : HasMap os b xs r) (hl : xs.length ≤ 1000000) :
    Calls Try.prog 39 #[.pointer (some ⟨a, 0, none⟩), .pointer (some ⟨b, 0, none⟩)] w fun e w' => e = .returned (.bool true) ∧ St w0 w' os := by
  obtain ⟨p, q, v, h1, h2, h3⟩ := ha
  obtain ⟨p2, q2, v2, h4, h5, h6⟩ := hb
  have a0 : w.cell? ⟨a, 0, none⟩ = some (.pointer (some ⟨p, 0, none⟩)) := h.cellMem h1 0
  have a12 : w.cell? ⟨a, 12, none⟩ = some (.int .i64 r) := h.cellMem h1 12
  have a13 : w.cell? ⟨a, 13, none⟩ = some (.int .i64 0) := h.cellMem h1 13
  have b0 : w.cell? ⟨b, 0, none⟩ = some (.pointer (some ⟨p2, 0, none⟩)) := h.cellMem h4 0
  have b12 : w.cell? ⟨b, 12, none⟩ = some (.int .i64 r) := h.cellMem h4 12
  have b13 : w.cell? ⟨b, 13, none⟩ = some (.int .i64 0) := h.cellMem h4 13
  have HS := Lib.hid (permSame_any h.drew p p2 v v2 xs xs (PermV.of h2 h3) (PermV.of h5 h6) hl hl)
  have HM1 := Lib.hid h1
  have HM4 := Lib.hid h4
  clear h h1 h2 h3 h4 h5 h6
  go_enter Try.func39, Try.ntmps39
  go_wp2_with fail
  go_region_held3 (fun w' => w'.cell? ⟨a, 0, none⟩ = some (.pointer (some ⟨p, 0, none⟩)) ∧ w'.cell? ⟨b, 0, none⟩ = some (.pointer (some ⟨p2, 0, none⟩)) ∧ w'.cell? ⟨a, 12, none⟩ = some (.int .i64 r) ∧ w'.cell? ⟨b, 12, none⟩ = some (.int .i64 r) ∧ w'.cell? ⟨a, 13, none⟩ = some (.int .i64 0) ∧ w'.cell? ⟨b, 13, none⟩ = some (.int .i64 0)) (go_keep)
    (first | (go_at_call 23; refine HS.out.mono ?_; rintro e5 w5 ⟨he5, h5⟩; have he6 : e5 = .returned (.bool true) := (by rw [he5]; simp); clear he5; subst he6; have c0 : w5.cell? ⟨a, 0, none⟩ = some (.pointer (some ⟨p, 0, none⟩)) := h5.cellMem HM1.out 0; have c12 : w5.cell? ⟨a, 12, none⟩ = some (.int .i64 r) := h5.cellMem HM1.out 12; have c13 : w5.cell? ⟨a, 13, none⟩ = some (.int .i64 0) := h5.cellMem HM1.out 13; have d0 : w5.cell? ⟨b, 0, none⟩ = some (.pointer (some ⟨p2, 0, none⟩)) := h5.cellMem HM4.out 0; have d12 : w5.cell? ⟨b, 12, none⟩ = some (.int .i64 r) := h5.cellMem HM4.out 12; have d13 : w5.cell? ⟨b, 13, none⟩ = some (.int .i64 0) := h5.cellMem HM4.out 13; have H5 := Lib.hid h5; clear h5))
  all_goals
    go_wp2_with fail
    go_ret
    exact ⟨rfl, H5.out⟩
end Go.Proofs.Ytoipbbobkllddaa

