/- The walk of LabelMaps. -/
import Derived.Test.YtoipbbobkllddaaRelabel
import Derived.Test.YtoipbbobkllddaaTurnsWalk
namespace Go.Proofs.Ytoipbbobkllddaa
open Go.RowKit

set_option maxRecDepth 100000 in
set_option maxHeartbeats 4000000 in
theorem labelMaps_walk (a0 : Int) (a1 : Option Addr) (len1 cap1 : Nat) (z1 : List Int) (a2 : Int) (a3 : Option Addr) (len3 cap3 : Nat) (z3 : List Int) (a4 : Option Addr) (len4 cap4 : Nat) (z4 : List Bool) (w : World) (w0 : (Lit.int .u8 a0).wf = true) (w1 : IsRow .u8 w a1 len1 cap1 z1) (w2 : (Lit.int .u8 a2).wf = true) (w3 : IsRow .u8 w a3 len3 cap3 z3) (w4 : IsFlags w a4 len4 cap4 z4) :
    Calls Try.prog 7 #[.int .u8 a0, .slice a1 len1 cap1, .int .u8 a2, .slice a3 len3 cap3, .slice a4 len4 cap4] w fun e w' => e = .returned (.bool true) ∧ Below w.heap.size w w' := by
  obtain ⟨b8, eb, hb8, RB, mb⟩ := w1.bytes
  obtain ⟨p8, e0, hp8, R0, m0⟩ := w3.bytes
  obtain ⟨R1, hfl, m1⟩ := w4.reads
  have HRB := Lib.hid RB
  have HR0 := Lib.hid R0
  have HR1 := Lib.hid R1
  have HP8 := Lib.hid (And.intro hp8 hb8)
  have HFL := Lib.hid hfl
  obtain ⟨m, rfl⟩ : ∃ n : Nat, a0 = n := ⟨a0.toNat, by have := wf_u8 w0; omega⟩
  obtain ⟨rt, rfl⟩ : ∃ n : Nat, a2 = n := ⟨a2.toNat, by have := wf_u8 w2; omega⟩
  have hm : m < 256 := by have := wf_u8 w0; omega
  have hrt : rt < 256 := by have := wf_u8 w2; omega
  clear w0 w1 w2 w3 w4 m0 m1 mb RB R0 R1 hp8 hb8 e0 eb hfl
  obtain ⟨n, hn⟩ : ∃ n, m % 12 = n := ⟨_, rfl⟩
  have hn12 : n < 12 := by omega
  have htm : (m : Int).tmod 12 = (n : Int) := by rw [Int.tmod_eq_emod_of_nonneg (by omega)]; omega
  have HAW := Lib.hid (awake20_any (St.start w))
  clear hm hn
  go_enter Try.func7, Try.ntmps7
  go_wp2_with fail
  refine HAW.out.mono ?_
  rintro e w2 ⟨rfl, h2⟩
  have HAN := Lib.hid (refAny_any h2 n (by omega) (.slice a1 len1 cap1) b8 (fun W os' hW => hW.arg HRB.out) HP8.out.2 rt hrt)
  have H2 := Lib.hid h2
  clear h2 HAW
  go_wp2_with fail
  refine HAN.out.mono ?_
  rintro e w3 ⟨v3, ss, rfl, hip, hsl, h3⟩
  obtain ⟨N, hN⟩ : ∃ N, 2 * n = N := ⟨_, rfl⟩
  obtain ⟨aS, cS, rfl, j1, j2⟩ := ownsRow_slice h3.row
  have HIS := Lib.hid hip
  have HSL := Lib.hid hsl
  rw [intsOf_len, hsl, hN] at h3 ⊢
  obtain ⟨R, hR⟩ : ∃ R, rootN n rt = R := ⟨_, rfl⟩
  have h4 := h3.newCell (refMap (.slice aS N cS) R 0)
  have k0 := h4.cellAt 0
  have k1 := h4.cellAt 1
  have k2 := h4.cellAt 2
  have HMX := Lib.hid (refMixed_any h4 n (by omega) (.slice aS N cS) ss hip hsl (fun W os' hW => hW.reads (E := 3) (by simp)) rt (.slice a3 len3 cap3) p8 (fun W os' hW => hW.arg HR0.out) HP8.out.1 a4 len4 cap4 (z4.take len4) (fun i => (z4.take len4).getD i false) (fun _ => rfl) HFL.out (fun W os' hW => hW.arg HR1.out))
  rw [hR] at HMX ⊢
  have HRR := Lib.hid hR
  have HN := Lib.hid hN
  have hN1 : N ≤ 30 := by omega
  clear h3 h4 HAN H2 hip hsl j1 j2 hR hN
  go_wp2_with fail
  clear k0 k1 k2
  generalize hW : w3.alloc (.cells #[.slice aS N cS, .int .i64 R, .int .i64 0] 40) = W3
  have HMX2 := HMX
  have HW := Lib.hid hW
  clear hW
  revert HMX2
  rw [show w3.alloc (refMap (.slice aS N cS) R 0) = W3 from HW.out]
  clear HMX HW
  generalize w3.heap.size = gx
  intro HMX
  refine HMX.out.mono ?_
  rintro e w4 ⟨xa, xl, xc, x1, x2, v4, es, rfl, hie, hel, h4⟩
  have hM := mixL_mates hie (fun i => (z4.take len4).getD i false)
  have hML := mixL_len es (fun i => (z4.take len4).getD i false)
  obtain ⟨ls, hls⟩ : ∃ ls, mixL es (fun i => (z4.take len4).getD i false) = ls := ⟨_, rfl⟩
  rw [hls] at h4 hM hML
  rw [hel, HN.out] at hML
  obtain ⟨al, cl, rfl, j1, j2⟩ := ownsRow_slice h4.row
  rw [intsOf_len, hML] at h4 ⊢
  have HM := Lib.hid hM
  have HML := Lib.hid hML
  have H5 := Lib.hid (h4.alloc (.cells #[.slice xa xl xc, .int .i64 x1, .int .i64 x2] 40))
  have k0 : (w4.alloc (.cells #[.slice xa xl xc, .int .i64 x1, .int .i64 x2] 40)).cell? ⟨gx, 0, none⟩ = some (.slice aS N cS) := H5.out.swap.cellAt 0
  have k1 : (w4.alloc (.cells #[.slice xa xl xc, .int .i64 x1, .int .i64 x2] 40)).cell? ⟨gx, 1, none⟩ = some (.int .i64 R) := H5.out.swap.cellAt 1
  have k2 : (w4.alloc (.cells #[.slice xa xl xc, .int .i64 x1, .int .i64 x2] 40)).cell? ⟨gx, 2, none⟩ = some (.int .i64 0) := H5.out.swap.cellAt 2
  have hRc : (n = 0 ∧ R = -1) ∨ (0 < n ∧ 0 ≤ R ∧ R < 2 * (n : Int)) := by
    rw [← HRR.out]
    unfold rootN
    by_cases h0 : n = 0
    · left; rw [if_pos h0]; exact ⟨h0, rfl⟩
    · right
      rw [if_neg h0]
      have := Nat.mod_lt rt (show 0 < 2 * n by omega)
      exact ⟨by omega, by omega, by omega⟩
  have HRC := Lib.hid hRc
  have HNW := Lib.hid (dartNew_any H5.out (.slice aS N cS) ss n (fun W os' hW => hW.reads (E := 3) (by simp)) HIS.out HSL.out (by omega) R hRc)
  clear h4 HMX hM hML hls hie hel j1 j2 hRc H5
  go_wp2_with fail
  refine HNW.out.mono ?_
  rintro e w5 ⟨m1, pm, qm, vm, rfl, h5⟩
  have HOF := Lib.hid (permOf_any h5 (.slice al N cl) ls (by rw [HML.out]; omega) (fun W os' hW => hW.reads (E := 3) (by simp)))
  clear h5 HNW k0 k1 k2
  go_wp2_with fail
  refine HOF.out.mono ?_
  rintro e w6 (⟨_, p, vp, rfl, h6⟩ | ⟨hno, _⟩)
  rotate_left
  · exact absurd HM.out.1 hno
  obtain ⟨L, hL⟩ : ∃ L, [cellT m1 (dartObj (some ⟨pm, 0, none⟩) qm R 0), cellT pm (permObj vm), rowT 3 vm (intsOf ss), rowT 3 (.slice al N cl) (intsOf ls), cellT gx (refMap (.slice aS N cS) R 0), rowT 3 (.slice aS N cS) (intsOf ss)] = L := ⟨_, rfl⟩
  rw [hL] at h6
  have HMM : Hid (HasMap L m1 ss R) := by show HasMap _ _ _ _; rw [← hL]; exact HasMap.head
  have HGX : Hid (cellT gx (refMap (.slice aS N cS) R 0) ∈ L) := by show _ ∈ _; rw [← hL]; simp
  have HLL : Hid (rowT 3 (.slice al N cl) (intsOf ls) ∈ L) := by show _ ∈ _; rw [← hL]; simp
  have HE1 := Lib.hid (encM h6 p vp ls n (List.mem_cons_self ..) (List.mem_cons_of_mem _ (List.mem_cons_self ..)) HM.out (by rw [HML.out, HN.out]) (by omega))
  clear h6 HOF hL
  go_wp2_with fail
  refine HE1.out.mono ?_
  rintro e w7 ⟨b1, vb1, rfl, h7⟩
  have HED := Lib.hid (dartEdges_any h7 (HMM.out.more [_, _, _]) n HSL.out (by omega))
  have HD1 := Lib.hid (decM h7 (b := b1) (v := vb1) (xs := ls) (List.mem_cons_self ..) HM.out (by rw [HML.out, HN.out]) (by omega))
  clear h7 HE1
  go_wp2_with fail
  refine HED.out.mono ?_
  rintro e w8 ⟨rfl, rfl⟩
  go_wp2_with fail
  refine HD1.out.mono ?_
  rintro e w9 ⟨q, vq, OS, rfl, h9⟩
  have HMQ : Hid (HasMap (cellT q (permObj vq) :: rowT 3 vq (intsOf ls) :: (OS ++ (vecT b1 vb1 (labelB ls n n) :: cellT p (permObj vp) :: rowT 3 vp (intsOf ls) :: L))) m1 ss R) :=
    HasMap.more (os := OS ++ (vecT b1 vb1 (labelB ls n n) :: cellT p (permObj vp) :: rowT 3 vp (intsOf ls) :: L)) (HasMap.more (os := vecT b1 vb1 (labelB ls n n) :: cellT p (permObj vp) :: rowT 3 vp (intsOf ls) :: L) (HasMap.more (os := L) HMM.out [_, _, _]) OS) [_, _]
  have HDA := Lib.hid (dartDarts_any h9 HMQ.out)
  rw [HSL.out, HN.out] at HDA
  have H9 := Lib.hid h9
  clear h9 HD1 HED
  go_wp2_with fail
  refine HDA.out.mono ?_
  rintro e w10 ⟨rfl, rfl⟩
  clear HDA
  rcases HRC.out with ⟨hn0, _⟩ | ⟨hn0, hr0, hr1⟩
  · have hNe : ((N : Int) == 0) = true := beq_iff_eq.2 (by have := HN.out; omega)
    have HLN := Lib.hid (lenV H9.out (PermV.of (List.mem_cons_self ..) (List.mem_cons_of_mem _ (List.mem_cons_self ..)) : PermV w _ q vq ls))
    rw [HML.out] at HLN
    have HB := Lib.hid H9.out.bel
    clear H9 hn0
    go_wp2_with fail
    refine HLN.out.mono ?_
    rintro e w11 ⟨rfl, rfl⟩
    go_wp2_with fail
    go_ret
    exact ⟨rfl, HB.out⟩
  · have hNe : ((N : Int) == 0) = false := beq_eq_false_iff_ne.2 (by have := HN.out; omega)
    obtain ⟨k, rfl⟩ : ∃ k : Nat, R = k := ⟨R.toNat, by omega⟩
    have hk2 : k < 2 * n := by omega
    have HRL := Lib.hid (relabel_any H9.out m1 ss ls k q vq n HMQ.out (PermV.of (List.mem_cons_self ..) (List.mem_cons_of_mem _ (List.mem_cons_self ..))) HM.out HIS.out HSL.out (by rw [HML.out, HN.out]) (by omega) hn0 hk2)
    have HK2 := Lib.hid hk2
    have HN0 := Lib.hid hn0
    clear H9 hk2 hn0 hr0 hr1
    go_wp2_with fail
    refine HRL.out.mono ?_
    rintro e w11 ⟨o, po, qo, vo, rfl, h11⟩
    have h12 : St w w11 (cellT p (permObj vp) :: (cellT o (dartObj (some ⟨po, 0, none⟩) qo (toN ls k : Nat) 0) :: cellT po (permObj vo) :: rowT 3 vo (intsOf (conjL ls ss)) :: cellT q (permObj vq) :: rowT 3 vq (intsOf ls) :: (OS ++ (vecT b1 vb1 (labelB ls n n) :: rowT 3 vp (intsOf ls) :: L)))) := by
      refine h11.perm ?_
      have := List.perm_middle (a := cellT p (permObj vp)) (l₁ := cellT o (dartObj (some ⟨po, 0, none⟩) qo (toN ls k : Nat) 0) :: cellT po (permObj vo) :: rowT 3 vo (intsOf (conjL ls ss)) :: cellT q (permObj vq) :: rowT 3 vq (intsOf ls) :: (OS ++ [vecT b1 vb1 (labelB ls n n)])) (l₂ := rowT 3 vp (intsOf ls) :: L)
      simp only [List.cons_append, List.append_assoc, List.nil_append] at this
      exact this
    obtain ⟨M, hMd⟩ : ∃ M, cellT q (permObj vq) :: rowT 3 vq (intsOf ls) :: (OS ++ (vecT b1 vb1 (labelB ls n n) :: rowT 3 vp (intsOf ls) :: L)) = M := ⟨_, rfl⟩
    rw [hMd] at h12
    have HVP : Hid (rowT 3 vp (intsOf ls) ∈ M) := by show _ ∈ _; rw [← hMd]; simp
    have HLM : Hid (∀ x, x ∈ L → x ∈ M) := by
      intro x hx
      rw [← hMd]
      exact List.mem_cons_of_mem _ (List.mem_cons_of_mem _ (List.mem_append_right _ (List.mem_cons_of_mem _ (List.mem_cons_of_mem _ hx))))
    have HMM2 : Hid (HasMap M m1 ss (k : Nat)) := by
      obtain ⟨x1, x2, x3, y1, y2, y3⟩ := HMM.out
      exact ⟨x1, x2, x3, HLM.out _ y1, HLM.out _ y2, HLM.out _ y3⟩
    have HIV := Lib.hid (permInverse_any (o := [cellT p (permObj vp)]) p vp ls h12 (Turned.no p vp ls) (List.mem_cons_of_mem _ (List.mem_cons_of_mem _ (List.mem_cons_of_mem _ HVP.out))) HM.out.1 (by rw [HML.out]; omega))
    clear h11 h12 hMd HRL
    go_wp2_with fail
    refine HIV.out.mono ?_
    rintro e w13 ⟨f13, p1, v13, rfl, h13⟩
    have hlr : toN ls k < 2 * n := by
      have := (toN_lt HM.out.1 (show k < ls.length by rw [HML.out, ← HN.out]; exact HK2.out)).1
      rwa [HML.out, ← HN.out] at this
    have hcp : IsPerm (conjL ls ss) := conjL_perm HM.out.1 HIS.out (by rw [HML.out, HSL.out, HN.out])
    have HRL2 := Lib.hid (relabel_any h13 o (conjL ls ss) (invL ls) (toN ls k) p1 v13 n (HasMap.more (os := cellT o (dartObj (some ⟨po, 0, none⟩) qo (toN ls k : Nat) 0) :: cellT po (permObj vo) :: rowT 3 vo (intsOf (conjL ls ss)) :: M) HasMap.head [_, _, _, _]) (PermV.of (List.mem_cons_self ..) (List.mem_cons_of_mem _ (List.mem_cons_self ..))) (inv_mates HM.out) hcp (by rw [conjL_len, HSL.out]) (by rw [invL_len, HML.out, HN.out]) (by omega) HN0.out hlr)
    clear h13 HIV hlr hcp
    go_wp2_with fail
    refine HRL2.out.mono ?_
    rintro e w14 ⟨b, pb, qb, vb, rfl, h14⟩
    have hkl : k < ls.length := by rw [HML.out, ← HN.out]; exact HK2.out
    rw [conj_back HM.out.1 HIS.out (by rw [HML.out, HSL.out, HN.out]), invL_toN (toN_lt HM.out.1 hkl).1, back_toN HM.out.1 hkl] at h14
    obtain ⟨z, hz⟩ : ∃ z, toN ls k = z := ⟨_, rfl⟩
    rw [hz] at h14
    have HDS := Lib.hid (dartSame_any h14.drew b m1 ss (k : Nat) HasMap.head (HasMap.more (os := M) HMM2.out [_, _, _, _, _, _, _, _, _, _]) (by rw [HSL.out]; omega))
    have HOR : Hid (HasMap (cellT b (dartObj (some ⟨pb, 0, none⟩) qb (k : Nat) 0) :: cellT pb (permObj vb) :: rowT 3 vb (intsOf ss) :: cellT p1 (permObj v13) :: rowT 3 v13 (intsOf (invL ls)) :: cellT p (permFull vp 1 0 0 f13) :: rowT 3 f13 (intsOf (invL ls)) :: cellT o (dartObj (some ⟨po, 0, none⟩) qo (z : Nat) 0) :: cellT po (permObj vo) :: rowT 3 vo (intsOf (conjL ls ss)) :: M) o (conjL ls ss) (z : Nat)) :=
      HasMap.more (os := cellT o (dartObj (some ⟨po, 0, none⟩) qo (z : Nat) 0) :: cellT po (permObj vo) :: rowT 3 vo (intsOf (conjL ls ss)) :: M) HasMap.head [_, _, _, _, _, _, _]
    have HG2 := Lib.hid (List.mem_append_right [cellT b (dartObj (some ⟨pb, 0, none⟩) qb (k : Nat) 0), cellT pb (permObj vb), rowT 3 vb (intsOf ss), cellT p1 (permObj v13), rowT 3 v13 (intsOf (invL ls)), cellT p (permFull vp 1 0 0 f13), rowT 3 f13 (intsOf (invL ls)), cellT o (dartObj (some ⟨po, 0, none⟩) qo (z : Nat) 0), cellT po (permObj vo), rowT 3 vo (intsOf (conjL ls ss))] (HLM.out _ HGX.out))
    have HL2 := Lib.hid (List.mem_append_right [cellT b (dartObj (some ⟨pb, 0, none⟩) qb (k : Nat) 0), cellT pb (permObj vb), rowT 3 vb (intsOf ss), cellT p1 (permObj v13), rowT 3 v13 (intsOf (invL ls)), cellT p (permFull vp 1 0 0 f13), rowT 3 f13 (intsOf (invL ls)), cellT o (dartObj (some ⟨po, 0, none⟩) qo (z : Nat) 0), cellT po (permObj vo), rowT 3 vo (intsOf (conjL ls ss))] (HLM.out _ HLL.out))
    have hvz : (intsOf ls)[k]? = some (.int .i64 z) := by
      rw [← hz]
      simp only [intsOf, List.getElem?_map, (toN_lt HM.out.1 hkl).2]; rfl
    have hkN : k < N := by rw [← HN.out]; exact HK2.out
    obtain ⟨a9, c9, he9, q4, q5, q6, hc9⟩ := h14.reads (E := 3) (v := .slice al N cl) (xs := intsOf ls) HL2.out
    simp only [Value.slice.injEq] at he9
    obtain ⟨rfl, hq9, rfl⟩ := he9
    rcases hc9 with hc9 | ⟨lb, lo, rfl, hc9⟩
    · rw [hc9] at hvz; simp at hvz
    have cz := hc9 k _ hvz
    have cg : w14.cell? ⟨gx, 1, none⟩ = some (.int .i64 (k : Nat)) := h14.cellMem HG2.out 1
    have hk0 : (0 : Int) ≤ (k : Int) := by omega
    have hk1 : (k : Int) < (N : Int) := by omega
    have HCL : Hid (∀ W, St w W _ → W.cell? ⟨lb, lo + k, none⟩ = some (.int .i64 (z : Nat))) := fun W hW => by
      obtain ⟨a', c', he', _, _, _, hc'⟩ := St.reads (E := 3) (v := .slice (some ⟨lb, lo, none⟩) N cl) (xs := intsOf ls) hW HL2.out
      simp only [Value.slice.injEq] at he'
      obtain ⟨ha', _, _⟩ := he'
      rcases hc' with hc' | ⟨b', off', hb', hc'⟩
      · rw [hc'] at hvz; simp at hvz
      · rw [hb'] at ha'
        cases ha'
        exact hc' k _ hvz
    clear h14 HRL2 hq9 q4 q5 q6 hc9 hvz hz hkl
    go_wp2_with fail
    go_region_held3 (fun w' => w'.cell? ⟨gx, 1, none⟩ = some (.int .i64 (k : Nat)) ∧ w'.cell? ⟨lb, lo + k, none⟩ = some (.int .i64 (z : Nat))) (go_keep)
      (first | (go_at_call 39; refine HDS.out.mono ?_; rintro e5 w15 ⟨rfl, h15⟩; have cg2 : w15.cell? ⟨gx, 1, none⟩ = some (.int .i64 (k : Nat)) := h15.cellMem HG2.out 1; have cz2 := HCL.out w15 h15; have H15 := Lib.hid h15; have HRO := Lib.hid (dartRoot_any h15 HOR.out); clear h15)
             | (go_at_call 40; refine HRO.out.mono ?_; rintro e6 w16 ⟨rfl, rfl⟩))
    all_goals
      have HB15 := Lib.hid (St.bel H15.out)
      go_wp2_with fail
      go_ret
      exact ⟨rfl, HB15.out⟩
end Go.Proofs.Ytoipbbobkllddaa

