/- The document's mixed names. -/
import Derived.Test.YtoipbbobkllddaaFlags
import Derived.Deep.RegionHeld3
namespace Go.Proofs.Ytoipbbobkllddaa
open Go.RowKit

theorem two_mixA (es : List Int) (fs : List Bool) (e : Nat) : mixA es (fun i => fs.getD i false) e = 2 * toN es e + (fs.getD e false).toNat := rfl
theorem mixRow_len (es : List Int) (fl : Nat → Bool) (e : Nat) : (intsOf (mapL (2 * e) (mixF es fl))).length = 2 * e := by rw [intsOf_len, mapL_len]
theorem flag_at {w : World} {a : Option Addr} {n c : Nat} {fs : List Bool} (h : Reads w (.slice a n c) (flagsOf fs)) (hn : fs.length = n) {e : Nat} (he : e < n) :
    ∃ b off, a = some ⟨b, off, none⟩ ∧ w.cell? ⟨b, off + e, none⟩ = some (.bool (fs.getD e false)) := by
  obtain ⟨ao, cp, hs, _, _, _, hc⟩ := h
  simp only [Value.slice.injEq] at hs
  obtain ⟨rfl, _, rfl⟩ := hs
  have hv : (flagsOf fs)[e]? = some (.bool (fs.getD e false)) := by
    simp [flagsOf, List.getD_eq_getElem?_getD, List.getElem?_eq_getElem (show e < fs.length by omega)]
  rcases hc with hc | ⟨b, off, rfl, hc⟩
  · rw [hc] at hv; simp at hv
  · exact ⟨b, off, rfl, hc e _ hv⟩

theorem results_cell_tmp_row {P : Program} {fn : Func} {p u : Tmp} {ty : TypeId} (h : fn.results = #[.cell p ty, .tmp u]) (tmps : Array Value) (w : World) (g : Nat) (t : TypeId) (cs : Array Value) (fr : Nat × Nat) (d : TypeDesc)
    (hp : tmps.getD p undef = .pointer (some ⟨g, 0, none⟩)) (hg : w.heap[g]? = some (.cells cs t fr))
    (hu : P.underlying ty = some d) (hd : (match d with | .struct _ | .array _ _ => true | _ => false) = true) (hi : (P.info? ty).map (·.size) = some cs.size) :
    (results fn tmps).run P w = .ok (.tuple #[.agg cs, tmps.getD u undef]) w := by
  rw [results_cell_tmp h, hp]
  simp [asAddr, run_loadVar_row w g t ty cs fr d hg hu hd hi, Result.andThen]
theorem made_row (w : World) (n : Nat) (hn : n ≤ 1000000) : (w.alloc (.cells (madeCells #[.int .i64 0] n) 3)).ownsRow w.heap.size 3 1 (.slice (some ⟨w.heap.size, 0, none⟩) n n) n (List.replicate n (.int .i64 0)) := by
  have := World.ownsRow_lit (base := w.heap.size) (e := 3) (size := 1) w (madeCells #[.int .i64 0] n) n (Nat.le_refl _) (by unfold maxLen; omega) (by simp [madeCells])
  rw [toList_madeCells_one] at this
  exact this

set_option maxRecDepth 100000 in
set_option maxHeartbeats 4000000 in
theorem refMixed_any {w0 w : World} {os : List Thing} (h : St w0 w os) (n : Nat) (hn : n ≤ 500) (S : Value) (xs : List Int) (hip : IsPerm xs) (hxl : xs.length = 2 * n) (hS : ∀ w' os', St w0 w' (os' ++ os) → Reads w' S (intsOf xs)) (r : Nat)
    (sv : Value) (by8 : List Nat) (hv : ∀ w' os', St w0 w' (os' ++ os) → Reads w' sv (bytesOf by8)) (hb8 : ∀ x ∈ by8, x < 256) (a2 : Option Addr) (len2 cap2 : Nat) (fs : List Bool) (fl : Nat → Bool) (hfn : ∀ i, fs.getD i false = fl i) (hfl : fs.length = len2) (hf : ∀ w' os', St w0 w' (os' ++ os) → Reads w' (.slice a2 len2 cap2) (flagsOf fs)) :
    Calls Try.prog 16 #[.agg #[S, .int .i64 (rootN n r), .int .i64 0], sv, .slice a2 len2 cap2] w fun e w' => ∃ (a : Option Addr) (l c : Nat) (x y : Int) (v : Value) (es : List Int),
      e = .returned (.tuple #[.agg #[.slice a l c, .int .i64 x, .int .i64 y], v]) ∧ IsPerm es ∧ es.length = n ∧ St w0 w' (rowT 3 v (intsOf (mixL es fl)) :: os) := by
  obtain ⟨i0, hii, hz0, hz1, hz2⟩ := info_parts info_i64
  have HR1 := Lib.hid (fun (w1 : World) (x y : Int) => Reads.made w1 #[.int .i64 x, .int .i64 y] 3 (0, 0) 2 (by simp) (by decide))
  obtain ⟨aS, cS, rfl, j1, j2, j3, j4⟩ := hS w [] h
  clear j2 j3 j4
  obtain ⟨N, hN⟩ : ∃ N, 2 * n = N := ⟨_, rfl⟩
  rw [intsOf_len, hxl] at hS j1 ⊢
  rw [hN] at hxl hS j1 ⊢
  have h1 := h.newCell (refMap (.slice aS N cS) (rootN n r) 0)
  have hrr : n = 0 ∨ (0 ≤ rootN n r ∧ rootN n r < (N : Int)) := by
    by_cases h0 : n = 0
    · exact .inl h0
    · right
      unfold rootN
      rw [if_neg h0, hN]
      exact ⟨Int.natCast_nonneg _, Int.ofNat_lt.2 (Nat.mod_lt _ (by omega))⟩
  obtain ⟨R, hR⟩ : ∃ R, rootN n r = R := ⟨_, rfl⟩
  rw [hR] at h1 hrr ⊢
  have h2 := h1.newCell (refMap (.slice none 0 0) 0 0)
  have hgs : (w.alloc (refMap (.slice aS N cS) R 0)).heap.size = w.heap.size + 1 := by simp [refMap]
  rw [hgs] at h2
  have k0 := h2.swap.cellAt 0
  have HM := Lib.hid (refMix_any h2 n (by omega) sv by8 (fun W os' hW => hv W (os' ++ [_, _]) (by simpa using hW)) hb8)
  have hq : (N : Int).tdiv 2 = (n : Int) := by rw [Int.tdiv_eq_ediv_of_nonneg (by omega)]; omega
  have hN1 : N ≤ 1000 := by omega
  have HN := Lib.hid hN
  have HXL := Lib.hid hxl
  have HIX := Lib.hid hip
  have HS0 : Hid (∀ a b c w' os', St w0 w' (os' ++ (a :: b :: c :: os)) → Reads w' (.slice aS N cS) (intsOf xs)) := fun a b c w' os' hW => hS w' (os' ++ [a, b, c]) (by simpa using hW)
  have HF0 : Hid (∀ a b c w' os', St w0 w' (os' ++ (a :: b :: c :: os)) → Reads w' (.slice a2 len2 cap2) (flagsOf fs)) := fun a b c w' os' hW => hf w' (os' ++ [a, b, c]) (by simpa using hW)
  have HFL := Lib.hid hfl
  have HFN := Lib.hid hfn
  have HRR := Lib.hid hrr
  have hl2 : len2 ≤ 9223372036854775807 := by
    obtain ⟨_, _, he, hle, hm, _, _⟩ := hf w [] h
    simp only [Value.slice.injEq] at he
    have e1 : (flagsOf fs).length = len2 := by simp [flagsOf, hfl]
    rw [e1] at hle
    unfold maxLen at hm; omega
  clear h h1 h2 hgs hxl hip hS hf hfl hfn hv hb8 hrr hR hN j1
  go_enter Try.func16, Try.ntmps16
  go_wp2_with fail
  generalize w.heap.size = g3 at HM ⊢
  have hg6 : ∃ g6, g3 + 1 = g6 := ⟨_, rfl⟩
  obtain ⟨g6, hg6⟩ := hg6
  rw [hg6] at HM ⊢
  clear hg6
  refine HM.out.mono ?_
  rintro e w2 ⟨v2, es, rfl, hip, hel, h2⟩
  obtain ⟨am, cm, rfl, j1, j2⟩ := ownsRow_slice h2.row
  rw [intsOf_len, hel] at h2 ⊢
  have HIP := Lib.hid hip
  have HEL := Lib.hid hel
  have S1 : Hid (St w0 w2 (rowT 3 (.slice none 0 0) (intsOf (mapL (2 * 0) (mixF es fl))) :: rowT 3 (.slice am n cm) (intsOf es) :: cellT g6 (refMap (.slice none 0 0) 0 0) :: cellT g3 (refMap (.slice aS N cS) R 0) :: os)) :=
    h2.newRow (Keeps.refl _ _) (World.ownsRow_nil _ _ _ _)
  clear HM h2 hip hel j1 j2
  go_wp2_with fail
  go_loopw [22, 8] (fun kv lv wr => ∃ (e : Nat) (v : Value), e ≤ n ∧ kv = .int .i64 e ∧ lv = v ∧ St w0 wr (rowT 3 v (intsOf (mapL (2 * e) (mixF es fl))) :: rowT 3 (.slice am n cm) (intsOf es) :: cellT g6 (refMap (.slice none 0 0) 0 0) :: cellT g3 (refMap (.slice aS N cS) R 0) :: os)) (fun kv _ _ => n - (intOf kv).toNat)
  case atStart => exact ⟨0, _, by omega, rfl, rfl, S1.out⟩
  case round =>
    obtain ⟨e, v, he, rfl, rfl, hS⟩ := hrel
    obtain ⟨al, cl, rfl, j1, j2⟩ := ownsRow_slice hS.row
    rw [mixRow_len] at hS ⊢
    have HS := Lib.hid hS
    clear hS S1 j1 j2
    by_cases hlt : e < n
    · have hix : e < es.length := by rw [HEL.out]; exact hlt
      obtain ⟨hx1, hx2⟩ := toN_lt HIP.out hix
      obtain ⟨t, ht⟩ : ∃ t, toN es e = t := ⟨_, rfl⟩
      have hmx : mixA es fl e = 2 * t + (fl e).toNat := by rw [← ht]; rfl
      have hsn := mix_snoc es fl e
      rw [ht] at hx1 hx2
      have htn : t < n := by rw [← HEL.out]; exact hx1
      obtain ⟨a8, c8, he8, q1, q2, q3, hc8⟩ := HS.out.reads (E := 3) (v := .slice am n cm) (xs := intsOf es) (List.mem_cons_of_mem _ (List.mem_cons_self ..))
      simp only [Value.slice.injEq] at he8
      obtain ⟨rfl, hq8, rfl⟩ := he8
      have hv8 : (intsOf es)[e]? = some (.int .i64 t) := by simp only [intsOf, List.getElem?_map, hx2]; rfl
      rcases hc8 with hc8 | ⟨pb, po, rfl, hc8⟩
      · rw [hc8] at hv8; simp at hv8
      have cx := hc8 e _ hv8
      have HLN := Lib.hid (mixRow_len es fl e)
      have HLN1 := Lib.hid (mixRow_len es fl (e + 1))
      clear hq8 q1 q2 q3 hc8 hv8 hx1 hx2 ht hix
      by_cases hflag : e < len2
      · obtain ⟨fb, fo, rfl, cf⟩ := flag_at (HF0.out _ _ _ wr [_] HS.out) HFL.out hflag
        rw [HFN.out e] at cf
        cases hb : fl e
        · rw [hb] at cf hmx
          obtain ⟨A, hA⟩ : ∃ A, 2 * t = A := ⟨_, rfl⟩
          have hA2 : 2 * (t : Int) = (A : Int) := by omega
          have HMX : Hid (mixA es fl e = A) := by show _ = _; rw [hmx, ← hA]; rfl
          clear hb
          have HE : Hid (intsOf (mapL (2 * e) (mixF es fl)) ++ [Value.int .i64 (A : Nat), Value.int .i64 (mateN A : Nat)] = intsOf (mapL (2 * (e + 1)) (mixF es fl))) := by show _ = _; rw [← HMX.out]; exact hsn
          have hMT := mate6_any (A : Int) (by omega) (by omega) wr
          rw [mateI_nat] at hMT
          have HMT := Lib.hid hMT
          have hoc : ∀ u ∈ [Value.int .i64 (A : Nat), Value.int .i64 (mateN A : Nat)], u.oneCell' = true := by
            intro u hu
            rcases List.mem_cons.1 hu with rfl | hu
            · rfl
            · rcases List.mem_cons.1 hu with rfl | hu
              · rfl
              · cases hu
          have HOC := Lib.hid hoc
          obtain ⟨B, hB⟩ : ∃ B, mateN A = B := ⟨_, rfl⟩
          rw [hB] at HE HMT HOC
          clear hMT hoc hB hsn hmx
          go_wp2_with fail
          refine HMT.out.mono ?_
          rintro e1 w4 ⟨rfl, rfl⟩
          go_wp2_with (at_builtin; refine wpList_append_st rfl _ _ 22 rfl 3 i0 (.int .i64 0) 8 Try.underlying22 hii hz0 hz1 hz2 rfl _ _ _ [.int .i64 (A : Nat), .int .i64 (B : Nat)] rfl (by first | rfl | simp) (HS.out.alloc _) (HR1.out _ _ _) HOC.out ?c1 ?c2 ?_)
          case c1 => simp only [HLN.out, List.length_cons, List.length_nil]; unfold maxLen; omega
          case c2 => simp only [HLN.out, List.length_cons, List.length_nil]; omega
          intro v5 w5 h5
          rw [HE.out] at h5
          have H5 := Lib.hid h5
          clear HS h5
          go_wp2_with fail
          go_roundw
          case rel => exact ⟨e + 1, _, by omega, by go_num, rfl, H5.out⟩
          case measure => simp [intOf]; omega
        · rw [hb] at cf hmx
          obtain ⟨A, hA⟩ : ∃ A, 2 * t + 1 = A := ⟨_, rfl⟩
          have hA2 : 2 * (t : Int) + 1 = (A : Int) := by omega
          have HMX : Hid (mixA es fl e = A) := by show _ = _; rw [hmx, ← hA]; rfl
          clear hb
          have HE : Hid (intsOf (mapL (2 * e) (mixF es fl)) ++ [Value.int .i64 (A : Nat), Value.int .i64 (mateN A : Nat)] = intsOf (mapL (2 * (e + 1)) (mixF es fl))) := by show _ = _; rw [← HMX.out]; exact hsn
          have hMT := mate6_any (A : Int) (by omega) (by omega) wr
          rw [mateI_nat] at hMT
          have HMT := Lib.hid hMT
          have hoc : ∀ u ∈ [Value.int .i64 (A : Nat), Value.int .i64 (mateN A : Nat)], u.oneCell' = true := by
            intro u hu
            rcases List.mem_cons.1 hu with rfl | hu
            · rfl
            · rcases List.mem_cons.1 hu with rfl | hu
              · rfl
              · cases hu
          have HOC := Lib.hid hoc
          obtain ⟨B, hB⟩ : ∃ B, mateN A = B := ⟨_, rfl⟩
          rw [hB] at HE HMT HOC
          clear hMT hoc hB hsn hmx
          go_wp2_with fail
          refine HMT.out.mono ?_
          rintro e1 w4 ⟨rfl, rfl⟩
          go_wp2_with (at_builtin; refine wpList_append_st rfl _ _ 22 rfl 3 i0 (.int .i64 0) 8 Try.underlying22 hii hz0 hz1 hz2 rfl _ _ _ [.int .i64 (A : Nat), .int .i64 (B : Nat)] rfl (by first | rfl | simp) (HS.out.alloc _) (HR1.out _ _ _) HOC.out ?c1 ?c2 ?_)
          case c1 => simp only [HLN.out, List.length_cons, List.length_nil]; unfold maxLen; omega
          case c2 => simp only [HLN.out, List.length_cons, List.length_nil]; omega
          intro v5 w5 h5
          rw [HE.out] at h5
          have H5 := Lib.hid h5
          clear HS h5
          go_wp2_with fail
          go_roundw
          case rel => exact ⟨e + 1, _, by omega, by go_num, rfl, H5.out⟩
          case measure => simp [intOf]; omega
      · have hb : fl e = false := by rw [← HFN.out, List.getD_eq_getElem?_getD, List.getElem?_eq_none (by rw [HFL.out]; omega)]; rfl
        rw [hb] at hmx
        obtain ⟨A, hA⟩ : ∃ A, 2 * t = A := ⟨_, rfl⟩
        have hA2 : 2 * (t : Int) = (A : Int) := by omega
        have HMX : Hid (mixA es fl e = A) := by show _ = _; rw [hmx, ← hA]; rfl
        clear hb
        have HE : Hid (intsOf (mapL (2 * e) (mixF es fl)) ++ [Value.int .i64 (A : Nat), Value.int .i64 (mateN A : Nat)] = intsOf (mapL (2 * (e + 1)) (mixF es fl))) := by show _ = _; rw [← HMX.out]; exact hsn
        have hMT := mate6_any (A : Int) (by omega) (by omega) wr
        rw [mateI_nat] at hMT
        have HMT := Lib.hid hMT
        have hoc : ∀ u ∈ [Value.int .i64 (A : Nat), Value.int .i64 (mateN A : Nat)], u.oneCell' = true := by
          intro u hu
          rcases List.mem_cons.1 hu with rfl | hu
          · rfl
          · rcases List.mem_cons.1 hu with rfl | hu
            · rfl
            · cases hu
        have HOC := Lib.hid hoc
        obtain ⟨B, hB⟩ : ∃ B, mateN A = B := ⟨_, rfl⟩
        rw [hB] at HE HMT HOC
        clear hMT hoc hB hsn hmx
        go_wp2_with fail
        refine HMT.out.mono ?_
        rintro e1 w4 ⟨rfl, rfl⟩
        go_wp2_with (at_builtin; refine wpList_append_st rfl _ _ 22 rfl 3 i0 (.int .i64 0) 8 Try.underlying22 hii hz0 hz1 hz2 rfl _ _ _ [.int .i64 (A : Nat), .int .i64 (B : Nat)] rfl (by first | rfl | simp) (HS.out.alloc _) (HR1.out _ _ _) HOC.out ?c1 ?c2 ?_)
        case c1 => simp only [HLN.out, List.length_cons, List.length_nil]; unfold maxLen; omega
        case c2 => simp only [HLN.out, List.length_cons, List.length_nil]; omega
        intro v5 w5 h5
        rw [HE.out] at h5
        have H5 := Lib.hid h5
        clear HS h5
        go_wp2_with fail
        go_roundw
        case rel => exact ⟨e + 1, _, by omega, by go_num, rfl, H5.out⟩
        case measure => simp [intOf]; omega
    · have hen : e = n := by omega
      have hall : intsOf (mapL (2 * e) (mixF es fl)) = intsOf (mixL es fl) := by unfold mixL; rw [HEL.out, hen]
      have h2e : 2 * e = N := by rw [hen]; exact HN.out
      rw [hall] at HS
      have hLL : (intsOf (mixL es fl)).length = N := by rw [intsOf_len, mixL_len, HEL.out]; exact HN.out
      have HLL := Lib.hid hLL
      rw [h2e] at HS ⊢
      clear hall hLL h2e
      have S0 := HS.out.rot4
      have k0 : wr.cell? ⟨g3, 0, none⟩ = some (.slice aS N cS) := S0.cellAt 0
      have k1 : wr.cell? ⟨g3, 1, none⟩ = some (.int .i64 R) := S0.cellAt 1
      have k2 : wr.cell? ⟨g3, 2, none⟩ = some (.int .i64 0) := S0.cellAt 2
      have kA0 : ∀ o, (wr.alloc o).cell? ⟨g3, 0, none⟩ = some (.slice aS N cS) := fun o => (S0.alloc o).cellAt 0
      have kA1 : ∀ o, (wr.alloc o).cell? ⟨g3, 1, none⟩ = some (.int .i64 R) := fun o => (S0.alloc o).cellAt 1
      have kA2 : ∀ o, (wr.alloc o).cell? ⟨g3, 2, none⟩ = some (.int .i64 0) := fun o => (S0.alloc o).cellAt 2
      have kB0 : ∀ o o', ((wr.alloc o).alloc o').cell? ⟨g3, 0, none⟩ = some (.slice aS N cS) := fun o o' => ((S0.alloc o).alloc o').cellAt 0
      have kB1 : ∀ o o', ((wr.alloc o).alloc o').cell? ⟨g3, 1, none⟩ = some (.int .i64 R) := fun o o' => ((S0.alloc o).alloc o').cellAt 1
      have kB2 : ∀ o o', ((wr.alloc o).alloc o').cell? ⟨g3, 2, none⟩ = some (.int .i64 0) := fun o o' => ((S0.alloc o).alloc o').cellAt 2
      have hmk := run_make_row' (P := Try.prog) 22 3 (.int .i64 0) 8 Try.underlying22 info_i64 rfl .i64 .i64 N (by omega) (by omega)
      clear S0
      go_wp2_with fail
      go_region
      · have h3 := HS.out.newRow ((Keeps.refl _ _).alloc _) (made_row wr N (by omega))
        have h4 := (h3.newCell (refMap (.slice (some ⟨wr.heap.size, 0, none⟩) N N) R 0)).drew
        have hgs : (wr.alloc (.cells (madeCells #[.int .i64 0] N) 3)).heap.size = wr.heap.size + 1 := by simp
        rw [hgs] at h4
        have S2 : Hid (St w0 ((wr.alloc (.cells (madeCells #[.int .i64 0] N) 3)).alloc (.cells #[.slice (some ⟨wr.heap.size, 0, none⟩) N N, .int .i64 R, .int .i64 0] 40)).drew (rowT 3 (.slice (some ⟨wr.heap.size, 0, none⟩) N N) (List.replicate N (.int .i64 0)) :: cellT (wr.heap.size + 1) (refMap (.slice (some ⟨wr.heap.size, 0, none⟩) N N) R 0) :: rowT 3 (.slice al N cl) (intsOf (mixL es fl)) :: rowT 3 (.slice am n cm) (intsOf es) :: cellT g6 (refMap (.slice none 0 0) 0 0) :: cellT g3 (refMap (.slice aS N cS) R 0) :: os)) := h4.swap
        clear h3 h4 hgs kA0 kA1 kA2 kB0 kB1 kB2 hmk HS k0 k1 k2
        generalize hW : ((wr.alloc (.cells (madeCells #[.int .i64 0] N) 3)).alloc (.cells #[.slice (some ⟨wr.heap.size, 0, none⟩) N N, .int .i64 R, .int .i64 0] 40)).drew = W at S2 ⊢
        clear hW
        generalize wr.heap.size = gR at S2 ⊢
        generalize gR + 1 = gL at S2 ⊢
        have k0 : W.cell? ⟨g3, 0, none⟩ = some (.slice aS N cS) := by
          have h1 := S2.out.perm (ps := cellT g3 (refMap (.slice aS N cS) R 0) :: _) (List.perm_middle (l₁ := [_, _, _, _, _]))
          exact h1.cellAt 0
        go_wp2_with fail
        go_loopw [60] (fun kv wr => ∃ (d : Nat) (ys : List Value), d ≤ N ∧ kv = .int .i64 d ∧ ys.length = N ∧ St w0 wr (rowT 3 (.slice (some ⟨gR, 0, none⟩) N N) ys :: cellT gL (refMap (.slice (some ⟨gR, 0, none⟩) N N) R 0) :: rowT 3 (.slice al N cl) (intsOf (mixL es fl)) :: rowT 3 (.slice am n cm) (intsOf es) :: cellT g6 (refMap (.slice none 0 0) 0 0) :: cellT g3 (refMap (.slice aS N cS) R 0) :: os)) (fun kv _ => N - (intOf kv).toNat)
        case atStart => exact ⟨0, _, by omega, rfl, by simp, S2.out⟩
        case round =>
          obtain ⟨d, ys, hd, rfl, hyl, hS⟩ := hrel
          have HS := Lib.hid hS
          have HYL := Lib.hid hyl
          clear hS S2 hyl
          by_cases hltd : d < N
          · have hdx : d < xs.length := by rw [HXL.out]; exact hltd
            obtain ⟨hx1, hx2⟩ := toN_lt HIX.out hdx
            obtain ⟨x, hx⟩ : ∃ x, toN xs d = x := ⟨_, rfl⟩
            rw [hx] at hx1 hx2
            have hxN : x < N := by rw [← HXL.out]; exact hx1
            have hL2 : 2 * es.length = N := by rw [HEL.out]; exact HN.out
            have hD := mixF_lt HIP.out fl (d := d) (by rw [hL2]; exact hltd)
            obtain ⟨p, hp⟩ : ∃ p, mixF es fl d = p := ⟨_, rfl⟩
            obtain ⟨q, hq⟩ : ∃ q, mixF es fl x = q := ⟨_, rfl⟩
            rw [hp, hL2] at hD
            have hvp : (intsOf (mixL es fl))[d]? = some (.int .i64 p) := by
              unfold mixL
              simp only [intsOf, List.getElem?_map, mapL_get (mixF es fl) (by rw [hL2]; exact hltd : d < 2 * es.length), hp]; rfl
            have hvq : (intsOf (mixL es fl))[x]? = some (.int .i64 q) := by
              unfold mixL
              simp only [intsOf, List.getElem?_map, mapL_get (mixF es fl) (by rw [hL2]; exact hxN : x < 2 * es.length), hq]; rfl
            obtain ⟨a8, c8, he8, q1, q2, q3, hc8⟩ := HS0.out _ _ _ wr [_, _, _] HS.out
            simp only [Value.slice.injEq] at he8
            obtain ⟨rfl, hq8, rfl⟩ := he8
            have hv8 : (intsOf xs)[d]? = some (.int .i64 x) := by simp only [intsOf, List.getElem?_map, hx2]; rfl
            rcases hc8 with hc8 | ⟨pb, po, rfl, hc8⟩
            · rw [hc8] at hv8; simp at hv8
            have cx := hc8 d _ hv8
            obtain ⟨a9, c9, he9, q4, q5, q6, hc9⟩ := HS.out.reads (E := 3) (v := .slice al N cl) (xs := intsOf (mixL es fl)) (List.mem_cons_of_mem _ (List.mem_cons_of_mem _ (List.mem_cons_self ..)))
            simp only [Value.slice.injEq] at he9
            obtain ⟨rfl, hq9, rfl⟩ := he9
            rcases hc9 with hc9 | ⟨qb, qo, rfl, hc9⟩
            · rw [hc9] at hvp; simp at hvp
            have cp := hc9 d _ hvp
            have cq := hc9 x _ hvq
            have kL : wr.cell? ⟨gL, 0, none⟩ = some (.slice (some ⟨gR, 0, none⟩) N N) := HS.out.swap.cellAt 0
            have hrow := HS.out.rowN HYL.out
            have cz := hrow.cellAt p (by omega)
            rw [List.getElem?_eq_getElem (by rw [HYL.out]; exact hD)] at cz
            obtain ⟨y, hy⟩ : ∃ y, ys[p]'(by rw [HYL.out]; exact hD) = y := ⟨_, rfl⟩
            rw [hy] at cz
            have fz := hrow.frozenAt p
            have HST := Lib.hid (HS.out.store HYL.out p (.int .i64 (q : Nat))).drew
            have HYL2 : Hid ((ys.set p (.int .i64 (q : Nat))).length = N) := by show _ = _; rw [List.length_set, HYL.out]
            clear hrow hc8 hc9 hv8 hvp hvq hq8 hq9 q1 q2 q3 q4 q5 q6 hp hq hx hx1 hx2 hL2 hdx hy HS
            go_wp2_with fail
            go_region
            go_wp2_with fail
            go_roundw
            case rel => exact ⟨d + 1, _, by omega, by go_num, HYL2.out, HST.out⟩
            case measure => simp [intOf]; omega
          · have kL0 : wr.cell? ⟨gL, 0, none⟩ = some (.slice (some ⟨gR, 0, none⟩) N N) := HS.out.swap.cellAt 0
            have kg : wr.cell? ⟨g3, 0, none⟩ = some (.slice aS N cS) := by
              have h1 := HS.out.perm (ps := cellT g3 (refMap (.slice aS N cS) R 0) :: _) (List.perm_middle (l₁ := [_, _, _, _, _]))
              exact h1.cellAt 0
            by_cases hN0 : 0 < N
            · rcases HRR.out with hz | ⟨hr0, hr1⟩
              · exfalso
                have := HN.out
                omega
              obtain ⟨k, rfl⟩ : ∃ k : Nat, R = k := ⟨R.toNat, by omega⟩
              have hkN : k < N := by omega
              have hL2 : 2 * es.length = N := by rw [HEL.out]; exact HN.out
              obtain ⟨z, hz⟩ : ∃ z, mixF es fl k = z := ⟨_, rfl⟩
              have hvz : (intsOf (mixL es fl))[k]? = some (.int .i64 z) := by
                unfold mixL
                simp only [intsOf, List.getElem?_map, mapL_get (mixF es fl) (by rw [hL2]; exact hkN : k < 2 * es.length), hz]; rfl
              obtain ⟨a9, c9, he9, q4, q5, q6, hc9⟩ := HS.out.reads (E := 3) (v := .slice al N cl) (xs := intsOf (mixL es fl)) (List.mem_cons_of_mem _ (List.mem_cons_of_mem _ (List.mem_cons_self ..)))
              simp only [Value.slice.injEq] at he9
              obtain ⟨rfl, hq9, rfl⟩ := he9
              rcases hc9 with hc9 | ⟨qb, qo, rfl, hc9⟩
              · rw [hc9] at hvz; simp at hvz
              have cz := hc9 k _ hvz
              have kg1 : wr.cell? ⟨g3, 1, none⟩ = some (.int .i64 (k : Nat)) := by
                have h1 := HS.out.perm (ps := cellT g3 (refMap (.slice aS N cS) (k : Nat) 0) :: _) (List.perm_middle (l₁ := [_, _, _, _, _]))
                exact h1.cellAt 1
              have kL1 : wr.cell? ⟨gL, 1, none⟩ = some (.int .i64 (k : Nat)) := HS.out.swap.cellAt 1
              have fL1 : wr.frozen? ⟨gL, 1, none⟩ = false := HS.out.swap.freeAt 1
              have hS2 : St w0 (wr.setCell ⟨gL, 1, none⟩ (.int .i64 (z : Nat))) (cellT gL (refMap (.slice (some ⟨gR, 0, none⟩) N N) (z : Nat) 0) :: rowT 3 (.slice (some ⟨gR, 0, none⟩) N N) ys :: rowT 3 (.slice (some ⟨qb, qo, none⟩) N cl) (intsOf (mixL es fl)) :: rowT 3 (.slice am n cm) (intsOf es) :: cellT g6 (refMap (.slice none 0 0) 0 0) :: cellT g3 (refMap (.slice aS N cS) (k : Nat) 0) :: os) := HS.out.swap.storeCell 1 (.int .i64 (z : Nat))
              have kM0 := hS2.cellAt 0
              have kM1 := hS2.cellAt 1
              have kM2 := hS2.cellAt 2
              have hR6 := hS2.perm (ps := cellT g6 (refMap (.slice none 0 0) 0 0) :: _) (List.perm_middle (l₁ := [_, _, _, _]))
              have m0 := hR6.cellAt 0
              have m1 := hR6.cellAt 1
              have m2 := hR6.cellAt 2
              have n0 := hR6.freeAt 0
              have n1 := hR6.freeAt 1
              have n2 := hR6.freeAt 2
              have H9 := Lib.hid (((hR6.storeCell 0 (.slice (some ⟨gR, 0, none⟩) N N)).storeCell 1 (.int .i64 (z : Nat))).storeCell 2 (.int .i64 0))
              clear hR6 hS2 HS hd hvz hz hq9 q4 q5 q6 hc9 hL2
              go_wp2_with fail
              have hb := H9.out.block
              have hb2 : _ = some (Obj.cells #[.slice (some ⟨gR, 0, none⟩) N N, .int .i64 (z : Nat), .int .i64 0] 40 (0, 0)) := hb
              refine bodyPost_ret (results_cell_tmp_row rfl _ _ g6 40 _ (0, 0) _ rfl hb2 Try.underlying40 rfl (by kernel_rfl)) rfl ?_
              exact ⟨_, _, _, _, _, _, es, rfl, HIP.out, HEL.out, H9.out.rot4.swap.tail.swap.tail.swap.tail.swap.tail.swap.tail⟩
            · have hR6 := HS.out.perm (ps := cellT g6 (refMap (.slice none 0 0) 0 0) :: _) (List.perm_middle (l₁ := [_, _, _, _]))
              have m0 := hR6.cellAt 0
              have m1 := hR6.cellAt 1
              have m2 := hR6.cellAt 2
              have n0 := hR6.freeAt 0
              have n1 := hR6.freeAt 1
              have n2 := hR6.freeAt 2
              have kL1 : wr.cell? ⟨gL, 1, none⟩ = some (.int .i64 R) := HS.out.swap.cellAt 1
              have kL2 : wr.cell? ⟨gL, 2, none⟩ = some (.int .i64 0) := HS.out.swap.cellAt 2
              have H9 := Lib.hid (((hR6.storeCell 0 (.slice (some ⟨gR, 0, none⟩) N N)).storeCell 1 (.int .i64 R)).storeCell 2 (.int .i64 0))
              clear hR6 HS hd
              go_wp2_with fail
              have hb := H9.out.block
              have hb2 : _ = some (Obj.cells #[.slice (some ⟨gR, 0, none⟩) N N, .int .i64 R, .int .i64 0] 40 (0, 0)) := hb
              refine bodyPost_ret (results_cell_tmp_row rfl _ _ g6 40 _ (0, 0) _ rfl hb2 Try.underlying40 rfl (by kernel_rfl)) rfl ?_
              exact ⟨_, _, _, _, _, _, es, rfl, HIP.out, HEL.out, H9.out.rot4.swap.tail.swap.tail.swap.tail.swap.tail.swap.tail⟩
      · have h3 := HS.out.newCell (refMap (.slice (some ⟨wr.heap.size + 1, 0, none⟩) N N) R 0)
        have hgs : (wr.alloc (.cells #[.slice (some ⟨wr.heap.size + 1, 0, none⟩) N N, .int .i64 R, .int .i64 0] 40)).heap.size = wr.heap.size + 1 := by simp
        have h4 := (h3.newRow ((Keeps.refl _ _).alloc _) (made_row (wr.alloc (.cells #[.slice (some ⟨wr.heap.size + 1, 0, none⟩) N N, .int .i64 R, .int .i64 0] 40)) N (by omega))).drew
        rw [hgs] at h4
        have S2 : Hid (St w0 ((wr.alloc (.cells #[.slice (some ⟨wr.heap.size + 1, 0, none⟩) N N, .int .i64 R, .int .i64 0] 40)).alloc (.cells (madeCells #[.int .i64 0] N) 3)).drew (rowT 3 (.slice (some ⟨wr.heap.size + 1, 0, none⟩) N N) (List.replicate N (.int .i64 0)) :: cellT wr.heap.size (refMap (.slice (some ⟨wr.heap.size + 1, 0, none⟩) N N) R 0) :: rowT 3 (.slice al N cl) (intsOf (mixL es fl)) :: rowT 3 (.slice am n cm) (intsOf es) :: cellT g6 (refMap (.slice none 0 0) 0 0) :: cellT g3 (refMap (.slice aS N cS) R 0) :: os)) := h4
        clear h3 h4 hgs kA0 kA1 kA2 kB0 kB1 kB2 hmk HS k0 k1 k2
        generalize hW : ((wr.alloc (.cells #[.slice (some ⟨wr.heap.size + 1, 0, none⟩) N N, .int .i64 R, .int .i64 0] 40)).alloc (.cells (madeCells #[.int .i64 0] N) 3)).drew = W at S2 ⊢
        clear hW
        generalize wr.heap.size + 1 = gR at S2 ⊢
        generalize wr.heap.size = gL at S2 ⊢
        have k0 : W.cell? ⟨g3, 0, none⟩ = some (.slice aS N cS) := by
          have h1 := S2.out.perm (ps := cellT g3 (refMap (.slice aS N cS) R 0) :: _) (List.perm_middle (l₁ := [_, _, _, _, _]))
          exact h1.cellAt 0
        go_wp2_with fail
        go_loopw [60] (fun kv wr => ∃ (d : Nat) (ys : List Value), d ≤ N ∧ kv = .int .i64 d ∧ ys.length = N ∧ St w0 wr (rowT 3 (.slice (some ⟨gR, 0, none⟩) N N) ys :: cellT gL (refMap (.slice (some ⟨gR, 0, none⟩) N N) R 0) :: rowT 3 (.slice al N cl) (intsOf (mixL es fl)) :: rowT 3 (.slice am n cm) (intsOf es) :: cellT g6 (refMap (.slice none 0 0) 0 0) :: cellT g3 (refMap (.slice aS N cS) R 0) :: os)) (fun kv _ => N - (intOf kv).toNat)
        case atStart => exact ⟨0, _, by omega, rfl, by simp, S2.out⟩
        case round =>
          obtain ⟨d, ys, hd, rfl, hyl, hS⟩ := hrel
          have HS := Lib.hid hS
          have HYL := Lib.hid hyl
          clear hS S2 hyl
          by_cases hltd : d < N
          · have hdx : d < xs.length := by rw [HXL.out]; exact hltd
            obtain ⟨hx1, hx2⟩ := toN_lt HIX.out hdx
            obtain ⟨x, hx⟩ : ∃ x, toN xs d = x := ⟨_, rfl⟩
            rw [hx] at hx1 hx2
            have hxN : x < N := by rw [← HXL.out]; exact hx1
            have hL2 : 2 * es.length = N := by rw [HEL.out]; exact HN.out
            have hD := mixF_lt HIP.out fl (d := d) (by rw [hL2]; exact hltd)
            obtain ⟨p, hp⟩ : ∃ p, mixF es fl d = p := ⟨_, rfl⟩
            obtain ⟨q, hq⟩ : ∃ q, mixF es fl x = q := ⟨_, rfl⟩
            rw [hp, hL2] at hD
            have hvp : (intsOf (mixL es fl))[d]? = some (.int .i64 p) := by
              unfold mixL
              simp only [intsOf, List.getElem?_map, mapL_get (mixF es fl) (by rw [hL2]; exact hltd : d < 2 * es.length), hp]; rfl
            have hvq : (intsOf (mixL es fl))[x]? = some (.int .i64 q) := by
              unfold mixL
              simp only [intsOf, List.getElem?_map, mapL_get (mixF es fl) (by rw [hL2]; exact hxN : x < 2 * es.length), hq]; rfl
            obtain ⟨a8, c8, he8, q1, q2, q3, hc8⟩ := HS0.out _ _ _ wr [_, _, _] HS.out
            simp only [Value.slice.injEq] at he8
            obtain ⟨rfl, hq8, rfl⟩ := he8
            have hv8 : (intsOf xs)[d]? = some (.int .i64 x) := by simp only [intsOf, List.getElem?_map, hx2]; rfl
            rcases hc8 with hc8 | ⟨pb, po, rfl, hc8⟩
            · rw [hc8] at hv8; simp at hv8
            have cx := hc8 d _ hv8
            obtain ⟨a9, c9, he9, q4, q5, q6, hc9⟩ := HS.out.reads (E := 3) (v := .slice al N cl) (xs := intsOf (mixL es fl)) (List.mem_cons_of_mem _ (List.mem_cons_of_mem _ (List.mem_cons_self ..)))
            simp only [Value.slice.injEq] at he9
            obtain ⟨rfl, hq9, rfl⟩ := he9
            rcases hc9 with hc9 | ⟨qb, qo, rfl, hc9⟩
            · rw [hc9] at hvp; simp at hvp
            have cp := hc9 d _ hvp
            have cq := hc9 x _ hvq
            have kL : wr.cell? ⟨gL, 0, none⟩ = some (.slice (some ⟨gR, 0, none⟩) N N) := HS.out.swap.cellAt 0
            have hrow := HS.out.rowN HYL.out
            have cz := hrow.cellAt p (by omega)
            rw [List.getElem?_eq_getElem (by rw [HYL.out]; exact hD)] at cz
            obtain ⟨y, hy⟩ : ∃ y, ys[p]'(by rw [HYL.out]; exact hD) = y := ⟨_, rfl⟩
            rw [hy] at cz
            have fz := hrow.frozenAt p
            have HST := Lib.hid (HS.out.store HYL.out p (.int .i64 (q : Nat))).drew
            have HYL2 : Hid ((ys.set p (.int .i64 (q : Nat))).length = N) := by show _ = _; rw [List.length_set, HYL.out]
            clear hrow hc8 hc9 hv8 hvp hvq hq8 hq9 q1 q2 q3 q4 q5 q6 hp hq hx hx1 hx2 hL2 hdx hy HS
            go_wp2_with fail
            go_region
            go_wp2_with fail
            go_roundw
            case rel => exact ⟨d + 1, _, by omega, by go_num, HYL2.out, HST.out⟩
            case measure => simp [intOf]; omega
          · have kL0 : wr.cell? ⟨gL, 0, none⟩ = some (.slice (some ⟨gR, 0, none⟩) N N) := HS.out.swap.cellAt 0
            have kg : wr.cell? ⟨g3, 0, none⟩ = some (.slice aS N cS) := by
              have h1 := HS.out.perm (ps := cellT g3 (refMap (.slice aS N cS) R 0) :: _) (List.perm_middle (l₁ := [_, _, _, _, _]))
              exact h1.cellAt 0
            by_cases hN0 : 0 < N
            · rcases HRR.out with hz | ⟨hr0, hr1⟩
              · exfalso
                have := HN.out
                omega
              obtain ⟨k, rfl⟩ : ∃ k : Nat, R = k := ⟨R.toNat, by omega⟩
              have hkN : k < N := by omega
              have hL2 : 2 * es.length = N := by rw [HEL.out]; exact HN.out
              obtain ⟨z, hz⟩ : ∃ z, mixF es fl k = z := ⟨_, rfl⟩
              have hvz : (intsOf (mixL es fl))[k]? = some (.int .i64 z) := by
                unfold mixL
                simp only [intsOf, List.getElem?_map, mapL_get (mixF es fl) (by rw [hL2]; exact hkN : k < 2 * es.length), hz]; rfl
              obtain ⟨a9, c9, he9, q4, q5, q6, hc9⟩ := HS.out.reads (E := 3) (v := .slice al N cl) (xs := intsOf (mixL es fl)) (List.mem_cons_of_mem _ (List.mem_cons_of_mem _ (List.mem_cons_self ..)))
              simp only [Value.slice.injEq] at he9
              obtain ⟨rfl, hq9, rfl⟩ := he9
              rcases hc9 with hc9 | ⟨qb, qo, rfl, hc9⟩
              · rw [hc9] at hvz; simp at hvz
              have cz := hc9 k _ hvz
              have kg1 : wr.cell? ⟨g3, 1, none⟩ = some (.int .i64 (k : Nat)) := by
                have h1 := HS.out.perm (ps := cellT g3 (refMap (.slice aS N cS) (k : Nat) 0) :: _) (List.perm_middle (l₁ := [_, _, _, _, _]))
                exact h1.cellAt 1
              have kL1 : wr.cell? ⟨gL, 1, none⟩ = some (.int .i64 (k : Nat)) := HS.out.swap.cellAt 1
              have fL1 : wr.frozen? ⟨gL, 1, none⟩ = false := HS.out.swap.freeAt 1
              have hS2 : St w0 (wr.setCell ⟨gL, 1, none⟩ (.int .i64 (z : Nat))) (cellT gL (refMap (.slice (some ⟨gR, 0, none⟩) N N) (z : Nat) 0) :: rowT 3 (.slice (some ⟨gR, 0, none⟩) N N) ys :: rowT 3 (.slice (some ⟨qb, qo, none⟩) N cl) (intsOf (mixL es fl)) :: rowT 3 (.slice am n cm) (intsOf es) :: cellT g6 (refMap (.slice none 0 0) 0 0) :: cellT g3 (refMap (.slice aS N cS) (k : Nat) 0) :: os) := HS.out.swap.storeCell 1 (.int .i64 (z : Nat))
              have kM0 := hS2.cellAt 0
              have kM1 := hS2.cellAt 1
              have kM2 := hS2.cellAt 2
              have hR6 := hS2.perm (ps := cellT g6 (refMap (.slice none 0 0) 0 0) :: _) (List.perm_middle (l₁ := [_, _, _, _]))
              have m0 := hR6.cellAt 0
              have m1 := hR6.cellAt 1
              have m2 := hR6.cellAt 2
              have n0 := hR6.freeAt 0
              have n1 := hR6.freeAt 1
              have n2 := hR6.freeAt 2
              have H9 := Lib.hid (((hR6.storeCell 0 (.slice (some ⟨gR, 0, none⟩) N N)).storeCell 1 (.int .i64 (z : Nat))).storeCell 2 (.int .i64 0))
              clear hR6 hS2 HS hd hvz hz hq9 q4 q5 q6 hc9 hL2
              go_wp2_with fail
              have hb := H9.out.block
              have hb2 : _ = some (Obj.cells #[.slice (some ⟨gR, 0, none⟩) N N, .int .i64 (z : Nat), .int .i64 0] 40 (0, 0)) := hb
              refine bodyPost_ret (results_cell_tmp_row rfl _ _ g6 40 _ (0, 0) _ rfl hb2 Try.underlying40 rfl (by kernel_rfl)) rfl ?_
              exact ⟨_, _, _, _, _, _, es, rfl, HIP.out, HEL.out, H9.out.rot4.swap.tail.swap.tail.swap.tail.swap.tail.swap.tail⟩
            · have hR6 := HS.out.perm (ps := cellT g6 (refMap (.slice none 0 0) 0 0) :: _) (List.perm_middle (l₁ := [_, _, _, _]))
              have m0 := hR6.cellAt 0
              have m1 := hR6.cellAt 1
              have m2 := hR6.cellAt 2
              have n0 := hR6.freeAt 0
              have n1 := hR6.freeAt 1
              have n2 := hR6.freeAt 2
              have kL1 : wr.cell? ⟨gL, 1, none⟩ = some (.int .i64 R) := HS.out.swap.cellAt 1
              have kL2 : wr.cell? ⟨gL, 2, none⟩ = some (.int .i64 0) := HS.out.swap.cellAt 2
              have H9 := Lib.hid (((hR6.storeCell 0 (.slice (some ⟨gR, 0, none⟩) N N)).storeCell 1 (.int .i64 R)).storeCell 2 (.int .i64 0))
              clear hR6 HS hd
              go_wp2_with fail
              have hb := H9.out.block
              have hb2 : _ = some (Obj.cells #[.slice (some ⟨gR, 0, none⟩) N N, .int .i64 R, .int .i64 0] 40 (0, 0)) := hb
              refine bodyPost_ret (results_cell_tmp_row rfl _ _ g6 40 _ (0, 0) _ rfl hb2 Try.underlying40 rfl (by kernel_rfl)) rfl ?_
              exact ⟨_, _, _, _, _, _, es, rfl, HIP.out, HEL.out, H9.out.rot4.swap.tail.swap.tail.swap.tail.swap.tail.swap.tail⟩
end Go.Proofs.Ytoipbbobkllddaa

