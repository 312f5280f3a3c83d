/- Perm.Names, and the document's. -/
import Derived.Test.YtongakmljbebfaaRepeat
import Derived.Test.YtongakmljbebfaaNamesP
namespace Go.Proofs.Ytongakmljbebfaa
open Go.RowKit

/-- a row of numbers -/
def iRow (f : Nat → Int) (m : Nat) : List Value := (List.range m).map fun i => Value.int .i64 (f i)
theorem iRow_len (f : Nat → Int) (m : Nat) : (iRow f m).length = m := by simp [iRow]
theorem iRow_get (f : Nat → Int) (m i : Nat) (h : i < m) : (iRow f m)[i]? = some (.int .i64 (f i)) := by simp [iRow, h]
theorem iRow_congr {f g : Nat → Int} {m : Nat} (h : ∀ j, j < m → f j = g j) : iRow f m = iRow g m := by
  unfold iRow
  refine List.map_congr_left fun j hj => ?_
  rw [h j (List.mem_range.1 hj)]
theorem iRow_set (f g : Nat → Int) (m i : Nat) (h : ∀ j, j < m → j ≠ i → g j = f j) : (iRow f m).set i (.int .i64 (g i)) = iRow g m := by
  apply List.ext_getElem
  · simp [iRow]
  · intro j h1 h2
    have hj : j < m := by simpa [iRow] using h1
    rw [List.getElem_set]
    by_cases he : i = j
    · subst he; simp [iRow]
    · rw [if_neg he]; simp [iRow, h j hj (fun e => he e.symm)]
theorem iRow_const (z : Int) (m : Nat) : intsOf (List.replicate m z) = iRow (fun _ => z) m := by
  apply List.ext_getElem <;> simp [iRow, intsOf]
theorem iRow_names (xs : List Int) : iRow (nameN xs xs.length) xs.length = intsOf (namesN xs) := by
  unfold iRow namesN intsOf
  rw [List.map_map]
  refine List.map_congr_left fun j hj => ?_
  rw [nameN_end (List.mem_range.1 hj)]; rfl

/-- the names, with so many of an orbit named -/
noncomputable def halfN (xs : List Int) (i k x : Nat) : Int := if x ∈ (orbN xs i).take k then (rankN xs i : Int) else nameN xs i x

theorem halfN_zero (xs : List Int) (i : Nat) : halfN xs i 0 = nameN xs i := by
  funext x; simp [halfN]
theorem halfN_end {xs : List Int} (hp : IsPerm xs) {i : Nat} (hi : i < xs.length) (h : leadN xs i = i) : iRow (halfN xs i (perN xs i)) xs.length = iRow (nameN xs (i + 1)) xs.length := by
  refine iRow_congr fun x hx => ?_
  rw [nameN_step_lead hp hi h hx]
  unfold halfN
  rw [← orbN_len xs i, List.take_length]
theorem halfN_set {xs : List Int} {i k y : Nat} (h : (orbN xs i)[k]? = some y) (m : Nat) : (iRow (halfN xs i k) m).set y (.int .i64 (rankN xs i : Nat)) = iRow (halfN xs i (k + 1)) m := by
  obtain ⟨hk, hy⟩ := List.getElem?_eq_some_iff.1 h
  have ht : (orbN xs i).take (k + 1) = (orbN xs i).take k ++ [y] := by rw [List.take_succ_eq_append_getElem hk, hy]
  have h1 : halfN xs i (k + 1) y = (rankN xs i : Int) := by
    unfold halfN
    rw [if_pos (by rw [ht]; simp)]
  rw [← h1]
  refine iRow_set _ _ m y fun j _ hj => ?_
  unfold halfN
  rw [ht]
  by_cases hm : j ∈ (orbN xs i).take k
  · rw [if_pos hm, if_pos (List.mem_append_left _ hm)]
  · rw [if_neg hm, if_neg]
    intro hc
    rcases List.mem_append.1 hc with hc | hc
    · exact hm hc
    · simp at hc; exact hj hc

set_option maxRecDepth 100000 in
set_option maxHeartbeats 4000000 in
theorem permNames_any {w0 w : World} {os : List Thing} (h : St w0 w os) (p : Nat) (v : Value) (xs : List Int) (hm1 : cellT p (permObj v) ∈ os) (hm2 : rowT 3 v (intsOf xs) ∈ os) (hp : IsPerm xs) (hl : xs.length ≤ 1000000) :
    Calls Try.prog 14 #[.pointer (some ⟨p, 0, none⟩)] w fun e w' => ∃ v', e = .returned v' ∧ St w0 w' (rowT 3 v' (intsOf (namesN xs)) :: os) := by
  obtain ⟨a, c, rfl, hlc, hcm⟩ := ownsRow_slice (h.ok hm2)
  rw [intsOf_len] at *
  obtain ⟨N, hN⟩ : ∃ N, xs.length = N := ⟨_, rfl⟩
  have HM1 := Lib.hid hm1
  have HM2 := Lib.hid hm2
  have HP := Lib.hid hp
  have HN := Lib.hid hN
  rw [hN] at hlc hl
  have S1 : Hid (St w0 (w.alloc (.cells #[.int .i64 (-1)] 3)) (rowT 3 (.slice (some ⟨w.heap.size, 0, none⟩) 1 1) [.int .i64 (-1)] :: os)) :=
    h.newRow ((Keeps.refl _ _).alloc _) (World.ownsRow_lit (base := w.heap.size) (e := 3) (size := 1) w #[.int .i64 (-1)] 1 (Nat.le_refl _) (by decide) (by simp))
  have hc1 : (w.alloc (.cells #[.int .i64 (-1)] 3)).cell? ⟨p, 0, none⟩ = some (.slice a N c) := by
    have := S1.out.permAt (List.mem_cons_of_mem _ HM1.out)
    rw [HN.out] at this; exact this
  have HLEN := Lib.hid (permLen_any hc1)
  have HREP := Lib.hid (repeat_any S1.out (.slice (some ⟨w.heap.size, 0, none⟩) 1 1) (-1) N (by omega) (fun W os' hW => hW.reads (List.mem_append_right _ (List.mem_cons_self ..))))
  clear hm1 hm2 hp hN hc1 h
  go_enter Try.func14, Try.ntmps14
  go_wp2_with fail
  refine HLEN.out.mono ?_
  rintro e w1 ⟨rfl, rfl⟩
  clear HLEN
  go_wp2_with fail
  refine HREP.out.mono ?_
  rintro e w2 ⟨v2, rfl, h2⟩
  obtain ⟨a2, c2, rfl, _, _⟩ := ownsRow_slice h2.row
  rw [intsOf_len, List.length_replicate] at h2 ⊢
  have h3 := h2.swap.tail
  rw [iRow_const] at h3
  have S3 := Lib.hid h3
  clear h2 h3 HREP S1
  go_wp2_with fail
  go_loopw [14, 4] (fun iv nv wr => ∃ i : Nat, i ≤ N ∧ iv = .int .i64 i ∧ nv = .int .i64 (rankN xs i : Nat) ∧
    St w0 wr (rowT 3 (.slice a2 N c2) (iRow (nameN xs i) N) :: os)) (fun iv _ _ => N - (intOf iv).toNat)
  case atStart =>
    exact ⟨0, by omega, rfl, rfl, by
      have e : nameN xs 0 = fun _ => -1 := by funext x; unfold nameN; rw [if_neg (Nat.not_lt_zero _)]
      rw [e]; exact S3.out⟩
  case round =>
    obtain ⟨i, hi, rfl, rfl, hS⟩ := hrel
    have HS := Lib.hid hS
    clear hS S3
    by_cases hlt : i < N
    · have hrow := HS.out.rowN (iRow_len _ N)
      obtain ⟨g, cap, he, hcap1, hcap2⟩ := ownsRow_shape hrow (by omega)
      simp only [Value.slice.injEq] at he
      obtain ⟨rfl, hq9, rfl⟩ := he
      clear hq9
      have ci : wr.cell? ⟨g, i, none⟩ = some (.int .i64 (nameN xs i i)) := by rw [hrow.cellAt i (by omega), iRow_get _ N i hlt]
      have hcm2 : c2 ≤ 9223372036854775807 := by unfold maxLen at hcap2; omega
      clear hrow
      by_cases hld : leadN xs i = i
      · have hneg : nameN xs i i = -1 := by unfold nameN; rw [if_neg (by omega)]
        rw [hneg] at ci
        have hix : i < xs.length := by rw [HN.out]; exact hlt
        have HORB := Lib.hid (permOrbit_any HS.out p _ xs (List.mem_cons_of_mem _ HM1.out) (List.mem_cons_of_mem _ HM2.out) HP.out (by rw [HN.out]; exact hl) i hix)
        have HLD := Lib.hid hld
        obtain ⟨R, hR⟩ : ∃ R, rankN xs i = R := ⟨_, rfl⟩
        have hRi : R ≤ i := by rw [← hR]; exact rankN_le xs i
        have HR := Lib.hid hR
        rw [hR]
        clear hneg hld hR
        go_wp2_with fail
        refine HORB.out.mono ?_
        rintro e w3 ⟨v3, rfl, h3⟩
        obtain ⟨a3, c3, rfl, _, _⟩ := ownsRow_slice h3.row
        rw [intsOf_len, natsI_len, orbN_len] at h3 ⊢
        obtain ⟨T, hT⟩ : ∃ T, perN xs i = T := ⟨_, rfl⟩
        have hTs := perN_spec HP.out hix
        rw [hT] at h3 hTs ⊢
        rw [HN.out] at hTs
        have HT := Lib.hid hT
        have hTN : T ≤ N := hTs.2.1
        have S4 := Lib.hid h3.swap
        clear HORB HS h3 ci hT hTs
        go_wp2_with fail
        go_loopw [26] (fun jv wr => ∃ j : Nat, j ≤ T ∧ jv = .int .i64 j ∧
          St w0 wr (rowT 3 (.slice (some ⟨g, 0, none⟩) N c2) (iRow (halfN xs i j) N) :: rowT 3 (.slice a3 T c3) (intsOf (natsI (orbN xs i))) :: os)) (fun jv _ => T - (intOf jv).toNat)
        case atStart =>
          exact ⟨0, by omega, rfl, by rw [halfN_zero]; exact S4.out⟩
        case round =>
          obtain ⟨j, hj, rfl, hS⟩ := hrel
          have HS := Lib.hid hS
          clear hS S4
          by_cases hjT : j < T
          · obtain ⟨y, hy⟩ : ∃ y, (orbN xs i)[j]? = some y := ⟨_, List.getElem?_eq_getElem (by rw [orbN_len, HT.out]; exact hjT)⟩
            have hyN : y < N := by
              have h1 := (List.getElem?_eq_some_iff.1 hy).2
              have h2 : y ∈ orbN xs i := by rw [← h1]; exact List.getElem_mem _
              have := Rch.lt HP.out hix ((mem_orbN HP.out hix y).1 h2)
              rw [HN.out] at this; exact this
            have hr2 := HS.out.reads (List.mem_cons_of_mem _ (List.mem_cons_self ..))
            obtain ⟨ao, cp, he, _, _, _, hcc⟩ := hr2
            simp only [Value.slice.injEq] at he
            obtain ⟨rfl, hq8, rfl⟩ := he
            clear hq8
            have hyv : (intsOf (natsI (orbN xs i)))[j]? = some (.int .i64 y) := by
              simp only [intsOf, natsI, List.map_map, List.getElem?_map, hy]; rfl
            rcases hcc with hcc | ⟨ab, aof, rfl, hcc⟩
            · rw [hcc] at hyv; simp at hyv
            have cj := hcc j _ hyv
            have cY := (HS.out.rowN (iRow_len _ N)).cellAt y (by omega)
            rw [iRow_get _ N y hyN] at cY
            have fY := (HS.out.rowN (iRow_len _ N)).frozenAt y
            have hst := HS.out.store (iRow_len _ N) y (.int .i64 (R : Nat))
            rw [← HR.out, halfN_set hy N, HR.out] at hst
            have HST := Lib.hid hst
            clear hst hyv hcc hy HS
            go_wp2_with fail
            go_roundw
            case rel => exact ⟨j + 1, by omega, by go_num, HST.out⟩
            case measure => simp [intOf]; omega
          · obtain rfl : j = T := by omega
            have hend := halfN_end HP.out hix HLD.out
            rw [HT.out, HN.out] at hend
            have HE := Lib.hid hend
            have HS5 := Lib.hid HS.out.swap.tail
            rw [HE.out] at HS5
            have hR2 := rankN_succ_lead HLD.out
            rw [HR.out] at hR2
            have HR2 := Lib.hid hR2
            clear hend HE hR2 HS
            go_wp2_with fail
            go_roundw
            case rel => exact ⟨i + 1, by omega, by go_num, by rw [HR2.out]; go_num, HS5.out⟩
            case measure => simp [intOf]; omega
      · have hpos := (nameN_neg xs i).2 hld
        obtain ⟨q, hq⟩ : ∃ q, nameN xs i i = q := ⟨_, rfl⟩
        rw [hq] at hpos ci
        have HS5 : Hid (St w0 wr (rowT 3 (.slice (some ⟨g, 0, none⟩) N c2) (iRow (nameN xs (i + 1)) N) :: os)) := by
          have := HS.out
          rw [iRow_congr (f := nameN xs i) (g := nameN xs (i + 1)) (fun j hj => (nameN_step_not HP.out hld (by rw [HN.out]; exact hj)).symm)] at this
          exact this
        have HR2 := Lib.hid (rankN_succ_not hld)
        clear hq hld HS
        go_wp2_with fail
        go_roundw
        case rel => exact ⟨i + 1, by omega, by go_num, by rw [HR2.out], HS5.out⟩
        case measure => simp [intOf]; omega
    · obtain rfl : i = N := by omega
      go_wp2_with fail
      go_ret
      exact ⟨_, rfl, by rw [← iRow_names, HN.out]; exact HS.out⟩

set_option maxRecDepth 100000 in
set_option maxHeartbeats 4000000 in
theorem refNames_any {w0 w : World} {os : List Thing} (h : St w0 w os) (sv : Value) (xs : List Int) (hv : ∀ w' os', St w0 w' (os' ++ os) → Reads w' sv (intsOf xs)) (hp : IsPerm xs) (hl : xs.length ≤ 1000000) :
    Calls Try.prog 11 #[sv] w fun e w' => ∃ v', e = .returned v' ∧ St w0 w' (rowT 3 v' (intsOf (namesN xs)) :: os) := by
  obtain ⟨a, c, rfl, hlc, hcm, hz1, hz2⟩ := hv w [] h
  clear hz1 hz2
  rw [intsOf_len] at *
  obtain ⟨N, hN⟩ : ∃ N, xs.length = N := ⟨_, rfl⟩
  have HV : Hid (∀ o w' os', St w0 w' (os' ++ (o :: os)) → Reads w' (.slice a N c) (intsOf xs)) := fun o w' os' hW => hN ▸ hv w' (os' ++ [o]) (by simpa using hW)
  have HP := Lib.hid hp
  have HN := Lib.hid hN
  have hmk := run_make_row' (P := Try.prog) 24 3 (.int .i64 0) 8 Try.underlying24 info_i64 rfl .i64 .i64 N (by omega) (by omega)
  have S1 : Hid (St w0 (w.alloc (.cells (madeCells #[.int .i64 0] N) 3)) (rowT 3 (.slice (some ⟨w.heap.size, 0, none⟩) N N) (iRow (fun j => if j < 0 then -1 else 0) N) :: os)) := by
    have := World.ownsRow_lit (base := w.heap.size) (e := 3) (size := 1) w (madeCells #[.int .i64 0] N) N (Nat.le_refl _) (by unfold maxLen; omega) (by simp [madeCells])
    rw [toList_madeCells_one] at this
    have := h.newRow ((Keeps.refl _ _).alloc _) this
    have e : List.replicate N (Value.int .i64 0) = iRow (fun j => if j < 0 then -1 else 0) N := by
      rw [iRow_congr (g := fun _ => 0) (fun j _ => if_neg (Nat.not_lt_zero _)), ← iRow_const]; simp [intsOf]
    rw [e] at this
    exact this
  rw [hN] at hlc hl
  rw [hN]
  clear hp hN hv h
  obtain ⟨g, hg⟩ : ∃ g, w.heap.size = g := ⟨_, rfl⟩
  rw [hg] at S1
  have HG := Lib.hid hg
  clear hg
  go_enter Try.func11, Try.ntmps11
  go_wp2_with fail
  clear hmk
  rw [HG.out]
  go_loopw [14] (fun iv wr => ∃ i : Nat, i ≤ N ∧ iv = .int .i64 i ∧
    St w0 wr (rowT 3 (.slice (some ⟨g, 0, none⟩) N N) (iRow (fun j => if j < i then -1 else 0) N) :: os)) (fun iv _ => N - (intOf iv).toNat)
  case atStart =>
    exact ⟨0, by omega, rfl, S1.out⟩
  case round =>
    obtain ⟨i, hi, rfl, hS⟩ := hrel
    have HS := Lib.hid hS
    clear hS S1
    by_cases hlt : i < N
    · have hrow := HS.out.rowN (iRow_len _ N)
      have ci := hrow.cellAt i (by omega)
      rw [iRow_get _ N i hlt] at ci
      have fi := hrow.frozenAt i
      have hst := HS.out.store (iRow_len _ N) i (.int .i64 (-1))
      have hset := iRow_set (fun j => if j < i then (-1 : Int) else 0) (fun j => if j < i + 1 then (-1 : Int) else 0) N i (fun j _ hj => by
        by_cases h : j < i
        · simp [h, show j < i + 1 by omega]
        · simp [h, show ¬ j < i + 1 by omega])
      simp only [show i < i + 1 by omega, if_true] at hset
      rw [hset] at hst
      have HST := Lib.hid hst
      clear hst hset hrow HS
      go_wp2_with fail
      go_roundw
      case rel => exact ⟨i + 1, by omega, by go_num, HST.out⟩
      case measure => simp [intOf]; omega
    · have hiN : i = N := by omega
      have S3 : Hid (St w0 wr (rowT 3 (.slice (some ⟨g, 0, none⟩) N N) (iRow (nameN xs 0) N) :: os)) := by
        have := HS.out
        rw [iRow_congr (g := nameN xs 0) (fun j hj => by rw [if_pos (by omega)]; unfold nameN; rw [if_neg (Nat.not_lt_zero _)])] at this
        exact this
      rw [hiN]
      clear HS hlt hiN hi
      go_wp2_with fail
      go_loopw [23, 5] (fun iv nv wr => ∃ i : Nat, i ≤ N ∧ iv = .int .i64 i ∧ nv = .int .i64 (rankN xs i : Nat) ∧
        St w0 wr (rowT 3 (.slice (some ⟨g, 0, none⟩) N N) (iRow (nameN xs i) N) :: os)) (fun iv _ _ => N - (intOf iv).toNat)
      case atStart =>
        exact ⟨0, by omega, rfl, rfl, S3.out⟩
      case round =>
        obtain ⟨i, hi, rfl, rfl, hS⟩ := hrel
        have HS := Lib.hid hS
        clear hS S3
        by_cases hlt : i < N
        · have hrow := HS.out.rowN (iRow_len _ N)
          have ci : wr.cell? ⟨g, i, none⟩ = some (.int .i64 (nameN xs i i)) := by rw [hrow.cellAt i (by omega), iRow_get _ N i hlt]
          clear hrow
          by_cases hld : leadN xs i = i
          · have hneg : nameN xs i i = -1 := by unfold nameN; rw [if_neg (by omega)]
            rw [hneg] at ci
            have hix : i < xs.length := by rw [HN.out]; exact hlt
            have HORB := Lib.hid (refOrbit_any HS.out _ xs (HV.out _) HP.out (by rw [HN.out]; exact hl) i hix)
            have HLD := Lib.hid hld
            obtain ⟨R, hR⟩ : ∃ R, rankN xs i = R := ⟨_, rfl⟩
            have hRi : R ≤ i := by rw [← hR]; exact rankN_le xs i
            have HR := Lib.hid hR
            rw [hR]
            clear hneg hld hR
            go_wp2_with fail
            refine HORB.out.mono ?_
            rintro e w3 ⟨v3, rfl, h3⟩
            obtain ⟨a3, c3, rfl, _, _⟩ := ownsRow_slice h3.row
            rw [intsOf_len, natsI_len, orbN_len] at h3 ⊢
            obtain ⟨T, hT⟩ : ∃ T, perN xs i = T := ⟨_, rfl⟩
            have hTs := perN_spec HP.out hix
            rw [hT] at h3 hTs ⊢
            rw [HN.out] at hTs
            have HT := Lib.hid hT
            have hTN : T ≤ N := hTs.2.1
            have S4 := Lib.hid h3.swap
            clear HORB HS h3 ci hT hTs
            go_wp2_with fail
            go_loopw [35] (fun jv wr => ∃ j : Nat, j ≤ T ∧ jv = .int .i64 j ∧
              St w0 wr (rowT 3 (.slice (some ⟨g, 0, none⟩) N N) (iRow (halfN xs i j) N) :: rowT 3 (.slice a3 T c3) (intsOf (natsI (orbN xs i))) :: os)) (fun jv _ => T - (intOf jv).toNat)
            case atStart =>
              exact ⟨0, by omega, rfl, by rw [halfN_zero]; exact S4.out⟩
            case round =>
              obtain ⟨j, hj, rfl, hS⟩ := hrel
              have HS := Lib.hid hS
              clear hS S4
              by_cases hjT : j < T
              · obtain ⟨y, hy⟩ : ∃ y, (orbN xs i)[j]? = some y := ⟨_, List.getElem?_eq_getElem (by rw [orbN_len, HT.out]; exact hjT)⟩
                have hyN : y < N := by
                  have h1 := (List.getElem?_eq_some_iff.1 hy).2
                  have h2 : y ∈ orbN xs i := by rw [← h1]; exact List.getElem_mem _
                  have := Rch.lt HP.out hix ((mem_orbN HP.out hix y).1 h2)
                  rw [HN.out] at this; exact this
                have hr2 := HS.out.reads (List.mem_cons_of_mem _ (List.mem_cons_self ..))
                obtain ⟨ao, cp, he, _, _, _, hcc⟩ := hr2
                simp only [Value.slice.injEq] at he
                obtain ⟨rfl, hq8, rfl⟩ := he
                clear hq8
                have hyv : (intsOf (natsI (orbN xs i)))[j]? = some (.int .i64 y) := by
                  simp only [intsOf, natsI, List.map_map, List.getElem?_map, hy]; rfl
                rcases hcc with hcc | ⟨ab, aof, rfl, hcc⟩
                · rw [hcc] at hyv; simp at hyv
                have cj := hcc j _ hyv
                have cY := (HS.out.rowN (iRow_len _ N)).cellAt y (by omega)
                rw [iRow_get _ N y hyN] at cY
                have fY := (HS.out.rowN (iRow_len _ N)).frozenAt y
                have hst := HS.out.store (iRow_len _ N) y (.int .i64 (R : Nat))
                rw [← HR.out, halfN_set hy N, HR.out] at hst
                have HST := Lib.hid hst
                clear hst hyv hcc hy HS
                go_wp2_with fail
                go_roundw
                case rel => exact ⟨j + 1, by omega, by go_num, HST.out⟩
                case measure => simp [intOf]; omega
              · obtain rfl : j = T := by omega
                have hend := halfN_end HP.out hix HLD.out
                rw [HT.out, HN.out] at hend
                have HE := Lib.hid hend
                have HS5 := Lib.hid HS.out.swap.tail
                rw [HE.out] at HS5
                have hR2 := rankN_succ_lead HLD.out
                rw [HR.out] at hR2
                have HR2 := Lib.hid hR2
                clear hend HE hR2 HS
                go_wp2_with fail
                go_roundw
                case rel => exact ⟨i + 1, by omega, by go_num, by rw [HR2.out]; go_num, HS5.out⟩
                case measure => simp [intOf]; omega
          · have hpos := (nameN_neg xs i).2 hld
            obtain ⟨q, hq⟩ : ∃ q, nameN xs i i = q := ⟨_, rfl⟩
            rw [hq] at hpos ci
            have HS5 : Hid (St w0 wr (rowT 3 (.slice (some ⟨g, 0, none⟩) N N) (iRow (nameN xs (i + 1)) N) :: os)) := by
              have := HS.out
              rw [iRow_congr (f := nameN xs i) (g := nameN xs (i + 1)) (fun j hj => (nameN_step_not HP.out hld (by rw [HN.out]; exact hj)).symm)] at this
              exact this
            have HR2 := Lib.hid (rankN_succ_not hld)
            clear hq hld HS
            go_wp2_with fail
            go_roundw
            case rel => exact ⟨i + 1, by omega, by go_num, by rw [HR2.out], HS5.out⟩
            case measure => simp [intOf]; omega
        · obtain rfl : i = N := by omega
          go_wp2_with fail
          go_ret
          exact ⟨_, rfl, by rw [← iRow_names, HN.out]; exact HS.out⟩
end Go.Proofs.Ytongakmljbebfaa

