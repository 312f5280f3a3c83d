/- Perm.Orbit, and the document's. -/
import Derived.Test.YtongakmljbebfaaOrbP
namespace Go.Proofs.Ytongakmljbebfaa
open Go.RowKit

def natsI (ns : List Nat) : List Int := List.map (fun m : Nat => (m : Int)) ns
theorem natsI_len (ns : List Nat) : (natsI ns).length = ns.length := by simp [natsI]
/-- how long a slice is -/
def sliceLen : Value → Nat | .slice _ n _ => n | _ => 0

theorem one_oneCell' (v : Value) (h : v.oneCell' = true) : ∀ u ∈ [v], u.oneCell' = true := by
  intro u hu; simp at hu; subst hu; exact h

theorem permOrbit_out (w : World) {p n : Nat} {a : Option Addr} {c : Nat} (hc : w.cell? ⟨p, 0, none⟩ = some (.slice a n c)) (i : Int) (hi : i < 0 ∨ (n : Int) ≤ i) :
    Calls Try.prog 18 #[.pointer (some ⟨p, 0, none⟩), .int .i64 i] w fun e w' => e = .returned (.slice none 0 0) ∧ w = w' := by
  have HL := Lib.hid (permLen_any hc)
  by_cases h0 : i < 0
  · clear hi
    go_enter Try.func18, Try.ntmps18
    go_wp2_with fail
    go_ret
    exact ⟨rfl, rfl⟩
  · have h1 : (n : Int) ≤ i := by omega
    clear hi
    go_enter Try.func18, Try.ntmps18
    go_wp2_with fail
    refine HL.out.mono ?_
    rintro e w1 ⟨rfl, rfl⟩
    go_wp2_with fail
    go_ret
    exact ⟨rfl, rfl⟩

set_option maxRecDepth 100000 in
set_option maxHeartbeats 4000000 in
theorem permOrbit_any {w0 w : World} {os : List Thing} (h : St w0 w os) (p : Nat) (v : Value) (xs : List Int) (hm1 : cellT p (permObj v) ∈ os) (hm2 : rowT 3 v (intsOf xs) ∈ os) (hp : IsPerm xs) (hl : xs.length ≤ 1000000) (i : Nat) (hi : i < xs.length) :
    Calls Try.prog 18 #[.pointer (some ⟨p, 0, none⟩), .int .i64 i] w fun e w' => ∃ v', e = .returned v' ∧ St w0 w' (rowT 3 v' (intsOf (natsI (orbN xs i))) :: os) := by
  obtain ⟨i0, hii, hz0, hz1, hz2⟩ := info_parts info_i64
  obtain ⟨a, c, rfl, hlc, hcm⟩ := ownsRow_slice (h.ok hm2)
  rw [intsOf_len] at *
  obtain ⟨N, hN⟩ : ∃ N, xs.length = N := ⟨_, rfl⟩
  rw [hN] at hm1 hm2 hlc hl
  have hspec := perN_spec hp hi
  obtain ⟨T, hT⟩ : ∃ T, perN xs i = T := ⟨_, rfl⟩
  rw [hT, hN] at hspec
  have HSP := Lib.hid hspec
  have hTN := hspec.2.1
  have HTT := Lib.hid hT
  have HWK : Hid (∀ k, walkN xs i k < N ∧ xs[walkN xs i k]? = some (walkN xs i (k + 1) : Int)) := by
    intro k
    have h1 := walkN_lt hp hi k
    have h2 := toN_lt hp h1
    exact ⟨by rw [← hN]; exact h1, h2.2⟩
  have HCELL : Hid (∀ W os', St w0 W (os' ++ os) → W.cell? ⟨p, 0, none⟩ = some (.slice a N c) ∧ Reads W (.slice a N c) (intsOf xs)) := fun W os' hW => ⟨hW.permAt (List.mem_append_right _ hm1), hW.reads (List.mem_append_right _ hm2)⟩
  have HO : Hid (∀ (W : World) (y : Int), St w0 W os → St w0 (W.alloc (.cells #[.int .i64 y] 3)) (rowT 3 (.slice (some ⟨W.heap.size, 0, none⟩) 1 1) (intsOf [y]) :: os)) := by
    intro W y hW
    exact hW.newRow ((Keeps.refl _ _).alloc _) (World.ownsRow_lit (base := W.heap.size) (e := 3) (size := 1) W #[.int .i64 y] 1 (Nat.le_refl _) (by decide) (by simp))
  have hiN : i < N := by rw [← hN]; exact hi
  obtain ⟨hc0, hr0⟩ := HCELL.out w [] h
  have HLEN := Lib.hid (permLen_any hc0)
  obtain ⟨ao, cp, he, hcp, hm, _, hcc⟩ := hr0
  simp only [Value.slice.injEq] at he
  obtain ⟨rfl, hq9, rfl⟩ := he
  clear hq9
  rcases hcc with hcc | ⟨g, off, rfl, hcc⟩
  · exfalso
    have : xs.length = 0 := by rw [← intsOf_len, hcc]; rfl
    omega
  have hcm2 : c ≤ 9223372036854775807 := by unfold maxLen at hm; omega
  have HAT : Hid (∀ W os', St w0 W (os' ++ os) → W.cell? ⟨p, 0, none⟩ = some (.slice (some ⟨g, off, none⟩) N c) ∧ ∀ k, W.cell? ⟨g, off + walkN xs i k, none⟩ = some (.int .i64 (walkN xs i (k + 1) : Nat))) := by
    intro W os' hW
    obtain ⟨h1, h2⟩ := HCELL.out W os' hW
    refine ⟨h1, fun k => ?_⟩
    obtain ⟨ao, cp, he, _, _, _, hcc⟩ := h2
    simp only [Value.slice.injEq] at he
    obtain ⟨rfl, _, rfl⟩ := he
    rcases hcc with hcc | ⟨g2, off2, hg, hcc⟩
    · exfalso
      have : xs.length = 0 := by rw [← intsOf_len, hcc]; rfl
      omega
    · cases hg
      exact hcc _ _ (by simp only [intsOf, List.getElem?_map, (HWK.out k).2]; rfl)
  have H := Lib.hid h
  clear hcc hT hspec hm1 hm2 hp hi hN h hm HCELL hcm hcp
  have dN : decide ((N : Int) ≤ (i : Int)) = false := decide_eq_false (by omega)
  have dN2 : decide (N ≤ i) = false := decide_eq_false (by omega)
  have di : decide ((i : Int) < 0) = false := decide_eq_false (by omega)
  have ci : w.cell? ⟨g, off + i, none⟩ = some (.int .i64 (walkN xs i 1 : Nat)) := (HAT.out w [] H.out).2 0
  have S1 := Lib.hid (HO.out w i H.out)
  have ci2 : (w.alloc (.cells #[.int .i64 (i : Nat)] 3)).cell? ⟨g, off + i, none⟩ = some (.int .i64 (walkN xs i 1 : Nat)) := (HAT.out _ [_] S1.out).2 0
  have hc2 : (w.alloc (.cells #[.int .i64 (i : Nat)] 3)).cell? ⟨p, 0, none⟩ = some (.slice (some ⟨g, off, none⟩) N c) := (HAT.out _ [_] S1.out).1
  go_enter Try.func18, Try.ntmps18
  go_wp2_with fail
  refine HLEN.out.mono ?_
  rintro e w1 ⟨rfl, rfl⟩
  clear HLEN H hc0 ci
  go_wp2_with fail
  try rw [dN2]
  go_loopw [5, 6] (fun ov xv wr => ∃ k : Nat, k + 1 ≤ T ∧ xv = .int .i64 (walkN xs i (k + 1) : Nat) ∧ St w0 wr (rowT 3 ov (intsOf (natsI ((List.range (k + 1)).map (walkN xs i)))) :: os)) (fun ov _ _ => T + 1 - sliceLen ov)
  case atStart => exact ⟨0, by have := HSP.out.1; omega, rfl, S1.out⟩
  case round =>
    obtain ⟨k, hk, rfl, hS⟩ := hrel
    obtain ⟨ao, co, rfl, _, _⟩ := ownsRow_slice hS.row
    rw [intsOf_len, natsI_len, List.length_map, List.length_range] at hS ⊢
    obtain ⟨Lk, hLk⟩ : ∃ Lk, (List.range (k + 1)).map (walkN xs i) = Lk := ⟨_, rfl⟩
    rw [hLk] at hS
    have HLK := Lib.hid hLk
    have HS := Lib.hid hS
    clear hS S1 ci2 hc2 hLk
    obtain ⟨x, hx⟩ : ∃ x, walkN xs i (k + 1) = x := ⟨_, rfl⟩
    have hxN := (HWK.out (k + 1)).1
    obtain ⟨d1, d2⟩ := HAT.out wr [_] HS.out
    have d3 := d2 (k + 1)
    rw [hx] at hxN d3 ⊢
    have HX := Lib.hid hx
    clear hx d2
    by_cases hxi : x = i
    · have hkT : k + 1 = T := by
        apply Classical.byContradiction
        intro hne
        exact HSP.out.2.2.2 (k + 1) (by omega) (by omega) (by rw [HX.out]; exact hxi)
      have HKT := Lib.hid hkT
      have HORB : Hid (Lk = orbN xs i) := by show _ = _; unfold orbN; rw [HTT.out, ← HKT.out]; exact HLK.out.symm
      subst hxi
      clear hkT
      go_wp2_with fail
      go_ret
      exact ⟨_, rfl, by rw [← HORB.out]; exact HS.out⟩
    · have hkT : k + 1 < T := by
        apply Classical.byContradiction
        intro hne
        have : k + 1 = T := by omega
        exact hxi (by rw [← HX.out, this]; exact HSP.out.2.2.1)
      have dx : ((x : Int) != (i : Int)) = true := bne_iff_ne.2 (by omega)
      have HR1 := Lib.hid (fun (w1 : World) (y : Int) => Reads.made w1 #[.int .i64 y] 3 (0, 0) 1 (by simp) (by decide))
      have HLN : Hid ((intsOf (natsI Lk)).length = k + 1) := by show _ = _; rw [intsOf_len, natsI_len, ← HLK.out]; simp
      obtain ⟨L2, hL2⟩ : ∃ L2, (List.range (k + 1 + 1)).map (walkN xs i) = L2 := ⟨_, rfl⟩
      have HL2 := Lib.hid hL2
      have HE : Hid (intsOf (natsI Lk) ++ [.int .i64 (x : Nat)] = intsOf (natsI L2)) := by
        show _ = _
        rw [← hL2, range_snoc (walkN xs i) (k + 1), HX.out, HLK.out]
        simp [natsI, intsOf]
      have hl2 : L2.length = k + 1 + 1 := by rw [← hL2]; simp
      clear hL2
      have hk6 : k ≤ 1000000 := by omega
      go_wp2_with (at_builtin; refine wpList_append_st rfl _ _ 24 rfl 3 i0 (.int .i64 0) 8 Try.underlying24 hii hz0 hz1 hz2 rfl _ _ _ [.int .i64 (x : Nat)] rfl (by first | rfl | simp) (HS.out.alloc _) (HR1.out _ _) (one_oneCell' _ rfl) ?c1 ?c2 ?_)
      case c1 => simp only [HLN.out, List.length_cons, List.length_nil]; unfold maxLen; omega
      case c2 => simp only [HLN.out, List.length_cons, List.length_nil]; omega
      intro v3 w3 h3
      rw [HE.out] at h3
      obtain ⟨a3, c3, rfl, _, _⟩ := ownsRow_slice h3.row
      rw [intsOf_len, natsI_len, hl2] at h3 ⊢
      clear hl2
      have S3 := Lib.hid h3
      obtain ⟨f1, f2⟩ := HAT.out w3 [_] S3.out
      have f3 := f2 (k + 1)
      rw [HX.out] at f3
      clear h3 HS d1 d3 f2 HE
      go_wp2_with fail
      go_roundw
      case rel =>
        exact ⟨k + 1, by omega, by go_num, by rw [HL2.out]; exact S3.out⟩
      case measure => simp [sliceLen]; omega

set_option maxRecDepth 100000 in
set_option maxHeartbeats 4000000 in
theorem refOrbit_any {w0 w : World} {os : List Thing} (h : St w0 w os) (sv : Value) (xs : List Int) (hv : ∀ w' os', St w0 w' (os' ++ os) → Reads w' sv (intsOf xs)) (hp : IsPerm xs) (hl : xs.length ≤ 1000000) (i : Nat) (hi : i < xs.length) :
    Calls Try.prog 16 #[sv, .int .i64 i] w fun e w' => ∃ v', e = .returned v' ∧ St w0 w' (rowT 3 v' (intsOf (natsI (orbN xs i))) :: os) := by
  obtain ⟨i0, hii, hz0, hz1, hz2⟩ := info_parts info_i64
  obtain ⟨a, c, rfl, hlc, hcm, _, _⟩ := hv w [] h
  rw [intsOf_len] at *
  obtain ⟨N, hN⟩ : ∃ N, xs.length = N := ⟨_, rfl⟩
  rw [hN] at hv hlc hl ⊢
  have hspec := perN_spec hp hi
  obtain ⟨T, hT⟩ : ∃ T, perN xs i = T := ⟨_, rfl⟩
  rw [hT, hN] at hspec
  have HSP := Lib.hid hspec
  have hTN := hspec.2.1
  have HTT := Lib.hid hT
  have HWK : Hid (∀ k, walkN xs i k < N ∧ xs[walkN xs i k]? = some (walkN xs i (k + 1) : Int)) := by
    intro k
    have h1 := walkN_lt hp hi k
    have h2 := toN_lt hp h1
    exact ⟨by rw [← hN]; exact h1, h2.2⟩
  have HCELL : Hid (∀ W os', St w0 W (os' ++ os) → Reads W (.slice a N c) (intsOf xs)) := fun W os' hW => hv W os' hW
  have HO : Hid (∀ (W : World) (y : Int), St w0 W os → St w0 (W.alloc (.cells #[.int .i64 y] 3)) (rowT 3 (.slice (some ⟨W.heap.size, 0, none⟩) 1 1) (intsOf [y]) :: os)) := by
    intro W y hW
    exact hW.newRow ((Keeps.refl _ _).alloc _) (World.ownsRow_lit (base := W.heap.size) (e := 3) (size := 1) W #[.int .i64 y] 1 (Nat.le_refl _) (by decide) (by simp))
  have hiN : i < N := by rw [← hN]; exact hi
  have hr0 := HCELL.out w [] h
  obtain ⟨ao, cp, he, hcp, hm, _, hcc⟩ := hr0
  simp only [Value.slice.injEq] at he
  obtain ⟨rfl, hq9, rfl⟩ := he
  clear hq9
  rcases hcc with hcc | ⟨g, off, rfl, hcc⟩
  · exfalso
    have : xs.length = 0 := by rw [← intsOf_len, hcc]; rfl
    omega
  have hcm2 : c ≤ 9223372036854775807 := by unfold maxLen at hm; omega
  have HAT : Hid (∀ W os', St w0 W (os' ++ os) → ∀ k, W.cell? ⟨g, off + walkN xs i k, none⟩ = some (.int .i64 (walkN xs i (k + 1) : Nat))) := by
    intro W os' hW
    have h2 := HCELL.out W os' hW
    intro k
    obtain ⟨ao, cp, he, _, _, _, hcc⟩ := h2
    simp only [Value.slice.injEq] at he
    obtain ⟨rfl, _, rfl⟩ := he
    rcases hcc with hcc | ⟨g2, off2, hg, hcc⟩
    · exfalso
      have : xs.length = 0 := by rw [← intsOf_len, hcc]; rfl
      omega
    · cases hg
      exact hcc _ _ (by simp only [intsOf, List.getElem?_map, (HWK.out k).2]; rfl)
  have H := Lib.hid h
  clear hcc hT hspec hv hp hi hN h hm HCELL hcm hcp
  have dN : decide ((N : Int) ≤ (i : Int)) = false := decide_eq_false (by omega)
  have dN2 : decide (N ≤ i) = false := decide_eq_false (by omega)
  have di : decide ((i : Int) < 0) = false := decide_eq_false (by omega)
  have ci : w.cell? ⟨g, off + i, none⟩ = some (.int .i64 (walkN xs i 1 : Nat)) := HAT.out w [] H.out 0
  have S1 := Lib.hid (HO.out w i H.out)
  have ci2 : (w.alloc (.cells #[.int .i64 (i : Nat)] 3)).cell? ⟨g, off + i, none⟩ = some (.int .i64 (walkN xs i 1 : Nat)) := HAT.out _ [_] S1.out 0
  go_enter Try.func16, Try.ntmps16
  go_wp2_with fail
  clear H ci
  try rw [dN2]
  go_loopw [5, 6] (fun ov xv wr => ∃ k : Nat, k + 1 ≤ T ∧ xv = .int .i64 (walkN xs i (k + 1) : Nat) ∧ St w0 wr (rowT 3 ov (intsOf (natsI ((List.range (k + 1)).map (walkN xs i)))) :: os)) (fun ov _ _ => T + 1 - sliceLen ov)
  case atStart => exact ⟨0, by have := HSP.out.1; omega, rfl, S1.out⟩
  case round =>
    obtain ⟨k, hk, rfl, hS⟩ := hrel
    obtain ⟨ao, co, rfl, _, _⟩ := ownsRow_slice hS.row
    rw [intsOf_len, natsI_len, List.length_map, List.length_range] at hS ⊢
    obtain ⟨Lk, hLk⟩ : ∃ Lk, (List.range (k + 1)).map (walkN xs i) = Lk := ⟨_, rfl⟩
    rw [hLk] at hS
    have HLK := Lib.hid hLk
    have HS := Lib.hid hS
    clear hS S1 ci2 hLk
    obtain ⟨x, hx⟩ : ∃ x, walkN xs i (k + 1) = x := ⟨_, rfl⟩
    have hxN := (HWK.out (k + 1)).1
    have d2 := HAT.out wr [_] HS.out
    have d3 := d2 (k + 1)
    rw [hx] at hxN d3 ⊢
    have HX := Lib.hid hx
    clear hx d2
    by_cases hxi : x = i
    · have hkT : k + 1 = T := by
        apply Classical.byContradiction
        intro hne
        exact HSP.out.2.2.2 (k + 1) (by omega) (by omega) (by rw [HX.out]; exact hxi)
      have HKT := Lib.hid hkT
      have HORB : Hid (Lk = orbN xs i) := by show _ = _; unfold orbN; rw [HTT.out, ← HKT.out]; exact HLK.out.symm
      subst hxi
      clear hkT
      go_wp2_with fail
      go_ret
      exact ⟨_, rfl, by rw [← HORB.out]; exact HS.out⟩
    · have hkT : k + 1 < T := by
        apply Classical.byContradiction
        intro hne
        have : k + 1 = T := by omega
        exact hxi (by rw [← HX.out, this]; exact HSP.out.2.2.1)
      have dx : ((x : Int) != (i : Int)) = true := bne_iff_ne.2 (by omega)
      have HR1 := Lib.hid (fun (w1 : World) (y : Int) => Reads.made w1 #[.int .i64 y] 3 (0, 0) 1 (by simp) (by decide))
      have HLN : Hid ((intsOf (natsI Lk)).length = k + 1) := by show _ = _; rw [intsOf_len, natsI_len, ← HLK.out]; simp
      obtain ⟨L2, hL2⟩ : ∃ L2, (List.range (k + 1 + 1)).map (walkN xs i) = L2 := ⟨_, rfl⟩
      have HL2 := Lib.hid hL2
      have HE : Hid (intsOf (natsI Lk) ++ [.int .i64 (x : Nat)] = intsOf (natsI L2)) := by
        show _ = _
        rw [← hL2, range_snoc (walkN xs i) (k + 1), HX.out, HLK.out]
        simp [natsI, intsOf]
      have hl2 : L2.length = k + 1 + 1 := by rw [← hL2]; simp
      clear hL2
      have hk6 : k ≤ 1000000 := by omega
      go_wp2_with (at_builtin; refine wpList_append_st rfl _ _ 24 rfl 3 i0 (.int .i64 0) 8 Try.underlying24 hii hz0 hz1 hz2 rfl _ _ _ [.int .i64 (x : Nat)] rfl (by first | rfl | simp) (HS.out.alloc _) (HR1.out _ _) (one_oneCell' _ rfl) ?c1 ?c2 ?_)
      case c1 => simp only [HLN.out, List.length_cons, List.length_nil]; unfold maxLen; omega
      case c2 => simp only [HLN.out, List.length_cons, List.length_nil]; omega
      intro v3 w3 h3
      rw [HE.out] at h3
      obtain ⟨a3, c3, rfl, _, _⟩ := ownsRow_slice h3.row
      rw [intsOf_len, natsI_len, hl2] at h3 ⊢
      clear hl2
      have S3 := Lib.hid h3
      have f2 := HAT.out w3 [_] S3.out
      have f3 := f2 (k + 1)
      rw [HX.out] at f3
      clear h3 HS d3 f2 HE
      go_wp2_with fail
      go_roundw
      case rel =>
        exact ⟨k + 1, by omega, by go_num, by rw [HL2.out]; exact S3.out⟩
      case measure => simp [sliceLen]; omega
end Go.Proofs.Ytongakmljbebfaa

