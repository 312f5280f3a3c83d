/- The walk of PermThen. -/
import Derived.Test.YtongakmljbebfaaOrbitsWalk
import Derived.Test.YtongakmljbebfaaNilPm
import Derived.Deep.RegionHeld3
namespace Go.Proofs.Ytongakmljbebfaa
open Go.RowKit

theorem St.rot7 {w0 w : World} {os : List Thing} {a b c d e f g : Thing} (h : St w0 w (a :: b :: c :: d :: e :: f :: g :: os)) : St w0 w (g :: a :: b :: c :: d :: e :: f :: os) := h.perm (List.perm_middle (l₁ := [a, b, c, d, e, f]))
theorem sinkP {α : Type} (D a b c C : List α) : (D ++ (a ++ (b ++ (c ++ C)))).Perm (a ++ (b ++ (c ++ (D ++ C)))) :=
  (List.perm_append_comm_assoc D a _).trans (List.Perm.append_left a ((List.perm_append_comm_assoc D b _).trans (List.Perm.append_left b (List.perm_append_comm_assoc D c C))))

/-- three permutations, each turned or not, and the rest -/
def Tri (w0 W : World) (a b c C : List Thing) : Prop := St w0 W (a ++ (b ++ (c ++ C)))

section
variable {w0 w : World} {a b c C : List Thing} {p q u : Nat} {vp vq vu : Value} {xs ys zs : List Int}

theorem vA (ht : Turned p vp xs a) (hm : rowT 3 vp (intsOf xs) ∈ C) : PermV w0 (a ++ (b ++ (c ++ C))) p vp xs :=
  ht.perm (List.mem_append_right _ (List.mem_append_right _ hm))
theorem vB (ht : Turned q vq ys b) (hm : rowT 3 vq (intsOf ys) ∈ C) : PermV w0 (a ++ (b ++ (c ++ C))) q vq ys :=
  (PermV.more (os := b ++ (c ++ C)) (ht.perm (List.mem_append_right _ hm)) a)
theorem vC (ht : Turned u vu zs c) (hm : rowT 3 vu (intsOf zs) ∈ C) : PermV w0 (a ++ (b ++ (c ++ C))) u vu zs :=
  (PermV.more (os := b ++ (c ++ C)) (PermV.more (os := c ++ C) (ht.perm hm) b) a)
theorem vO {r : Nat} {v : Value} {l : List Int} (h1 : cellT r (permObj v) ∈ C) (h2 : rowT 3 v (intsOf l) ∈ C) : PermV w0 (a ++ (b ++ (c ++ C))) r v l :=
  PermV.of (List.mem_append_right _ (List.mem_append_right _ (List.mem_append_right _ h1))) (List.mem_append_right _ (List.mem_append_right _ (List.mem_append_right _ h2)))

theorem thenT (h : Tri w0 w a b c C) (hp : PermV w0 (a ++ (b ++ (c ++ C))) p vp xs) (hq : PermV w0 (a ++ (b ++ (c ++ C))) q vq ys) (hpx : IsPerm xs) (hpy : IsPerm ys) (hl : xs.length = ys.length) (hN : xs.length ≤ 1000000) :
    Calls Try.prog 21 #[.pointer (some ⟨p, 0, none⟩), .pointer (some ⟨q, 0, none⟩)] w fun e w' => ∃ r v', e = .returned (.tuple #[.pointer (some ⟨r, 0, none⟩), .int .i64 0]) ∧ Tri w0 w' a b c (cellT r (permObj v') :: rowT 3 v' (intsOf (thenL xs ys)) :: C) := by
  refine (permThen_any h p q vp vq xs ys hp hq hpx hpy hl hN).mono ?_
  rintro e w' ⟨r, v', rfl, h2⟩
  exact ⟨r, v', rfl, h2.perm (sinkP [cellT r (permObj v'), rowT 3 v' (intsOf (thenL xs ys))] a b c C)⟩

theorem sameT (h : Tri w0 w a b c C) (hp : PermV w0 (a ++ (b ++ (c ++ C))) p vp xs) (hq : PermV w0 (a ++ (b ++ (c ++ C))) q vq ys) (hl : xs.length ≤ 1000000) (he : xs = ys) :
    Calls Try.prog 20 #[.pointer (some ⟨p, 0, none⟩), .pointer (some ⟨q, 0, none⟩)] w fun e w' => e = .returned (.bool true) ∧ Tri w0 w' a b c C := by
  subst he
  refine (permSame_any h p q vp vq xs xs hp hq hl hl).mono ?_
  rintro e w' ⟨rfl, h2⟩
  exact ⟨by simp, h2⟩

theorem invA (h : Tri w0 w a b c C) (ht : Turned p vp xs a) (hm : rowT 3 vp (intsOf xs) ∈ C) (hpx : IsPerm xs) (hl : xs.length ≤ 1000000) :
    Calls Try.prog 29 #[.pointer (some ⟨p, 0, none⟩)] w fun e w' => ∃ a' r v', e = .returned (.pointer (some ⟨r, 0, none⟩)) ∧ Turned p vp xs a' ∧ Tri w0 w' a' b c (cellT r (permObj v') :: rowT 3 v' (intsOf (invL xs)) :: C) := by
  refine (permInverse_any p vp xs h ht (List.mem_append_right _ (List.mem_append_right _ hm)) hpx hl).mono ?_
  rintro e w' ⟨f, r, v', rfl, h2⟩
  exact ⟨_, r, v', rfl, Turned.yes p vp f xs, h2.perm (sinkP [cellT r (permObj v'), rowT 3 v' (intsOf (invL xs))] [cellT p (permFull vp 1 0 0 f), rowT 3 f (intsOf (invL xs))] b c C)⟩
theorem Tri.ab (h : Tri w0 w a b c C) : Tri w0 w b a c C := St.perm h (List.perm_append_comm_assoc a b _)
theorem Tri.bc (h : Tri w0 w a b c C) : Tri w0 w a c b C := St.perm h (List.Perm.append_left a (List.perm_append_comm_assoc b c _))
theorem invB (h : Tri w0 w a b c C) (ht : Turned q vq ys b) (hm : rowT 3 vq (intsOf ys) ∈ C) (hpx : IsPerm ys) (hl : ys.length ≤ 1000000) :
    Calls Try.prog 29 #[.pointer (some ⟨q, 0, none⟩)] w fun e w' => ∃ b' r v', e = .returned (.pointer (some ⟨r, 0, none⟩)) ∧ Turned q vq ys b' ∧ Tri w0 w' a b' c (cellT r (permObj v') :: rowT 3 v' (intsOf (invL ys)) :: C) := by
  refine (invA h.ab ht hm hpx hl).mono ?_
  rintro e w' ⟨b', r, v', rfl, ht', h2⟩
  exact ⟨b', r, v', rfl, ht', h2.ab⟩
theorem invC (h : Tri w0 w a b c C) (ht : Turned u vu zs c) (hm : rowT 3 vu (intsOf zs) ∈ C) (hpx : IsPerm zs) (hl : zs.length ≤ 1000000) :
    Calls Try.prog 29 #[.pointer (some ⟨u, 0, none⟩)] w fun e w' => ∃ c' r v', e = .returned (.pointer (some ⟨r, 0, none⟩)) ∧ Turned u vu zs c' ∧ Tri w0 w' a b c' (cellT r (permObj v') :: rowT 3 v' (intsOf (invL zs)) :: C) := by
  refine (invB h.bc ht hm hpx hl).mono ?_
  rintro e w' ⟨c', r, v', rfl, ht', h2⟩
  exact ⟨c', r, v', rfl, ht', h2.bc⟩
/-- the inverse of one that has just come -/
theorem invN {r : Nat} {v : Value} {l : List Int} (h : Tri w0 w a b c (cellT r (permObj v) :: rowT 3 v (intsOf l) :: C)) (hpl : IsPerm l) (hl : l.length ≤ 1000000) :
    Calls Try.prog 29 #[.pointer (some ⟨r, 0, none⟩)] w fun e w' => ∃ s v', e = .returned (.pointer (some ⟨s, 0, none⟩)) ∧ Tri w0 w' a b c (cellT s (permObj v') :: rowT 3 v' (intsOf (invL l)) :: rowT 3 v (intsOf l) :: C) := by
  have h1 : St w0 w ([cellT r (permObj v)] ++ (a ++ (b ++ (c ++ (rowT 3 v (intsOf l) :: C))))) := St.perm h (sinkP [cellT r (permObj v)] a b c (rowT 3 v (intsOf l) :: C)).symm
  refine (permInverse_any r v l h1 (Turned.no r v l) (List.mem_append_right _ (List.mem_append_right _ (List.mem_append_right _ (List.mem_cons_self ..)))) hpl hl).mono ?_
  rintro e w' ⟨f, s, v', rfl, h2⟩
  refine ⟨s, v', rfl, ?_⟩
  have h3 : St w0 w' ([cellT s (permObj v'), rowT 3 v' (intsOf (invL l))] ++ (a ++ (b ++ (c ++ (rowT 3 v (intsOf l) :: C))))) := by
    have := h2.rot3.tail
    exact (this.rot3).tail
  exact h3.perm (sinkP [cellT s (permObj v'), rowT 3 v' (intsOf (invL l))] a b c (rowT 3 v (intsOf l) :: C))
end

set_option maxRecDepth 100000 in
set_option maxHeartbeats 4000000 in
theorem permThen_walk (a0 : Int) (a1 : Int) (a2 : Option Addr) (len2 cap2 : Nat) (z2 : List Int) (a3 : Option Addr) (len3 cap3 : Nat) (z3 : List Int) (a4 : Option Addr) (len4 cap4 : Nat) (z4 : List Int) (w : World) (w0 : (Lit.int .u8 a0).wf = true) (w1 : (Lit.int .u8 a1).wf = true) (w2 : IsRow .u8 w a2 len2 cap2 z2) (w3 : IsRow .u8 w a3 len3 cap3 z3) (w4 : IsRow .u8 w a4 len4 cap4 z4) :
    Calls Try.prog 6 #[.int .u8 a0, .int .u8 a1, .slice a2 len2 cap2, .slice a3 len3 cap3, .slice a4 len4 cap4] w fun e w' => e = .returned (.bool true) ∧ Below w.heap.size w w' := by
  obtain ⟨A8, e0, hp8, R0, m0⟩ := w2.bytes
  obtain ⟨B8, e1, hq8, R1, m1⟩ := w3.bytes
  obtain ⟨C8, e2, hr8, R2, m2⟩ := w4.bytes
  have HR0 := Lib.hid R0
  have HR1 := Lib.hid R1
  have HR2 := Lib.hid R2
  have HP8 := Lib.hid (And.intro hp8 (And.intro hq8 hr8))
  obtain ⟨n, rfl⟩ : ∃ n : Nat, a0 = n := ⟨a0.toNat, by have := wf_u8 w0; omega⟩
  obtain ⟨m, rfl⟩ : ∃ n : Nat, a1 = n := ⟨a1.toNat, by have := wf_u8 w1; omega⟩
  have hn : n < 256 := by have := wf_u8 w0; omega
  have hm : m < 256 := by have := wf_u8 w1; omega
  clear w0 w1 w2 w3 w4 m0 m1 m2 R0 R1 R2 hp8 hq8 hr8 e0 e1 e2
  have HAW := Lib.hid (awake05_any (St.start w))
  go_enter Try.func6, Try.ntmps6
  go_wp2_with fail
  refine HAW.out.mono ?_
  rintro e w2 ⟨rfl, h2⟩
  obtain ⟨k, hk⟩ : ∃ N, n % 15 = N := ⟨_, rfl⟩
  obtain ⟨j, hj⟩ : ∃ N, m % 15 = N := ⟨_, rfl⟩
  have hk15 : k < 15 := by omega
  have hj15 : j < 15 := by omega
  have htk : ((n : Nat) : Int).tmod 15 = (k : Int) := by rw [Int.tmod_eq_emod_of_nonneg (by omega)]; omega
  have htj : ((m : Nat) : Int).tmod 15 = (j : Int) := by rw [Int.tmod_eq_emod_of_nonneg (by omega)]; omega
  have HMX := Lib.hid (refMix_any h2 k (by omega) (.slice a2 len2 cap2) A8 (fun W os' hW => hW.arg HR0.out) HP8.out.1)
  clear h2 HAW hn hm hk hj
  go_wp2_with fail
  refine HMX.out.mono ?_
  rintro e w3 ⟨v3, xs, rfl, hip, hxl, h3⟩
  have HIX := Lib.hid hip
  have HXL := Lib.hid hxl
  have HMY := Lib.hid (refMix_any h3 j (by omega) (.slice a3 len3 cap3) B8 (fun W os' hW => hW.arg HR1.out) HP8.out.2.1)
  clear h3 HMX hip hxl
  go_wp2_with fail
  refine HMY.out.mono ?_
  rintro e w4 ⟨v4, ys, rfl, hip, hxl, h4⟩
  have HIY := Lib.hid hip
  have HYL := Lib.hid hxl
  have HMZ := Lib.hid (refMix_any h4 j (by omega) (.slice a4 len4 cap4) C8 (fun W os' hW => hW.arg HR2.out) HP8.out.2.2)
  clear h4 HMY hip hxl
  go_wp2_with fail
  refine HMZ.out.mono ?_
  rintro e w5 ⟨v5, zs, rfl, hip, hxl, h5⟩
  have HIZ := Lib.hid hip
  have HZL := Lib.hid hxl
  have HOX := Lib.hid (permOf_any h5 v3 xs (by rw [HXL.out]; omega) (fun W os' hW => hW.reads (E := 3) (by simp)))
  clear h5 HMZ hip hxl
  go_wp2_with fail
  refine HOX.out.mono ?_
  rintro e w6 (⟨_, p, vp, rfl, h6⟩ | ⟨hn, _⟩)
  rotate_left
  · exact absurd HIX.out hn
  have HOY := Lib.hid (permOf_any h6 v4 ys (by rw [HYL.out]; omega) (fun W os' hW => hW.reads (E := 3) (by simp)))
  clear h6 HOX
  go_wp2_with fail
  refine HOY.out.mono ?_
  rintro e w7 (⟨_, q, vq, rfl, h7⟩ | ⟨hn, _⟩)
  rotate_left
  · exact absurd HIY.out hn
  have HOZ := Lib.hid (permOf_any h7 v5 zs (by rw [HZL.out]; omega) (fun W os' hW => hW.reads (E := 3) (by simp)))
  clear h7 HOY
  go_wp2_with fail
  refine HOZ.out.mono ?_
  rintro e w8 (⟨_, t, vt, rfl, h8⟩ | ⟨hn, _⟩)
  rotate_left
  · exact absurd HIZ.out hn
  have H8 := Lib.hid h8
  clear HOZ h8
  by_cases hkj : k = j
  · subst hkj
    have hpv : PermV w _ p vp xs := PermV.of (os := [cellT t (permObj vt), rowT 3 vt (intsOf zs), cellT q (permObj vq), rowT 3 vq (intsOf ys), cellT p (permObj vp), rowT 3 vp (intsOf xs), rowT 3 v5 (intsOf zs), rowT 3 v4 (intsOf ys), rowT 3 v3 (intsOf xs)]) (by simp) (by simp)
    have hqv : PermV w _ q vq ys := PermV.of (os := [cellT t (permObj vt), rowT 3 vt (intsOf zs), cellT q (permObj vq), rowT 3 vq (intsOf ys), cellT p (permObj vp), rowT 3 vp (intsOf xs), rowT 3 v5 (intsOf zs), rowT 3 v4 (intsOf ys), rowT 3 v3 (intsOf xs)]) (by simp) (by simp)
    have HTH := Lib.hid (permThen_any H8.out p q vp vq xs ys hpv hqv HIX.out HIY.out (by rw [HXL.out, HYL.out]) (by rw [HXL.out]; omega))
    clear hpv hqv H8
    go_wp2_with fail
    refine HTH.out.mono ?_
    rintro e w9 ⟨u, vu, rfl, h9⟩
    have hIU := thenL_perm HIX.out HIY.out (by rw [HXL.out, HYL.out])
    have hUL : (thenL xs ys).length = k := by rw [thenL_len, HXL.out]
    obtain ⟨us, hus⟩ : ∃ us, thenL xs ys = us := ⟨_, rfl⟩
    rw [hus] at h9 hIU hUL
    have HIU := Lib.hid hIU
    have HUL := Lib.hid hUL
    have HUS := Lib.hid hus
    have T9 : Hid (Tri w w9 [cellT p (permObj vp)] [cellT q (permObj vq)] [cellT u (permObj vu)] [rowT 3 vu (intsOf us), cellT t (permObj vt), rowT 3 vt (intsOf zs), rowT 3 vq (intsOf ys), rowT 3 vp (intsOf xs), rowT 3 v5 (intsOf zs), rowT 3 v4 (intsOf ys), rowT 3 v3 (intsOf xs)]) := h9.rot5.rot7
    obtain ⟨av, cv, rfl, j1, j2⟩ := ownsRow_slice (h9.ok (o := rowT 3 v3 (intsOf xs)) (by simp))
    obtain ⟨bv, dv, rfl, j3, j4⟩ := ownsRow_slice (h9.ok (o := rowT 3 v4 (intsOf ys)) (by simp))
    obtain ⟨C, hC⟩ : ∃ C, [rowT 3 vu (intsOf us), cellT t (permObj vt), rowT 3 vt (intsOf zs), rowT 3 vq (intsOf ys), rowT 3 vp (intsOf xs), rowT 3 v5 (intsOf zs), rowT 3 (.slice bv (intsOf ys).length dv) (intsOf ys), rowT 3 (.slice av (intsOf xs).length cv) (intsOf xs)] = C := ⟨_, rfl⟩
    have MU : Hid (rowT 3 vu (intsOf us) ∈ C) := by show _ ∈ _; rw [← hC]; simp
    have MT : Hid (cellT t (permObj vt) ∈ C ∧ rowT 3 vt (intsOf zs) ∈ C) := by show _ ∧ _; rw [← hC]; simp
    have MQ : Hid (rowT 3 vq (intsOf ys) ∈ C) := by show _ ∈ _; rw [← hC]; simp
    have MP : Hid (rowT 3 vp (intsOf xs) ∈ C) := by show _ ∈ _; rw [← hC]; simp
    have MX : Hid (rowT 3 (.slice av (intsOf xs).length cv) (intsOf xs) ∈ C) := by show _ ∈ _; rw [← hC]; simp
    have MY : Hid (rowT 3 (.slice bv (intsOf ys).length dv) (intsOf ys) ∈ C) := by show _ ∈ _; rw [← hC]; simp
    rw [hC] at T9
    rw [intsOf_len, HXL.out] at MX ⊢
    rw [intsOf_len, HYL.out] at MY ⊢
    clear h9 HTH hC hIU hUL hus j1 j2 j3 j4
    go_wp2_with fail
    go_loopw [84] (fun iv wr => ∃ i : Nat, i ≤ k ∧ iv = .int .i64 i ∧ Tri w wr [cellT p (permObj vp)] [cellT q (permObj vq)] [cellT u (permObj vu)] C) (fun iv _ => k - (intOf iv).toNat)
    case atStart => exact ⟨0, by omega, rfl, T9.out⟩
    case round =>
      obtain ⟨i, hi, rfl, hS⟩ := hrel
      have HS := Lib.hid hS
      clear hS T9
      by_cases hlt : i < k
      · have hix : i < xs.length := by rw [HXL.out]; exact hlt
        obtain ⟨hx1, hx2⟩ := toN_lt HIX.out hix
        obtain ⟨x, hx⟩ : ∃ x, toN xs i = x := ⟨_, rfl⟩
        rw [hx] at hx1 hx2
        have hxk : x < k := by rw [← HXL.out]; exact hx1
        have hxy : x < ys.length := by rw [HYL.out]; exact hxk
        obtain ⟨hy1, hy2⟩ := toN_lt HIY.out hxy
        obtain ⟨y, hy⟩ : ∃ y, toN ys x = y := ⟨_, rfl⟩
        rw [hy] at hy1 hy2
        have hui : us[i]? = some (y : Int) := by
          rw [← HUS.out, ← hy, ← hx]
          exact mapL_get (fun i => toN ys (toN xs i)) hix
        have hpv := (vC (w0 := w) (a := [cellT p (permObj vp)]) (b := [cellT q (permObj vq)]) (Turned.no u vu us) MU.out)
        have hcu := (hpv _ [] (St.drew HS.out)).1
        have hru := (hpv _ [] (St.drew HS.out)).2
        obtain ⟨au, cu, rfl, j1, j2, j3, j4⟩ := hru
        rw [intsOf_len, HUL.out] at hcu
        have hru := (hpv _ [] (St.drew HS.out)).2
        rw [intsOf_len, HUL.out] at hru
        have HAT := Lib.hid (permAt_in hcu us HUL.out hru i hlt (y : Int) hui)
        obtain ⟨a8, c8, he8, q1, q2, q3, hc8⟩ := St.reads (E := 3) (v := .slice av k cv) (xs := intsOf xs) HS.out (List.mem_append_right _ (List.mem_append_right _ (List.mem_append_right _ MX.out)))
        simp only [Value.slice.injEq] at he8
        obtain ⟨rfl, hq8, rfl⟩ := he8
        have hv8 : (intsOf xs)[i]? = some (.int .i64 x) := by simp only [intsOf, List.getElem?_map, hx2]; rfl
        rcases hc8 with hc8 | ⟨pb, po, rfl, hc8⟩
        · rw [hc8] at hv8; simp at hv8
        have cx := hc8 i _ hv8
        obtain ⟨a9, c9, he9, q4, q5, q6, hc9⟩ := St.reads (E := 3) (v := .slice bv k dv) (xs := intsOf ys) HS.out (List.mem_append_right _ (List.mem_append_right _ (List.mem_append_right _ MY.out)))
        simp only [Value.slice.injEq] at he9
        obtain ⟨rfl, hq9, rfl⟩ := he9
        have hv9 : (intsOf ys)[x]? = some (.int .i64 y) := by simp only [intsOf, List.getElem?_map, hy2]; rfl
        rcases hc9 with hc9 | ⟨qb, qo, rfl, hc9⟩
        · rw [hc9] at hv9; simp at hv9
        have cy := hc9 x _ hv9
        clear hpv hcu hru j1 j2 j3 j4 hui hq8 hq9 q1 q2 q3 q4 q5 q6 hc8 hc9 hv8 hv9 hx hy hx1 hx2 hy1 hy2 hxy hix
        go_wp2_with fail
        go_region_held3 (fun w' => w'.cell? ⟨pb, po + i, none⟩ = some (.int .i64 (x : Nat)) ∧ w'.cell? ⟨qb, qo + x, none⟩ = some (.int .i64 (y : Nat))) (go_keep)
          (first | (go_at_call 25; refine HAT.out.mono ?_; rintro e w5 ⟨rfl, rfl⟩))
        have HS2 := Lib.hid (St.drew HS.out)
        clear HS
        go_wp2_with fail
        go_roundw
        case rel => exact ⟨i + 1, by omega, by go_num, HS2.out⟩
        case measure => simp [intOf]; omega
      · have hik : i = k := by omega
        have HIV := Lib.hid (invA HS.out (Turned.no p vp xs) MP.out HIX.out (by rw [HXL.out]; omega))
        clear hi HS
        go_wp2_with fail
        refine HIV.out.mono ?_
        rintro e w10 ⟨pa, p1, vp1, rfl, ht, h10⟩
        have HTP := Lib.hid ht
        have HIXI := Lib.hid (invL_perm HIX.out)
        have HT1 := Lib.hid (thenT h10 (vA HTP.out (List.mem_cons_of_mem _ (List.mem_cons_of_mem _ MP.out))) (vO (List.mem_cons_self ..) (List.mem_cons_of_mem _ (List.mem_cons_self ..))) HIX.out HIXI.out (by rw [invL_len]) (by rw [HXL.out]; omega))
        clear h10 ht HIV
        go_wp2_with fail
        refine HT1.out.mono ?_
        rintro e w11 ⟨o1, vo1, rfl, h11⟩
        rw [then_inv HIX.out, HXL.out] at h11
        have HT2 := Lib.hid (thenT h11 (vC (Turned.no u vu us) (List.mem_append_right [_, _, _, _] MU.out)) (vO (List.mem_append_right [_, _, _, _] MT.out.1) (List.mem_append_right [_, _, _, _] MT.out.2)) HIU.out HIZ.out (by rw [HUL.out, HZL.out]) (by rw [HUL.out]; omega))
        clear h11 HT1
        go_wp2_with fail
        refine HT2.out.mono ?_
        rintro e w12 ⟨o2, vo2, rfl, h12⟩
        have HT3 := Lib.hid (thenT h12 (vB (Turned.no q vq ys) (List.mem_append_right [_, _, _, _, _, _] MQ.out)) (vO (List.mem_append_right [_, _, _, _, _, _] MT.out.1) (List.mem_append_right [_, _, _, _, _, _] MT.out.2)) HIY.out HIZ.out (by rw [HYL.out, HZL.out]) (by rw [HYL.out]; omega))
        clear h12 HT2
        go_wp2_with fail
        refine HT3.out.mono ?_
        rintro e w13 ⟨o3, vo3, rfl, h13⟩
        have HI3 := Lib.hid (thenL_perm HIY.out HIZ.out (by rw [HYL.out, HZL.out]))
        have HT4 := Lib.hid (thenT h13 (vA HTP.out (List.mem_append_right [_, _, _, _, _, _, _, _] MP.out)) (vO (List.mem_cons_self ..) (List.mem_cons_of_mem _ (List.mem_cons_self ..))) HIX.out HI3.out (by rw [thenL_len, HXL.out, HYL.out]) (by rw [HXL.out]; omega))
        clear h13 HT3
        go_wp2_with fail
        refine HT4.out.mono ?_
        rintro e w14 ⟨o4, vo4, rfl, h14⟩
        have HIV := Lib.hid (invB h14 (Turned.no q vq ys) (List.mem_append_right [_, _, _, _, _, _, _, _, _, _] MQ.out) HIY.out (by rw [HYL.out]; omega))
        clear h14 HT4
        go_wp2_with fail
        refine HIV.out.mono ?_
        rintro e w15 ⟨qa, q1, vq1, rfl, ht, h15⟩
        have HTQ := Lib.hid ht
        have HIV2 := Lib.hid (invA h15 HTP.out (List.mem_append_right [_, _, _, _, _, _, _, _, _, _, _, _] MP.out) HIX.out (by rw [HXL.out]; omega))
        clear h15 HIV HTP ht
        go_wp2_with fail
        refine HIV2.out.mono ?_
        rintro e w16 ⟨pa2, p2, vp2, rfl, ht, h16⟩
        have HT5 := Lib.hid (thenT h16 (vO (List.mem_cons_of_mem _ (List.mem_cons_of_mem _ (List.mem_cons_self ..))) (List.mem_cons_of_mem _ (List.mem_cons_of_mem _ (List.mem_cons_of_mem _ (List.mem_cons_self ..))))) (vO (List.mem_cons_self ..) (List.mem_cons_of_mem _ (List.mem_cons_self ..))) (invL_perm HIY.out) HIXI.out (by rw [invL_len, invL_len, HXL.out, HYL.out]) (by rw [invL_len, HYL.out]; omega))
        clear h16 HIV2 ht
        go_wp2_with fail
        refine HT5.out.mono ?_
        rintro e w17 ⟨o5, vo5, rfl, h17⟩
        rw [← inv_then HIX.out HIY.out (by rw [HXL.out, HYL.out]), HUS.out] at h17
        obtain ⟨E, hE⟩ : ∃ E, (cellT o5 (permObj vo5) :: rowT 3 vo5 (intsOf (invL us)) :: cellT p2 (permObj vp2) :: rowT 3 vp2 (intsOf (invL xs)) :: cellT q1 (permObj vq1) :: rowT 3 vq1 (intsOf (invL ys)) :: cellT o4 (permObj vo4) :: rowT 3 vo4 (intsOf (thenL xs (thenL ys zs))) :: cellT o3 (permObj vo3) :: rowT 3 vo3 (intsOf (thenL ys zs)) :: cellT o2 (permObj vo2) :: rowT 3 vo2 (intsOf (thenL us zs)) :: cellT o1 (permObj vo1) :: rowT 3 vo1 (intsOf (oneL k)) :: cellT p1 (permObj vp1) :: rowT 3 vp1 (intsOf (invL xs)) :: C) = E := ⟨_, rfl⟩
        have ME1 : Hid (cellT o1 (permObj vo1) ∈ E ∧ rowT 3 vo1 (intsOf (oneL k)) ∈ E) := by show _ ∧ _; rw [← hE]; simp
        have ME2 : Hid (cellT o2 (permObj vo2) ∈ E ∧ rowT 3 vo2 (intsOf (thenL us zs)) ∈ E) := by show _ ∧ _; rw [← hE]; simp
        have ME4 : Hid (cellT o4 (permObj vo4) ∈ E ∧ rowT 3 vo4 (intsOf (thenL xs (thenL ys zs))) ∈ E) := by show _ ∧ _; rw [← hE]; simp
        have ME5 : Hid (cellT o5 (permObj vo5) ∈ E ∧ rowT 3 vo5 (intsOf (invL us)) ∈ E) := by show _ ∧ _; rw [← hE]; simp
        have MEU : Hid (rowT 3 vu (intsOf us) ∈ E) := by
          show _ ∈ _
          rw [← hE]
          exact List.mem_append_right [_, _, _, _, _, _, _, _, _, _, _, _, _, _, _, _] MU.out
        rw [hE] at h17
        have HON := Lib.hid (permOne_nat h17 k (by omega))
        have HAS : Hid (thenL us zs = thenL xs (thenL ys zs)) := by show _ = _; rw [← HUS.out, then_assoc HIX.out (by rw [HXL.out, HYL.out])]
        clear h17 hE HT5
        go_wp2_with fail
        refine HON.out.mono ?_
        rintro e w18 ⟨o6, v6, rfl, h18⟩
        have h19 : Tri w w18 pa2 qa [cellT u (permObj vu)] (cellT o6 (permObj v6) :: rowT 3 v6 (intsOf (oneL k)) :: E) := h18.perm (sinkP [cellT o6 (permObj v6), rowT 3 v6 (intsOf (oneL k))] pa2 qa [cellT u (permObj vu)] E)
        have HS1 := Lib.hid (sameT h19 (vO (List.mem_cons_of_mem _ (List.mem_cons_of_mem _ ME1.out.1)) (List.mem_cons_of_mem _ (List.mem_cons_of_mem _ ME1.out.2))) (vO (List.mem_cons_self ..) (List.mem_cons_of_mem _ (List.mem_cons_self ..))) (by rw [show (oneL k).length = k from mapL_len _ _]; omega) rfl)
        clear h18 h19 HON
        go_wp2_with fail
        refine HS1.out.mono ?_
        rintro e w20 ⟨rfl, h20⟩
        have HS2 := Lib.hid (sameT h20 (vO (List.mem_cons_of_mem _ (List.mem_cons_of_mem _ ME2.out.1)) (List.mem_cons_of_mem _ (List.mem_cons_of_mem _ ME2.out.2))) (vO (List.mem_cons_of_mem _ (List.mem_cons_of_mem _ ME4.out.1)) (List.mem_cons_of_mem _ (List.mem_cons_of_mem _ ME4.out.2))) (by rw [thenL_len, HUL.out]; omega) HAS.out)
        clear h20 HS1
        go_wp2_with fail
        refine HS2.out.mono ?_
        rintro e w21 ⟨rfl, h21⟩
        have HIU1 := Lib.hid (invC h21 (Turned.no u vu us) (List.mem_cons_of_mem _ (List.mem_cons_of_mem _ MEU.out)) HIU.out (by rw [HUL.out]; omega))
        clear h21 HS2
        go_wp2_with fail
        refine HIU1.out.mono ?_
        rintro e w22 ⟨ua, u1, vu1, rfl, ht, h22⟩
        have HTU := Lib.hid ht
        have HS3 := Lib.hid (sameT h22 (vO (List.mem_cons_self ..) (List.mem_cons_of_mem _ (List.mem_cons_self ..))) (vO (List.mem_append_right [_, _, _, _] ME5.out.1) (List.mem_append_right [_, _, _, _] ME5.out.2)) (by rw [invL_len, HUL.out]; omega) rfl)
        clear h22 HIU1 ht
        go_wp2_with fail
        refine HS3.out.mono ?_
        rintro e w23 ⟨rfl, h23⟩
        have HIU2 := Lib.hid (invC h23 HTU.out (List.mem_append_right [_, _, _, _] MEU.out) HIU.out (by rw [HUL.out]; omega))
        clear h23 HS3
        go_wp2_with fail
        refine HIU2.out.mono ?_
        rintro e w24 ⟨ua2, u2, vu2, rfl, ht2, h24⟩
        have HTU2 := Lib.hid ht2
        have HIN := Lib.hid (invN h24 (invL_perm HIU.out) (by rw [invL_len, HUL.out]; omega))
        clear h24 HIU2 ht2
        go_wp2_with fail
        refine HIN.out.mono ?_
        rintro e w25 ⟨u3, vu3, rfl, h25⟩
        rw [inv_inv HIU.out] at h25
        have HS4 := Lib.hid (sameT h25 (vC HTU2.out (List.mem_append_right [_, _, _, _, _, _, _] MEU.out)) (vO (List.mem_cons_self ..) (List.mem_cons_of_mem _ (List.mem_cons_self ..))) (by rw [HUL.out]; omega) rfl)
        clear h25 HIN
        go_wp2_with fail
        refine HS4.out.mono ?_
        rintro e w26 ⟨rfl, h26⟩
        have HB26 := Lib.hid (St.bel h26)
        clear h26 HS4
        go_wp2_with fail
        go_ret
        exact ⟨rfl, HB26.out⟩
  · obtain ⟨ap, cp, rfl, j1, j2⟩ := ownsRow_slice (H8.out.ok (o := rowT 3 vp (intsOf xs)) (by simp))
    obtain ⟨aq, cq, rfl, j3, j4⟩ := ownsRow_slice (H8.out.ok (o := rowT 3 vq (intsOf ys)) (by simp))
    have hcp := H8.out.permAt (p := p) (v := .slice ap (intsOf xs).length cp) (by simp)
    have hcq := H8.out.permAt (p := q) (v := .slice aq (intsOf ys).length cq) (by simp)
    rw [intsOf_len, HXL.out] at hcp
    rw [intsOf_len, HYL.out] at hcq
    have HTR := Lib.hid (permThen_range p q ap aq k j cp cq hcp hcq hkj)
    have hne : ((k : Int) != (j : Int)) = true := bne_iff_ne.2 (by omega)
    have HB := Lib.hid H8.out.bel
    clear hcp hcq j1 j2 j3 j4 H8 hkj
    go_wp2_with fail
    refine HTR.out.mono ?_
    rintro e w9 ⟨rfl, rfl⟩
    go_wp2_with fail
    go_ret
    exact ⟨rfl, HB.out⟩
end Go.Proofs.Ytongakmljbebfaa

