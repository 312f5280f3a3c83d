/- The walk of BitsCuts. -/
import Derived.Test.YtpepihciaendlaaCut
import Derived.Test.YtpepihciaendlaaBytesWalk
namespace Go.Proofs.Ytpepihciaendlaa
open Go.RowKit

theorem cuts_whole (L : List Bool) (x y : Nat) (h1 : x ≤ y) (h2 : y ≤ L.length) : (L.take x).drop 0 ++ (L.take y).drop x ++ (L.take L.length).drop y = L := by
  rw [List.drop_zero, List.take_length]
  have e : L.take x = (L.take y).take x := by rw [List.take_take, Nat.min_eq_left h1]
  rw [e, List.take_append_drop, List.take_append_drop]

/-- two bytes rows and the vectors that were there before -/
theorem St.flip {w0 w : World} {os : List Thing} {E : TypeId} {g n cap : Nat} {r : List Nat} (h : St w0 w (rowT E (.slice (some ⟨g, 0, none⟩) n cap) (bytesOf r) :: os)) (hr : r.length = n) (k x : Nat) :
    St w0 (w.setCell ⟨g, k, none⟩ (.int .u8 (x : Int))) (rowT E (.slice (some ⟨g, 0, none⟩) n cap) (bytesOf (r.set k x)) :: os) := by
  rw [bytesOf_set]
  exact h.store (by rw [bytesOf_len]; exact hr) k _

set_option maxRecDepth 100000 in
set_option maxHeartbeats 4000000 in
theorem bitsCuts_walk (a0 : Option Addr) (len0 cap0 : Nat) (z0 : List Int) (a1 a2 : Int) (w : World) (w0 : IsRow .u8 w a0 len0 cap0 z0) (w1 : (Lit.int .i64 a1).wf = true) (w2 : (Lit.int .i64 a2).wf = true) :
    Calls Try.prog 7 #[.slice a0 len0 cap0, .int .i64 a1, .int .i64 a2] w fun e w' => e = .returned (.bool true) ∧ Below w.heap.size w w' := by
  obtain ⟨p, e0, hp, R0, m0⟩ := w0.bytes
  have hplen : p.length ≤ 9223372036854775807 := by unfold maxLen at m0; omega
  have H := Lib.hid (St.start w)
  have HR0 := Lib.hid R0
  have HPL := Lib.hid hplen
  have HP := Lib.hid hp
  clear w0 w1 w2 m0 R0 hp hplen e0
  go_enter Try.func7, Try.ntmps7
  go_wp2_with fail
  refine (awake_any H.out).mono ?_
  rintro e w1 ⟨rfl, h1⟩
  have H1 := Lib.hid h1
  clear h1 H
  go_wp2_with fail
  refine (refFew_any H1.out _ p HP.out HPL.out (fun w' o h' => h'.arg HR0.out) 200 (by decide)).mono ?_
  rintro e w2 ⟨v, rfl, h2⟩
  have hL := fewOf_len p 200
  generalize fewOf p 200 = L at h2 hL
  obtain ⟨a, cap, rfl, hcap, hcm⟩ := ownsRow_slice h2.row
  rw [intsOf_len, bitsOf_len] at h2 hcap ⊢
  have HA : Hid (a = none ∨ ∃ g o, a = some ⟨g, o, none⟩) := by
    rcases (h2.rowN (n := L.length) (by rw [intsOf_len, bitsOf_len])).2 with ⟨he, _⟩ | ⟨g, cap, cur, he, _⟩
    · simp only [Value.slice.injEq] at he; exact .inl he.1
    · simp only [Value.slice.injEq] at he; exact .inr ⟨g, 0, he.1⟩
  have H2 := Lib.hid h2
  clear h2 H1 HR0 HP HPL
  have hcm64 : cap ≤ 9223372036854775807 := by unfold maxLen at hcm; omega
  clear hcm
  go_wp2_with fail
  refine (of_any H2.out _ L (by omega) (fun w' os' h' => h'.reads (E := 3) (by simp))).mono ?_
  rintro e w3 ⟨b, v, rfl, h3⟩
  have H3 := Lib.hid h3
  clear h3 H2
  go_wp2_with fail
  by_cases hb : a1 < 0 ∨ a2 < a1 ∨ (L.length : Int) < a2
  · refine (cut_range (v := v) (l := L) H3.out (by simp) a1 a2 hb).mono ?_
    rintro e w4 ⟨rfl, rfl⟩
    by_cases g0 : a1 < 0
    · clear hb
      go_wp2
      go_ret
      exact ⟨rfl, H3.out.bel⟩
    · by_cases g1 : a2 < a1
      · clear hb
        go_wp2
        go_ret
        exact ⟨rfl, H3.out.bel⟩
      · have g2 : (L.length : Int) < a2 := by omega
        clear hb
        go_wp2
        go_ret
        exact ⟨rfl, H3.out.bel⟩
  obtain ⟨x, rfl⟩ : ∃ x : Nat, a1 = x := ⟨a1.toNat, by omega⟩
  obtain ⟨y, rfl⟩ : ∃ y : Nat, a2 = y := ⟨a2.toNat, by omega⟩
  have hxy : x ≤ y := by omega
  have hyL : y ≤ L.length := by omega
  clear hb
  refine (cut_main (v := v) (l := L) H3.out (by simp) x y hxy hyL (by omega)).mono ?_
  rintro e w4 ⟨bw, vw, rfl, h4⟩
  have H4 := Lib.hid h4
  clear h4 H3
  go_wp2_with fail
  refine (cut_main (b := b) (v := v) (l := L) H4.out (by simp) 0 x (by omega) (by omega) (by omega)).mono ?_
  rintro e w5 ⟨ba, va, rfl, h5⟩
  have H5 := Lib.hid h5
  clear h5 H4
  go_wp2_with fail
  refine (cut_main (b := b) (v := v) (l := L) H5.out (by simp) y L.length hyL (by omega) (by omega)).mono ?_
  rintro e w6 ⟨bb, vb, rfl, h6⟩
  have HWH := Lib.hid (cuts_whole L x y hxy hyL)
  have HSUB : Hid (∀ (w' : World), Reads w' (.slice a L.length cap) (intsOf (bitsOf L)) → Reads w' (.slice a y cap) (intsOf (bitsOf (L.take y)))) := fun w' hr => by
    rw [← intsOf_take]; exact hr.take y hyL
  obtain ⟨A, hA⟩ : ∃ A, (L.take x).drop 0 = A := ⟨_, rfl⟩
  obtain ⟨W, hW⟩ : ∃ W, (L.take y).drop x = W := ⟨_, rfl⟩
  obtain ⟨B, hB⟩ : ∃ B, (L.take L.length).drop y = B := ⟨_, rfl⟩
  have HA200 : Hid (A.length ≤ 200) := by show _ ≤ _; rw [← hA, List.length_drop, List.length_take]; omega
  have HW200 : Hid (W.length ≤ 200) := by show _ ≤ _; rw [← hW, List.length_drop, List.length_take]; omega
  have HB200 : Hid (B.length ≤ 200) := by show _ ≤ _; rw [← hB, List.length_drop, List.length_take]; omega
  have HAWB : Hid (A ++ W ++ B = L) := by show _ = _; rw [← hA, ← hW, ← hB]; exact HWH.out
  rw [hA, hW, hB] at h6
  have HWW : Hid ((L.take y).drop x = W) := hW
  have H6 := Lib.hid h6
  have HRL := Lib.hid (fun (w' : World) os' (h' : St w w' (os' ++ (vecT bb vb B :: vecT ba va A :: vecT bw vw W :: vecT b v L :: rowT 3 (.slice a L.length cap) (intsOf (bitsOf L)) :: []))) => h'.reads (E := 3) (v := .slice a L.length cap) (xs := intsOf (bitsOf L)) (by simp))
  clear h6 H5 hA hW hB HWH
  have HLIKE : Hid (∃ (a' : Option Addr) (cap' : Nat), (∀ w', Reads w' (.slice a L.length cap) (intsOf (bitsOf L)) → Reads w' (.slice a' (y - x) cap') (intsOf (bitsOf W))) ∧ ((cap = x ∧ a' = a ∧ cap' = 0 ∧ y - x = 0) ∨ (cap ≠ x ∧ cap' = cap - x ∧ ∃ g o, a = some ⟨g, o, none⟩ ∧ a' = some ⟨g, o + x, none⟩))) := by
    show ∃ _ _, _
    by_cases hcx : cap = x
    · refine ⟨a, 0, fun w' hr => ?_, .inl ⟨hcx, rfl, rfl, by omega⟩⟩
      have : W = [] := by rw [← HWW.out]; exact List.drop_eq_nil_of_le (by rw [List.length_take]; omega)
      rw [this, show y - x = 0 by omega]
      exact ⟨a, 0, rfl, Nat.le_refl _, by decide, fun _ => rfl, .inl rfl⟩
    · rcases HA.out with rfl | ⟨g, o, rfl⟩
      · exfalso
        obtain ⟨_, _, he, _, _, hz, _⟩ := HRL.out _ [] H6.out
        simp only [Value.slice.injEq] at he
        obtain ⟨he1, _, rfl⟩ := he
        have := hz he1.symm
        omega
      · refine ⟨_, cap - x, fun w' hr => ?_, .inr ⟨hcx, rfl, g, o, rfl, rfl⟩⟩
        have := (HSUB.out w' hr).drop x hxy
        rw [intsOf_drop, HWW.out] at this
        exact this
  have HYX : Hid (((y : Int) - (x : Int)) = ((y - x : Nat) : Int)) := by show _ = _; omega
  obtain ⟨a', cap', hsub, hcase⟩ := HLIKE.out
  have HSB := Lib.hid hsub
  clear hsub HLIKE
  rcases hcase with ⟨rfl, rfl, rfl, h0⟩ | ⟨hcx, rfl, g, o, rfl, rfl⟩
  case' inl =>
    have hxy2 : y = cap := by omega
    subst hxy2
    go_wp2_with fail
    refine (like_any (b := bw) (v := vw) (l := W) H6.out (by simp) (by have := HW200.out; omega) (.slice a' 0 0) (fun w' os' h' => by have := HSB.out w' (HRL.out w' os' h'); rwa [Nat.sub_self] at this)).mono ?_
    obtain ⟨RV, hRV⟩ : ∃ RV, Value.slice a' L.length y = RV := ⟨_, rfl⟩
  case' inr =>
    go_wp2_with fail
    refine (like_any (b := bw) (v := vw) (l := W) H6.out (by simp) (by have := HW200.out; omega) (.slice (some ⟨g, o + x, none⟩) (y - x) (cap - x)) (fun w' os' h' => HSB.out w' (HRL.out w' os' h'))).mono ?_
    obtain ⟨RV, hRV⟩ : ∃ RV, Value.slice (some ⟨g, o, none⟩) L.length cap = RV := ⟨_, rfl⟩
  all_goals
    rintro e w7 ⟨rfl, h7⟩
    rw [hRV] at h7 ⊢
    clear hRV HRL
    have H7 := Lib.hid h7.swap
    clear h7 H6 HSB
    go_wp2_with fail
    refine (vecJoin_any H7.out bw W (vecLen_any (b := bw) (v := vw) (l := W) H7.out (by simp)) (fun i w' v' j hi hj h' => vecAt_in (b := bw) (v := vw) (l := W) h' (by simp) i hi) (by have := HA200.out; have := HW200.out; omega)).mono ?_
    rintro e w8 ⟨rfl, va2, h8⟩
    have H8 := Lib.hid h8
    clear h8 H7
    go_wp2_with fail
    refine (vecJoin_any H8.out bb B (vecLen_any (b := bb) (v := vb) (l := B) H8.out (by simp)) (fun i w' v' j hi hj h' => vecAt_in (b := bb) (v := vb) (l := B) h' (by simp) i hi) (by rw [List.length_append]; have := HA200.out; have := HW200.out; have := HB200.out; omega)).mono ?_
    rintro e w9 ⟨rfl, va3, h9⟩
    rw [HAWB.out] at h9
    have H9 := Lib.hid h9
    clear h9 H8
    go_wp2_with fail
    refine (vecBytes_any (b := b) (v := v) (l := L) H9.out (by simp) (by omega)).mono ?_
    rintro e w10 ⟨g1, rfl, h10, _⟩
    obtain ⟨n1, hn1⟩ : ∃ n1, (L.length + 7) / 8 = n1 := ⟨_, rfl⟩
    rw [hn1] at h10 ⊢
    have HN1 : Hid ((bytesB L).length = n1) := by show _ = _; rw [bytesB_len, hn1]
    have hn1' : n1 ≤ 40 := by omega
    have H10 := Lib.hid h10
    clear h10 H9 hn1
    go_wp2_with fail
    refine (vecBytes_any (b := bw) (v := vw) (l := W) H10.out (by simp) (by have := HW200.out; omega)).mono ?_
    rintro e w11 ⟨g2, rfl, h11, _⟩
    obtain ⟨n2, hn2⟩ : ∃ n2, (W.length + 7) / 8 = n2 := ⟨_, rfl⟩
    rw [hn2] at h11 ⊢
    have HN2 : Hid ((bytesB W).length = n2) := by show _ = _; rw [bytesB_len, hn2]
    have hn2' : n2 ≤ 40 := by have := HW200.out; omega
    have H11 := Lib.hid h11
    clear h11 H10 hn2
    go_wp2_with fail
    have H12 := Lib.hid (H11.out.newCell (.cells #[.slice (some ⟨g1, 0, none⟩) n1 n1, .slice (some ⟨g2, 0, none⟩) n2 n2] 22 (0, 0)))
    clear H11
    obtain ⟨c, hc⟩ : ∃ c, w11.heap.size = c := ⟨_, rfl⟩
    rw [hc] at H12 ⊢
    clear hc
    go_loopw [87] (fun i wr => ∃ k : Nat, k ≤ 2 ∧ i = .int .i64 k ∧ ∃ r1 r2 : List Nat, r1.length = n1 ∧ r2.length = n2 ∧ (∀ x ∈ r1, x < 256) ∧ (∀ x ∈ r2, x < 256) ∧ St w wr (cellT c (.cells #[.slice (some ⟨g1, 0, none⟩) n1 n1, .slice (some ⟨g2, 0, none⟩) n2 n2] 22 (0, 0)) ::
      rowT 5 (.slice (some ⟨g2, 0, none⟩) n2 n2) (bytesOf r2) :: rowT 5 (.slice (some ⟨g1, 0, none⟩) n1 n1) (bytesOf r1) :: vecT ba va3 L :: vecT bb vb B :: vecT bw vw W :: vecT b v L :: rowT 3 RV (intsOf (bitsOf L)) :: [])) (fun i _ => 2 - (intOf i).toNat)
    case atStart => exact ⟨0, by omega, rfl, _, _, HN1.out, HN2.out, bytesB_lt L, bytesB_lt W, H12.out⟩
    case round =>
      obtain ⟨k, hk, rfl, r1, r2, hr1, hr2, hb1, hb2, hS⟩ := hrel
      have HR1 := Lib.hid hr1
      have HR2 := Lib.hid hr2
      have HB1 := Lib.hid hb1
      have HB2 := Lib.hid hb2
      clear H12 hr1 hr2 hb1 hb2
      by_cases hlt : k < 2
      · obtain ⟨CAN, hCAN⟩ : ∃ CAN : World → Prop, CAN = fun w' => ∃ r1 r2 : List Nat, r1.length = n1 ∧ r2.length = n2 ∧ (∀ x ∈ r1, x < 256) ∧ (∀ x ∈ r2, x < 256) ∧ St w w' (cellT c (.cells #[.slice (some ⟨g1, 0, none⟩) n1 n1, .slice (some ⟨g2, 0, none⟩) n2 n2] 22 (0, 0)) ::
            rowT 5 (.slice (some ⟨g2, 0, none⟩) n2 n2) (bytesOf r2) :: rowT 5 (.slice (some ⟨g1, 0, none⟩) n1 n1) (bytesOf r1) :: vecT ba va3 L :: vecT bb vb B :: vecT bw vw W :: vecT b v L :: rowT 3 RV (intsOf (bitsOf L)) :: []) := ⟨_, rfl⟩
        have hk01 : k = 0 ∨ k = 1 := by omega
        rcases hk01 with rfl | rfl
        case' inl =>
          have cb : wr.cell? ⟨c, 0, none⟩ = some (.slice (some ⟨g1, 0, none⟩) n1 n1) := hS.cellAt 0
          have HS := Lib.hid hS.rot3
          obtain ⟨REST, hREST⟩ : ∃ REST, cellT c (.cells #[.slice (some ⟨g1, 0, none⟩) n1 n1, .slice (some ⟨g2, 0, none⟩) n2 n2] 22 (0, 0)) :: rowT 5 (.slice (some ⟨g2, 0, none⟩) n2 n2) (bytesOf r2) :: vecT ba va3 L :: vecT bb vb B :: vecT bw vw W :: vecT b v L :: rowT 3 RV (intsOf (bitsOf L)) :: [] = REST := ⟨_, rfl⟩
          have HBACK : Hid (∀ (r : List Nat) (w' : World), r.length = n1 → (∀ x ∈ r, x < 256) → St w w' (rowT 5 (.slice (some ⟨g1, 0, none⟩) n1 n1) (bytesOf r) :: REST) → CAN w') := fun r w' h1 h2 h3 => by
              rw [← hREST] at h3
              rw [hCAN]
              exact ⟨r, r2, h1, HR2.out, h2, HB2.out, h3.rot3.rot3⟩
          have HRN := Lib.hid HR1.out
          have HRB := Lib.hid HB1.out
          obtain ⟨g, hg⟩ : ∃ g, g1 = g := ⟨_, rfl⟩
          obtain ⟨n, hn⟩ : ∃ n, n1 = n := ⟨_, rfl⟩
          obtain ⟨r, hr⟩ : ∃ r, r1 = r := ⟨_, rfl⟩
          have hn40 : n ≤ 40 := by omega
        case' inr =>
          have cb : wr.cell? ⟨c, 1, none⟩ = some (.slice (some ⟨g2, 0, none⟩) n2 n2) := hS.cellAt 1
          have HS := Lib.hid hS.swap
          obtain ⟨REST, hREST⟩ : ∃ REST, cellT c (.cells #[.slice (some ⟨g1, 0, none⟩) n1 n1, .slice (some ⟨g2, 0, none⟩) n2 n2] 22 (0, 0)) :: rowT 5 (.slice (some ⟨g1, 0, none⟩) n1 n1) (bytesOf r1) :: vecT ba va3 L :: vecT bb vb B :: vecT bw vw W :: vecT b v L :: rowT 3 RV (intsOf (bitsOf L)) :: [] = REST := ⟨_, rfl⟩
          have HBACK : Hid (∀ (r : List Nat) (w' : World), r.length = n2 → (∀ x ∈ r, x < 256) → St w w' (rowT 5 (.slice (some ⟨g2, 0, none⟩) n2 n2) (bytesOf r) :: REST) → CAN w') := fun r w' h1 h2 h3 => by
              rw [← hREST] at h3
              rw [hCAN]
              exact ⟨r1, r, HR1.out, h1, HB1.out, h2, h3.swap⟩
          have HRN := Lib.hid HR2.out
          have HRB := Lib.hid HB2.out
          obtain ⟨g, hg⟩ : ∃ g, g2 = g := ⟨_, rfl⟩
          obtain ⟨n, hn⟩ : ∃ n, n2 = n := ⟨_, rfl⟩
          obtain ⟨r, hr⟩ : ∃ r, r2 = r := ⟨_, rfl⟩
          have hn40 : n ≤ 40 := by omega
        all_goals
          rw [hREST, hg, hn, hr] at HS
          rw [hg, hn] at HBACK cb
          rw [hn, hr] at HRN
          rw [hr] at HRB
          have HCAN := Lib.hid hCAN
          clear hREST hg hn hr hS HR1 HR2 HB1 HB2 hCAN
          go_wp2_with fail
          clear cb
          go_loopw [93] (fun i wr' => ∃ j : Nat, j ≤ n ∧ i = .int .i64 j ∧ ∃ r' : List Nat, r'.length = n ∧ (∀ x ∈ r', x < 256) ∧ St w wr' (rowT 5 (.slice (some ⟨g, 0, none⟩) n n) (bytesOf r') :: REST)) (fun i _ => n - (intOf i).toNat)
          case atStart => exact ⟨0, by omega, rfl, r, HRN.out, HRB.out, HS.out⟩
          case round =>
            obtain ⟨j, hj, rfl, r', hrl, hrb, hS'⟩ := hrel
            clear HS HRN HRB
            by_cases hjl : j < n
            · have cb : wr.cell? ⟨g, j, none⟩ = some (.int .u8 ((r'[j] : Nat) : Int)) := by
                rw [(hS'.rowN (n := n) (by rw [bytesOf_len]; exact hrl)).cellAt j (by omega)]
                exact bytesOf_get r' j (by omega)
              have fz : wr.frozen? ⟨g, j, none⟩ = false := (hS'.rowN (n := n) (by rw [bytesOf_len]; exact hrl)).frozenAt j
              have hx : r'[j] < 256 := hrb _ (List.getElem_mem _)
              generalize r'[j] = x at cb hx
              have hxx := u8_xor_nat x 255 hx (by decide)
              have hxl : x ^^^ 255 < 256 := Nat.xor_lt_two_pow (n := 8) hx (by decide)
              have HST := Lib.hid (hS'.flip hrl j (x ^^^ 255))
              have HRB : Hid (∀ y ∈ r'.set j (x ^^^ 255), y < 256) := set_lt r' hrb j _ hxl
              have HRL : Hid ((r'.set j (x ^^^ 255)).length = n) := by show _ = _; rw [List.length_set]; exact hrl
              have hxx' : bits BinOp.xor IntKind.u8 (x : Int) 255 = ((x ^^^ 255 : Nat) : Int) := hxx
              have HXX := Lib.hid hxx'
              clear hS' hrb hrl hxx hxx'
              go_wp2_with fail
              go_roundw
              case rel =>
                refine ⟨j + 1, by omega, by go_num, _, HRL.out, HRB.out, ?_⟩
                rw [HXX.out]
                exact HST.out
              case measure => simp [intOf]; omega
            · obtain rfl : n = j := by omega
              have hcan := HBACK.out r' _ hrl hrb hS'
              rw [HCAN.out] at hcan
              obtain ⟨q1, q2, h1, h2, h3, h4, h5⟩ := hcan
              have HQ1 := Lib.hid h1
              have HQ2 := Lib.hid h2
              have HQ3 := Lib.hid h3
              have HQ4 := Lib.hid h4
              have HQ5 := Lib.hid h5
              clear hS' hrb hrl h1 h2 h3 h4 h5
              go_wp2_with fail
              go_roundw
              case rel => first | exact ⟨1, by omega, by go_num, q1, q2, HQ1.out, HQ2.out, HQ3.out, HQ4.out, HQ5.out⟩ | exact ⟨2, by omega, by go_num, q1, q2, HQ1.out, HQ2.out, HQ3.out, HQ4.out, HQ5.out⟩
              case measure => simp [intOf] <;> omega
      · obtain rfl : k = 2 := by omega
        have HS := Lib.hid (hS.perm (List.perm_middle (a := vecT bw vw W) (l₁ := [_, _, _, _, _])))
        clear hS HR1 HR2 HB1 HB2 hlt
        go_wp2_with fail
        have H13 := Lib.hid (HS.out.newCell (.cells #[.int .i64 1] 3)).swap
        clear HS
        refine (vecAdd_any H13.out _ [1] (fun w' v' l' h' => h'.swap.readsCell 1 rfl (by decide)) (by simp only [List.length_cons, List.length_nil]; have := HW200.out; omega)).mono ?_
        rintro e w13 ⟨rfl, vw2, h13⟩
        have H14 := Lib.hid h13
        clear h13 H13
        go_wp2_with fail
        refine (same_any (b := ba) (b' := b) (v := va3) (v' := v) (l := L) (l' := L) H14.out (by simp) (by simp)).mono ?_
        rintro e w14 ⟨rfl, m14, rfl⟩
        have H15 := Lib.hid (H14.out.drewN m14)
        clear H14
        rw [decide_eq_true rfl]
        go_wp2_with fail
        refine (like_any (b := b) (v := v) (l := L) H15.out (by simp) (by omega) RV (fun w' os' h' => h'.reads (E := 3) (by simp))).mono ?_
        rintro e w15 ⟨rfl, h15⟩
        have H16 := Lib.hid h15
        go_wp2
        go_ret
        exact ⟨rfl, H16.out.bel⟩
end Go.Proofs.Ytpepihciaendlaa
