/- The walk of BitsBytes. -/
import Derived.Test.YtpepihciaendlaaBitsOf
import Derived.Test.YtpepihciaendlaaReadsWalk
namespace Go.Proofs.Ytpepihciaendlaa
open Go.RowKit

/-- bits.Of, in one -/
theorem bitsOf_all {w0 w : World} {os : List Thing} (h : St w0 w os) (a : Option Addr) (cap : Nat) (p : List Nat) (hp : ∀ x ∈ p, x < 256) (n : Int) (hlen : p.length < 1099511627)
    (hv : ∀ w' o, St w0 w' (o :: os) → Reads w' (.slice a p.length cap) (bytesOf p)) :
    Calls Try.prog 24 #[.slice a p.length cap, .int .i64 n] w fun e w' => ∃ (pv : Value) (ev : Int) (OS : List Thing), e = .returned (.tuple #[pv, .int .i64 ev]) ∧ St w0 w' (OS ++ os) ∧
      (((n < 0 ∨ 8 * (p.length : Int) < n ∨ 8 ≤ 8 * (p.length : Int) - n) ∧ pv = .pointer none ∧ ev = 1) ∨
       (∃ k : Nat, n = k ∧ k ≤ 8 * p.length ∧ 8 * p.length < k + 8 ∧ ((bytesB (fewOf p k) ≠ p ∧ pv = .pointer none ∧ ev = 3) ∨
         (bytesB (fewOf p k) = p ∧ ev = 0 ∧ ∃ b v, pv = .pointer (some ⟨b, 0, none⟩) ∧ OS = [vecT b v (fewOf p k)])))) := by
  by_cases hb : n < 0 ∨ 8 * (p.length : Int) < n ∨ 8 ≤ 8 * (p.length : Int) - n
  · refine (bitsOf_range a p.length cap n (by omega) hb w).mono ?_
    rintro e w' ⟨rfl, rfl⟩
    exact ⟨_, _, [], rfl, h, .inl ⟨hb, rfl, rfl⟩⟩
  · obtain ⟨k, rfl⟩ : ∃ k : Nat, n = k := ⟨n.toNat, by omega⟩
    refine (bitsOf_main h _ p hp k (by omega) (by omega) hlen hv).mono ?_
    rintro e w' (⟨h1, b, v, rfl, h2⟩ | ⟨h1, rfl, h2⟩)
    · exact ⟨_, _, [_], rfl, h2, .inr ⟨k, rfl, by omega, by omega, .inr ⟨h1, rfl, b, v, rfl, rfl⟩⟩⟩
    · exact ⟨_, _, [], rfl, h2, .inr ⟨k, rfl, by omega, by omega, .inl ⟨h1, rfl, rfl⟩⟩⟩

theorem bytesOf_set (l : List Nat) (j x : Nat) : bytesOf (l.set j x) = (bytesOf l).set j (.int .u8 (x : Int)) := by
  unfold bytesOf; rw [List.map_set]

theorem set_lt (l : List Nat) (hl : ∀ x ∈ l, x < 256) (j x : Nat) (hx : x < 256) : ∀ y ∈ l.set j x, y < 256 := by
  intro y hy
  rcases List.mem_or_eq_of_mem_set hy with h | h
  · exact hl y h
  · omega

set_option maxRecDepth 100000 in
set_option maxHeartbeats 4000000 in
theorem bitsBytes_walk (a0 : Option Addr) (len0 cap0 : Nat) (z0 : List Int) (a1 : Int) (a2 : Bool) (w : World) (w0 : IsRow .u8 w a0 len0 cap0 z0) (w1 : (Lit.int .i64 a1).wf = true) :
    Calls Try.prog 5 #[.slice a0 len0 cap0, .int .i64 a1, .bool a2] w fun e w' => e = .returned (.bool true) ∧ Below w.heap.size w w' := by
  obtain ⟨p, e0, hp, R0, m0⟩ := w0.bytes
  have b1 := wf_i64 w1
  have H := Lib.hid (St.start w)
  obtain ⟨m, hm, hm1, hm2⟩ : ∃ m, m = min len0 40 ∧ m ≤ len0 ∧ m ≤ 40 := ⟨_, rfl, by omega, by omega⟩
  have hmin : ∀ w, (Builtin.min_ #[3, 3] 3 #[.int .i64 len0, .int .i64 40]).run Try.prog w = .ok (.int .i64 m) w := fun w => by
    rw [run_min2]
    congr 2
    split <;> omega
  have hlc := R0.len_le
  have hcm : cap0 ≤ 9223372036854775807 := by
    obtain ⟨_, _, he, _, hm, _⟩ := R0
    simp only [Value.slice.injEq] at he
    obtain ⟨_, _, rfl⟩ := he
    unfold maxLen at hm; omega
  have HR := Lib.hid (R0.take m hm1)
  have HPP : Hid (∀ x ∈ p.take m, x < 256) := fun x hx => hp x (List.mem_of_mem_take hx)
  have hpl : Hid ((p.take m).length = m) := by show _ = _; rw [List.length_take]; omega
  have HR2 : Hid (Reads w (.slice a0 m cap0) (bytesOf (p.take m))) := by
    show Reads _ _ _
    have := HR.out
    rwa [show bytesOf (p.take m) = (bytesOf p).take m by simp [bytesOf, List.map_take]]
  generalize p.take m = q at HPP hpl HR2
  clear R0 HR hp w0 w1 m0 hm e0
  go_enter Try.func5, Try.ntmps5
  go_wp2_with fail
  refine (awake_any H.out).mono ?_
  rintro e w1 ⟨rfl, h1⟩
  have H1 := Lib.hid h1
  clear h1 H
  go_wp2_with fail
  rw [← hpl.out]
  refine (cloneBytes_st H1.out _ q (by rw [hpl.out]; exact H1.out.arg HR2.out) (by have := hpl.out; omega)).mono ?_
  rintro e w2 ⟨a, cap, rfl, h2, _, hqc⟩
  rw [hpl.out] at h2 hqc ⊢
  have H2 := Lib.hid h2
  clear h2 H1 HR2
  cases a2
  case' false =>
    go_wp2_with fail
    clear b1
    generalize a1 = n'
  case' true =>
    go_wp2_with fail
    clear b1
    generalize wrap64 (8 * (m : Int) - wrap64 ((IntKind.u64.wrap a1).tmod 8)) = n'
  all_goals
    rw [← hpl.out]
    refine (cloneBytes_st H2.out _ q (by rw [hpl.out]; exact H2.out.reads1) (by have := hpl.out; omega)).mono ?_
    rintro e w3 ⟨a3, cap3, rfl, h3, _, hqc3⟩
    rw [hpl.out] at h3 hqc3
    have H3 := Lib.hid h3
    clear h3 H2
    go_wp2_with fail
    refine (bitsOf_all H3.out a3 cap3 q HPP.out n' (by have := hpl.out; omega) (fun w' o h' => by rw [hpl.out]; exact h'.tail.reads1)).mono ?_
    rintro e w4 ⟨pv, ev, OS, rfl, h4, hcase⟩
    rw [hpl.out] at hcase ⊢
    have H4 := Lib.hid (h4.perm (List.perm_middle (a := rowT 5 (.slice a3 m cap3) (bytesOf q)) (l₁ := OS)))
    have HC := Lib.hid hcase
    clear h4 hcase H3
    go_wp2_with fail
    go_loopw [39] (fun i wr => ∃ k : Nat, k ≤ m ∧ i = .int .i64 k ∧ ∃ r : List Nat, r.length = m ∧ (∀ x ∈ r, x < 256) ∧ St w wr (rowT 5 (.slice a3 m cap3) (bytesOf r) :: (OS ++ [rowT 5 (.slice a m cap) (bytesOf q)]))) (fun i _ => m - (intOf i).toNat)
    case atStart => exact ⟨0, by omega, rfl, q, hpl.out, HPP.out, H4.out⟩
    case round =>
      obtain ⟨k, hk, rfl, r, hrl, hrb, hS⟩ := hrel
      clear H4
      by_cases hlt : k < m
      · obtain ⟨g, cap', he, _, _⟩ := ownsRow_shape hS.row (by rw [bytesOf_len]; omega)
        simp only [Value.slice.injEq] at he
        obtain ⟨rfl, _, rfl⟩ := he
        have cb : wr.cell? ⟨g, k, none⟩ = some (.int .u8 ((r[k] : Nat) : Int)) := by
          rw [(hS.rowN (n := m) (by rw [bytesOf_len]; exact hrl)).cellAt k (by omega)]
          exact bytesOf_get r k (by omega)
        have fz : wr.frozen? ⟨g, k, none⟩ = false := (hS.rowN (n := m) (by rw [bytesOf_len]; exact hrl)).frozenAt k
        have hx : r[k] < 256 := hrb _ (List.getElem_mem _)
        generalize r[k] = x at cb hx
        have hxx := u8_xor_nat x 255 hx (by decide)
        have hxl : x ^^^ 255 < 256 := Nat.xor_lt_two_pow (n := 8) hx (by decide)
        have hst := hS.store (by rw [bytesOf_len]; exact hrl) k (.int .u8 ((x ^^^ 255 : Nat) : Int))
        rw [← bytesOf_set] at hst
        have HST := Lib.hid hst
        have HRB : Hid (∀ y ∈ r.set k (x ^^^ 255), y < 256) := set_lt r hrb k _ hxl
        have HRL : Hid ((r.set k (x ^^^ 255)).length = m) := by show _ = _; rw [List.length_set]; exact hrl
        have hxx' : bits BinOp.xor IntKind.u8 (x : Int) 255 = ((x ^^^ 255 : Nat) : Int) := hxx
        have HXX := Lib.hid hxx'
        clear hst hS hrb hrl hxx hxx'
        go_wp2_with fail
        go_roundw
        case rel =>
          refine ⟨k + 1, by omega, by go_num, _, HRL.out, HRB.out, ?_⟩
          rw [HXX.out]
          exact HST.out
        case measure => simp [intOf]; omega
      · obtain rfl : m = k := by omega
        have HS := Lib.hid hS
        clear hS hrl hrb hlt
        rcases HC.out with ⟨hb, rfl, rfl⟩ | ⟨t, rfl, ht1, ht2, hcase⟩
        · have HB := Lib.hid hb
          clear hb HC
          by_cases g0 : n' < 0
          · clear HB
            go_wp2
            go_ret
            exact ⟨rfl, HS.out.bel⟩
          · by_cases g1 : 8 * (m : Int) < n'
            · clear HB
              go_wp2
              go_ret
              exact ⟨rfl, HS.out.bel⟩
            · have g2 : 8 ≤ 8 * (m : Int) - n' := by have := HB.out; omega
              clear HB
              go_wp2
              go_ret
              exact ⟨rfl, HS.out.bel⟩
        · have HCASE := Lib.hid hcase
          clear hcase HC
          go_wp2_with fail
          refine (refFew_any HS.out (.slice a m cap) q HPP.out (by have := hpl.out; omega) (fun w' o h' => h'.reads (E := 5) (by simp)) t (by omega)).mono ?_
          rintro e w5 ⟨v5, rfl, h5⟩
          have HFL : Hid ((fewOf q t).length ≤ t) := fewOf_len q t
          obtain ⟨L, hL⟩ : ∃ L, fewOf q t = L := ⟨_, rfl⟩
          rw [hL] at h5 HCASE HFL
          have HLL : Hid (L.length ≤ 330) := by show _ ≤ _; have := HFL.out; omega
          clear HFL hL
          have H5 := Lib.hid h5
          clear h5 HS
          go_wp2_with fail
          refine (refBytes_any H5.out v5 L (by have := HLL.out; omega) (fun w' o h' => h'.tail.reads1)).mono ?_
          rintro e w6 ⟨v6, rfl, h6⟩
          have H6 := Lib.hid h6
          clear h6 H5
          go_wp2_with fail
          refine (bytesEqual_any _ _ (bytesB L) q _ H6.out.reads1 (H6.out.reads (E := 5) (by simp)) (bytesB_lt L) HPP.out).mono ?_
          rintro e w7 ⟨rfl, rfl⟩
          rcases HCASE.out with ⟨hne, rfl, rfl⟩ | ⟨heq, rfl, b, v, rfl, rfl⟩
          · rw [decide_eq_false hne]
            clear HCASE hne
            go_wp2
            go_ret
            exact ⟨rfl, H6.out.bel⟩
          · rw [decide_eq_true heq]
            clear HCASE heq
            go_wp2_with fail
            refine (like_any (b := b) (v := v) (l := L) (os := rowT 5 v6 (bytesOf (bytesB L)) :: rowT 3 v5 (intsOf (bitsOf L)) :: rowT 5 (.slice a3 m cap3) (bytesOf r) :: ([vecT b v L] ++ [rowT 5 (.slice a m cap) (bytesOf q)])) H6.out (by simp) (by have := HLL.out; omega) v5 (fun w' os' h' => h'.reads (E := 3) (by simp))).mono ?_
            rintro e w8 ⟨rfl, h8⟩
            have H8 := Lib.hid h8
            go_wp2
            go_ret
            exact ⟨rfl, H8.out.bel⟩
end Go.Proofs.Ytpepihciaendlaa
