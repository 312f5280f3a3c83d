/- The document's GetNum. -/
import Derived.Test.YtgmgbgjghncipaaPackNum
import Derived.Test.YtgmgbgjghncipaaSame
import Derived.WalkMore
namespace Go.Proofs.Ytgmgbgjghncipaa
open Go.RowKit

namespace PackP
theorem numB_none {p : List Nat} {y : Nat} (hy : y < 18446744073709551616) (n : Nat) (ha : ∀ j (hj : j < p.length), j < n → 128 ≤ p[j]) (hn : p.length ≤ n ∨ 10 ≤ n) : ¬ numB y <+: p := by
  intro h
  have hl := h.length_le
  have h10 := numB_len10 y hy
  have hp := numB_pos y
  obtain ⟨r, rfl⟩ := h
  have h2 := (numB_last y ((numB y).length - 1) (by omega)).2 (by omega)
  have h3 := ha ((numB y).length - 1) (by simp; omega) (by omega)
  rw [List.getElem_append_left (by omega)] at h3
  omega

theorem numB_take {p : List Nat} {y n : Nat} (h : numB y <+: p) (hn : (numB y).length = n) : p.take n = numB y ∧ valB (p.take n) = y := by
  obtain ⟨r, rfl⟩ := h
  have e : (numB y ++ r).take n = numB y := by rw [← hn]; simp
  exact ⟨e, by rw [e, valB_numB]⟩

theorem valB_step (q : List Nat) (r : Nat) (h : r < q.length) : valB (q.drop r) = q[r] % 128 + 128 * valB (q.drop (r + 1)) := by
  rw [List.drop_eq_getElem_cons h, valB]
end PackP

theorem val_wrap (v c : Nat) (hc : c < 128) : IntKind.u64.wrap (IntKind.u64.wrap (128 * ((v % 18446744073709551616 : Nat) : Int)) + (c : Int)) = (((c + 128 * v) % 18446744073709551616 : Nat) : Int) := by
  rw [IntKind.wrap_u64, IntKind.wrap_u64]
  omega

set_option maxRecDepth 100000 in
set_option maxHeartbeats 2000000 in
theorem refGet_any {w0 w : World} {os : List Thing} (h : St w0 w os) (pv : Value) (p : List Nat) (hp : ∀ x ∈ p, x < 256) (hv : ∀ w' os', St w0 w' (os' ++ os) → Reads w' pv (bytesOf p)) :
    Calls Try.prog 13 #[pv] w fun e w' => ∃ OS, St w0 w' (OS ++ os) ∧
      ((∃ x, x < 18446744073709551616 ∧ PackP.numB x <+: p ∧ e = .returned (.tuple #[.int .u64 x, .int .i64 ((PackP.numB x).length : Nat), .bool true])) ∨
       ((∀ y, y < 18446744073709551616 → ¬ PackP.numB y <+: p) ∧ e = .returned (.tuple #[.int .u64 0, .int .i64 0, .bool false]))) := by
  obtain ⟨ao, cap, rfl, hcap, hm, hnil, hc⟩ := hv w [] h
  rw [bytesOf_len] at *
  have hl : p.length ≤ 9223372036854775807 := by unfold maxLen at hm; omega
  have HC := Lib.hid hc
  have HP := Lib.hid hp
  have HV := Lib.hid hv
  have H := Lib.hid h
  clear hc hnil hm hcap hp hv h
  go_enter Try.func13, Try.ntmps13
  go_wp2_with fail
  go_loopw [5] (fun nv wr => ∃ n : Nat, 1 ≤ n ∧ nv = .int .i64 n ∧ n ≤ p.length + 1 ∧ n ≤ 11 ∧ (∀ j (hj : j < p.length), j < n - 1 → 128 ≤ p[j]) ∧ w = wr) (fun nv _ => 12 - (intOf nv).toNat)
  case atStart => exact ⟨1, by omega, rfl, by omega, by omega, fun j hj h => by omega, rfl⟩
  case round =>
    obtain ⟨n, hn1, rfl, hnl, hn11, hA, rfl⟩ := hrel
    have HA := Lib.hid hA
    clear hA
    by_cases hlt : n ≤ p.length ∧ n ≤ 10
    · obtain ⟨hlt1, hlt2⟩ := hlt
      obtain ⟨m, rfl⟩ : ∃ m, n = m + 1 := ⟨n - 1, by omega⟩
      have hb : ∃ b, p[m] = b ∧ b < 256 := ⟨_, rfl, HP.out _ (List.getElem_mem hlt1)⟩
      obtain ⟨b, hb, hb256⟩ := hb
      have hpi : (bytesOf p)[m]? = some (.int .u8 (b : Int)) := by simp only [bytesOf, List.getElem?_map, List.getElem?_eq_getElem hlt1, hb]; rfl
      rcases HC.out with hc | ⟨bb, off, rfl, hc⟩
      · exfalso; rw [hc] at hpi; simp at hpi
      have cb := hc m _ hpi
      have HB := Lib.hid hb
      clear hc hb hpi
      by_cases hb1 : b < 128
      · have d1 : decide (128 ≤ (b : Int)) = false := decide_eq_false (by omega)
        have hmm : (((m + 1 : Nat) : Int) - 1) = (m : Int) := by omega
        go_wp2_with fail
        have HC2 : Hid (∀ (j : Nat) (u : Value), (bytesOf p)[j]? = some u → w.cell? ⟨bb, off + j, none⟩ = some u) := by
          rcases HC.out with h | ⟨b2, o2, h, h2⟩
          · intro j u hu; rw [h] at hu; simp at hu
          · cases h; exact h2
        go_loopw [6, 7] (fun xv iv wr => ∃ r : Nat, r ≤ m + 1 ∧ iv = .int .i64 ((r : Int) - 1) ∧ xv = .int .u64 ((PackP.valB ((p.take (m + 1)).drop r) % 18446744073709551616 : Nat) : Int) ∧ w = wr) (fun _ iv _ => (intOf iv + 1).toNat)
        case atStart => exact ⟨m + 1, by omega, by go_num, by rw [List.drop_eq_nil_of_le (by rw [List.length_take]; omega)]; rfl, rfl⟩
        case round =>
          obtain ⟨r, hr, rfl, rfl, rfl⟩ := hrel
          by_cases hr0 : 0 < r
          · obtain ⟨r, rfl⟩ : ∃ r', r = r' + 1 := ⟨r - 1, by omega⟩
            have hrr : (((r + 1 : Nat) : Int) - 1) = (r : Int) := by omega
            rw [hrr]
            have hrl : r < p.length := by omega
            obtain ⟨c, hc, hc256⟩ : ∃ c, p[r] = c ∧ c < 256 := ⟨_, rfl, HP.out _ (List.getElem_mem hrl)⟩
            have cr := HC2.out r (.int .u8 (c : Int)) (by simp only [bytesOf, List.getElem?_map, List.getElem?_eq_getElem hrl, hc]; rfl)
            have hst := PackP.valB_step (p.take (m + 1)) r (by rw [List.length_take]; omega)
            rw [List.getElem_take, hc] at hst
            have hvw := val_wrap (PackP.valB ((p.take (m + 1)).drop (r + 1))) (c % 128) (by omega)
            rw [← hst] at hvw
            have HVW := Lib.hid hvw
            have hvx : PackP.valB ((p.take (m + 1)).drop (r + 1)) % 18446744073709551616 < 18446744073709551616 := Nat.mod_lt _ (by decide)
            generalize PackP.valB ((p.take (m + 1)).drop (r + 1)) % 18446744073709551616 = vx at HVW hvx ⊢
            clear hst hvw hc
            go_wp2_with fail
            go_roundw
            case rel => exact ⟨r, by omega, rfl, congrArg (Value.int .u64) HVW.out, by first | rfl | trivial⟩
            case measure => simp [intOf] <;> omega
          · obtain rfl : r = 0 := by omega
            have hvx : PackP.valB ((p.take (m + 1)).drop 0) % 18446744073709551616 < 18446744073709551616 := Nat.mod_lt _ (by decide)
            obtain ⟨X, hX⟩ : ∃ X, PackP.valB ((p.take (m + 1)).drop 0) % 18446744073709551616 = X := ⟨_, rfl⟩
            rw [hX] at hvx ⊢
            have HX : Hid (∀ y, y < 18446744073709551616 → PackP.numB y <+: p → y = X ∧ (PackP.numB y).length = m + 1 ∧ p.take (m + 1) = PackP.numB y) := by
              intro y hy hyp
              have h1 := PackP.numB_first hyp m hlt1 (by rw [HB.out]; exact hb1) (fun j hj h => HA.out j hj (by omega))
              obtain ⟨h2, h3⟩ := PackP.numB_take hyp h1
              rw [List.drop_zero, h3, Nat.mod_eq_of_lt hy] at hX
              exact ⟨hX, h1, h2⟩
            clear hX
            have hz : (((0 : Nat) : Int) - 1) = -1 := rfl
            rw [hz]
            go_wp2_with fail
            refine (refNum19_any X H.out hvx).mono ?_
            rintro e w2 ⟨v, rfl, S2⟩
            obtain ⟨L, hL⟩ : ∃ L, (PackP.numB X).length = L := ⟨_, rfl⟩
            have hLp := PackP.numB_pos X
            have hL10 := PackP.numB_len10 X hvx
            rw [hL] at hLp hL10
            have hbl : (bytesOf (PackP.numB X)).length = L := by rw [bytesOf_len, hL]
            obtain ⟨g, cp, rfl, hcp, hcm⟩ := ownsRow_shape (S2.rowN hbl) hLp
            have S2 := Lib.hid S2
            have HLL := Lib.hid hL
            have HBL := Lib.hid hbl
            clear hL hbl
            by_cases hLm : L = m + 1
            · subst hLm
              go_wp2_with fail
              go_loopw [49] (fun iv wr => ∃ i : Nat, i ≤ m + 1 ∧ iv = .int .i64 i ∧ (∀ j (h1 : j < p.length) (h2 : j < (PackP.numB X).length), j < i → (PackP.numB X)[j] = p[j]) ∧ St w0 wr (rowT 5 (.slice (some ⟨g, 0, none⟩) (m + 1) cp) (bytesOf (PackP.numB X)) :: os)) (fun iv _ => m + 1 - (intOf iv).toNat)
              case atStart => exact ⟨0, by omega, rfl, fun j _ _ h => by omega, S2.out⟩
              case round =>
                obtain ⟨i, hi, rfl, hE, hS⟩ := hrel
                have HE := Lib.hid hE
                have HS := Lib.hid hS
                clear hE hS S2
                by_cases hil : i < m + 1
                · have hip : i < p.length := by omega
                  have hio : i < (PackP.numB X).length := by rw [HLL.out]; exact hil
                  obtain ⟨c, hc, hc256⟩ : ∃ c, p[i] = c ∧ c < 256 := ⟨_, rfl, HP.out _ (List.getElem_mem hip)⟩
                  obtain ⟨d, hd, hd256⟩ : ∃ d, (PackP.numB X)[i] = d ∧ d < 256 := ⟨_, rfl, PackP.numB_byte X _ (List.getElem_mem hio)⟩
                  have co : wr.cell? ⟨g, i, none⟩ = some (.int .u8 (d : Int)) := by
                    rw [(HS.out.rowN HBL.out).cellAt i (by omega)]; simp only [bytesOf, List.getElem?_map, List.getElem?_eq_getElem hio, hd]; rfl
                  have cp' : wr.cell? ⟨bb, off + i, none⟩ = some (.int .u8 (c : Int)) := by
                    obtain ⟨ao', cap', he, _, _, _, hc2⟩ := HV.out wr [_] HS.out
                    rcases hc2 with hc2 | ⟨b2, o2, hb2, hc2⟩
                    · have : p.length = 0 := by rw [← bytesOf_len, hc2]; rfl
                      omega
                    · subst hb2
                      simp only [Value.slice.injEq, Option.some.injEq, Addr.mk.injEq] at he
                      obtain ⟨⟨rfl, rfl, _⟩, _, _⟩ := he
                      exact hc2 i (.int .u8 (c : Int)) (by simp only [bytesOf, List.getElem?_map, List.getElem?_eq_getElem hip, hc]; rfl)
                  have HCD := Lib.hid (And.intro hc hd)
                  clear hc hd
                  go_wp2_with fail
                  go_quiet (fail)
                  have HS2 := Lib.hid (HS.out.drewN nq)
                  clear co cp' HS
                  generalize wr.drewN nq = W2 at HS2 ⊢
                  by_cases hdc : d = c
                  · subst hdc
                    go_wp2_with fail
                    go_roundw
                    case rel =>
                      refine ⟨i + 1, by omega, by go_num, fun j h1 h2 h3 => ?_, HS2.out⟩
                      by_cases hji : j < i
                      · exact HE.out j h1 h2 hji
                      · obtain rfl : j = i := by omega
                        rw [HCD.out.1, HCD.out.2]
                    case measure => simp [intOf]; omega
                  · have hne : ((d : Int) != (c : Int)) = true := bne_iff_ne.2 (by omega)
                    have HN : Hid (∀ y, y < 18446744073709551616 → ¬ PackP.numB y <+: p) := by
                      intro y hy hyp
                      obtain ⟨rfl, h2, h3⟩ := HX.out y hy hyp
                      have h4 := HCD.out.2
                      simp only [← h3, List.getElem_take] at h4
                      exact hdc (h4.symm.trans HCD.out.1)
                    clear hdc
                    go_wp2_with fail
                    go_ret3
                    exact ⟨[_], HS2.out, .inr ⟨HN.out, rfl⟩⟩
                · have HN : Hid (PackP.numB X <+: p) := by
                    show _ <+: _
                    rw [List.prefix_iff_eq_take]
                    apply List.ext_getElem
                    · rw [List.length_take, HLL.out]; omega
                    · intro j h1 h2
                      rw [List.getElem_take]
                      exact HE.out j (by rw [List.length_take] at h2; omega) h1 (by rw [HLL.out] at h1; omega)
                  go_wp2_with fail
                  go_ret3
                  exact ⟨[_], HS.out, .inl ⟨X, hvx, HN.out, by rw [HLL.out]; rfl⟩⟩
            · have HN : Hid (∀ y, y < 18446744073709551616 → ¬ PackP.numB y <+: p) := by
                intro y hy hyp
                obtain ⟨rfl, h2, _⟩ := HX.out y hy hyp
                exact hLm (HLL.out.symm.trans h2)
              go_wp2_with fail
              go_ret3
              exact ⟨[_], S2.out, .inr ⟨HN.out, rfl⟩⟩
      · have d1 : decide (128 ≤ (b : Int)) = true := decide_eq_true (by omega)
        have hmm : (((m + 1 : Nat) : Int) - 1) = (m : Int) := by omega
        go_wp2_with fail
        go_roundw
        case rel =>
          refine ⟨m + 1 + 1, by omega, by go_num, by omega, by omega, fun j hj h => ?_, by first | rfl | trivial⟩
          by_cases hjm : j < m
          · exact HA.out j hj (by omega)
          · obtain rfl : j = m := by omega
            rw [HB.out]; omega
        case measure => simp [intOf]; omega
    · have HN : Hid (∀ y, y < 18446744073709551616 → ¬ PackP.numB y <+: p) := fun y hy => PackP.numB_none hy (n - 1) HA.out (by omega)
      by_cases h1 : n ≤ p.length
      · go_wp2_with fail
        go_ret3
        exact ⟨[], H.out, .inr ⟨HN.out, rfl⟩⟩
      · go_wp2_with fail
        go_ret3
        exact ⟨[], H.out, .inr ⟨HN.out, rfl⟩⟩
end Go.Proofs.Ytgmgbgjghncipaa

