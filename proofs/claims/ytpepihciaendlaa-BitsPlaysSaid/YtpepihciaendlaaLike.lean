/- The laws' own helper: like. -/
import Derived.Test.YtpepihciaendlaaRefOut
namespace Go.Proofs.Ytpepihciaendlaa
open Go.RowKit

set_option maxHeartbeats 2000000 in
theorem like_any {w0 w : World} {os : List Thing} {b : Nat} {v : Value} {l : List Bool} (h : St w0 w os) (hm : vecT b v l ∈ os) (hn : l.length < 1099511627776) (sv : Value)
    (hv : ∀ w' os', St w0 w' (os' ++ os) → Reads w' sv (intsOf (bitsOf l))) :
    Calls Try.prog 27 #[.pointer (some ⟨b, 0, none⟩), sv] w fun e w' => e = .returned (.bool true) ∧ St w0 w' os := by
  obtain ⟨ao, cap, rfl, hcap, hmm, _, hc0⟩ := hv w [] h
  rw [intsOf_len, bitsOf_len] at hcap hv ⊢
  have HV := Lib.hid hv
  have HM := Lib.hid hm
  have H := Lib.hid h
  clear hmm hc0 hv hm h
  go_enter Try.func27, Try.ntmps27
  go_wp2_with fail
  refine (vecLen_any H.out HM.out).mono ?_
  rintro e w1 ⟨rfl, rfl⟩
  go_wp2_with fail
  refine (vecOnes_any H.out HM.out hn).mono ?_
  rintro e w1 ⟨rfl, h1⟩
  have H1 := Lib.hid h1
  clear h1 H
  go_wp2_with fail
  refine (refOnes_any _ l _ (HV.out _ [] H1.out)).mono ?_
  rintro e w2 ⟨rfl, rfl⟩
  generalize l.count true = cnt
  go_wp2_with fail
  refine (vecText_any H1.out HM.out hn).mono ?_
  rintro e w2 ⟨rfl, h2⟩
  have H2 := Lib.hid h2
  clear h2 H1
  go_wp2_with fail
  refine (refText_any _ l _ (HV.out _ [] H2.out)).mono ?_
  rintro e w3 ⟨rfl, rfl⟩
  generalize strOf (textOf l) = T
  go_wp2_with fail
  refine (vecBytes_any H2.out HM.out hn).mono ?_
  rintro e w3 ⟨g, rfl, h3, _⟩
  have H3 := Lib.hid h3
  clear h3 H2
  go_wp2_with fail
  refine (refBytes_any H3.out _ l hn (fun w' o h' => HV.out w' [o, _] h')).mono ?_
  rintro e w4 ⟨v4, rfl, h4⟩
  have H4 := Lib.hid h4
  clear h4 H3
  go_wp2_with fail
  refine (bytesEqual_any _ _ (bytesB l) (bytesB l) _ H4.out.tail.reads1 H4.out.reads1 (bytesB_lt l) (bytesB_lt l)).mono ?_
  rintro e w5 ⟨rfl, rfl⟩
  have H5 := Lib.hid H4.out.tail.tail
  clear H4
  go_wp2_with fail
  refine (vecAt_out H5.out HM.out (-1) (.inl (by decide))).mono ?_
  rintro e w6 ⟨rfl, rfl⟩
  go_wp2_with fail
  refine (vecAt_out H5.out HM.out l.length (.inr (by omega))).mono ?_
  rintro e w6 ⟨rfl, rfl⟩
  go_wp2_with fail
  go_loopw [48] (fun i wr => ∃ k : Nat, k ≤ l.length ∧ i = .int .i64 k ∧ St w0 wr os) (fun i _ => l.length - (intOf i).toNat)
  case atStart => exact ⟨0, by omega, rfl, H5.out⟩
  case round =>
    obtain ⟨k, hk, rfl, hS⟩ := hrel
    have HS := Lib.hid hS
    clear hS H5
    by_cases hlt : k < l.length
    · obtain ⟨ao', cap', he, _, _, _, hc⟩ := HV.out wr [] HS.out
      simp only [Value.slice.injEq] at he
      obtain ⟨rfl, hdrop, rfl⟩ := he
      clear hdrop
      rcases hc with hc | ⟨bb, off, rfl, hc⟩
      · have : l.length = 0 := by rw [← bitsOf_len, ← intsOf_len, hc]; rfl
        omega
      have cb := hc k _ (bitsOf_get l k hlt)
      have HA := Lib.hid (fun (_ : Unit) => vecAt_in HS.out HM.out k hlt)
      generalize (l.getD k false).toNat = t at cb HA
      clear hc
      go_wp2_with fail
      refine (HA.out ()).mono ?_
      rintro e w6 ⟨rfl, rfl⟩
      go_wp2
      go_roundw
      case rel => exact ⟨k + 1, by omega, by go_num, HS.out⟩
      case measure => simp [intOf]; omega
    · have hkl : k = l.length := by omega
      subst hkl
      go_wp2
      go_ret
      exact ⟨rfl, HS.out⟩
end Go.Proofs.Ytpepihciaendlaa

