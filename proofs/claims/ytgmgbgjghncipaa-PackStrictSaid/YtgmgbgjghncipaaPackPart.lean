/- bytes.HasPrefix and pack.part. -/
import Derived.Test.YtgmgbgjghncipaaPackIn
import Derived.Test.YtgmgbgjghncipaaBytesWalk
import Derived.Test.YtgmgbgjghncipaaClone
namespace Go.Proofs.Ytgmgbgjghncipaa
open Go.RowKit

set_option maxRecDepth 100000 in
set_option maxHeartbeats 1000000 in
theorem hasPrefix_any (pv qv : Value) (p q : List Nat) (w : World) (hpv : Reads w pv (bytesOf p)) (hqv : Reads w qv (bytesOf q)) (hp : ∀ x ∈ p, x < 256) (hq : ∀ x ∈ q, x < 256) :
    Calls Try.prog 25 #[pv, qv] w fun e w' => e = .returned (.bool (decide (q <+: p))) ∧ w = w' := by
  have hq2 := Lib.hid hqv
  have hp2 := hpv
  obtain ⟨a, c, rfl, hc, hm, hnil, _⟩ := hpv
  obtain ⟨b, d, rfl, hc2, hm2, _, _⟩ := hqv
  simp only [bytesOf_len] at *
  have hcm : c ≤ 9223372036854775807 := by unfold maxLen at hm; omega
  have hdm : q.length ≤ 9223372036854775807 := by unfold maxLen at hm2; omega
  by_cases hle : q.length ≤ p.length
  · have h1 := hp2.take q.length hle
    rw [bytesOf_take] at h1
    have HC := Lib.hid (bytesEqual_any _ _ (p.take q.length) q w h1 hq2.out (fun x hx => hp x (List.mem_of_mem_take hx)) hq)
    have HE : Hid (decide (p.take q.length = q) = decide (q <+: p)) := by
      show _ = _
      rw [decide_eq_decide, List.prefix_iff_eq_take, eq_comm]
    clear h1 hp2 hm hm2
    go_enter Try.func25, Try.ntmps25
    go_wp2_with fail
    refine HC.out.mono ?_
    rintro e w' ⟨rfl, rfl⟩
    rw [HE.out]
    go_wp2
    go_ret
    exact ⟨rfl, rfl⟩
  · have HE : Hid (decide (q <+: p) = false) := by
      show _ = _
      exact decide_eq_false fun h => hle h.length_le
    clear hp2 hm hm2
    rw [HE.out]
    go_enter Try.func25, Try.ntmps25
    go_wp2
    go_ret
    exact ⟨rfl, rfl⟩

/-- the first bytes, so many bits -/
def partB (p : List Nat) (n : Nat) : Option (List Bool) :=
  if 134217728 < n ∨ p.length < (n + 7) / 8 then none
  else if bytesB (fewOf (p.take ((n + 7) / 8)) n) = p.take ((n + 7) / 8) then some (fewOf (p.take ((n + 7) / 8)) n) else none

set_option maxRecDepth 100000 in
set_option maxHeartbeats 1000000 in
theorem part_any {w0 w : World} {os : List Thing} (h : St w0 w os) (a : Option Addr) (cap : Nat) (p : List Nat) (hp : ∀ x ∈ p, x < 256) (n : Nat) (hn : n < 18446744073709551616) (hlen : p.length < 1099511627)
    (hv : ∀ w' os', St w0 w' (os' ++ os) → Reads w' (.slice a p.length cap) (bytesOf p)) :
    Calls Try.prog 31 #[.slice a p.length cap, .int .u64 n] w fun e w' =>
      (∃ T, partB p n = some T ∧ ∃ b v, e = .returned (.tuple #[.pointer (some ⟨b, 0, none⟩), .int .i64 0]) ∧ St w0 w' (vecT b v T :: os)) ∨
      (partB p n = none ∧ e = .returned (.tuple #[.pointer none, .int .i64 3]) ∧ St w0 w' os) := by
  have hR := hv w [] h
  have hlc := hR.len_le
  have hcm : cap ≤ 9223372036854775807 := by
    obtain ⟨_, _, he, _, hm, _⟩ := hR
    simp only [Value.slice.injEq] at he
    obtain ⟨_, _, rfl⟩ := he
    unfold maxLen at hm; omega
  have H := Lib.hid h
  by_cases hbig : 134217728 < n
  · have d1 : decide (134217728 < (n : Int)) = true := decide_eq_true (by omega)
    have HN : Hid (partB p n = none) := by show _ = _; unfold partB; rw [if_pos (.inl hbig)]
    clear hR hv h
    go_enter Try.func31, Try.ntmps31
    go_wp2
    all_goals first | (go_ret2; exact .inr ⟨HN.out, rfl, H.out⟩) | (trace_state; sorry)
  · have d1 : decide (134217728 < (n : Int)) = false := decide_eq_false (by omega)
    obtain ⟨s, hs⟩ : ∃ s, (n + 7) / 8 = s := ⟨_, rfl⟩
    have hs1 : n ≤ 8 * s := by omega
    have hs2 : 8 * s < n + 8 := by omega
    have hsi : ((n : Int) + 8 - 1) / 8 = (s : Int) := by omega
    by_cases hsh : p.length < s
    · have HN : Hid (partB p n = none) := by show _ = _; unfold partB; rw [if_pos (.inr (by rw [hs]; exact hsh))]
      clear hR hv h
      go_enter Try.func31, Try.ntmps31
      go_wp2_with fail
      go_ret2
      exact .inr ⟨HN.out, rfl, H.out⟩
    · clear h
      have HV := Lib.hid hv
      have HP := Lib.hid hp
      clear hv hp hR
      go_enter Try.func31, Try.ntmps31
      have hql : (p.take s).length = s := by rw [List.length_take]; omega
      have hcall := bitsOf_all H.out a cap (p.take s) (fun x hx => HP.out x (List.mem_of_mem_take hx)) n (by omega) (fun w' o h' => by
        have := (HV.out w' [o] h').take s (by omega)
        rw [hql]
        rwa [bytesOf_take] at this)
      rw [hql] at hcall
      have HCALL := Lib.hid hcall
      have HPB : Hid (partB p n = if bytesB (fewOf (p.take s) n) = p.take s then some (fewOf (p.take s) n) else none) := by
        show _ = _
        unfold partB
        rw [hs, if_neg (by omega)]
      clear hql hcall
      go_wp2_with fail
      refine HCALL.out.mono ?_
      rintro e w' ⟨pv, ev, OS, rfl, hS, hcase⟩
      rcases hcase with ⟨hbad, _⟩ | ⟨k, hk, hk1, hk2, hcase⟩
      · exfalso; omega
      · obtain rfl : k = n := by omega
        rcases hcase with ⟨h1, rfl, rfl⟩ | ⟨h1, rfl, b, v, rfl, rfl⟩
        · go_wp2_with fail
          go_ret2
          exact .inr ⟨by rw [HPB.out, if_neg h1], rfl, St.dropL OS hS⟩
        · go_wp2_with fail
          go_ret2
          exact .inl ⟨_, by rw [HPB.out, if_pos h1], b, v, rfl, hS⟩
end Go.Proofs.Ytgmgbgjghncipaa

