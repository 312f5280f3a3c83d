/- bits.Same, and the document's Num. -/
import Derived.Test.YtoipbbobkllddaaEqual
namespace Go.Proofs.Ytoipbbobkllddaa
open Go.RowKit

def wordsI (l : List Bool) : List Int := (List.range ((l.length + 63) / 64)).map fun k => ((BitsP.word l k : Nat) : Int)
theorem wordsI_map (l : List Bool) : words l = (wordsI l).map (Value.int .u64) := by simp [words, wordsI]

theorem wordsI_inj {l m : List Bool} (hl : l.length = m.length) (h : wordsI l = wordsI m) : l = m := by
  apply List.ext_getElem hl
  intro i h1 h2
  have hk : i / 64 < (l.length + 63) / 64 := by omega
  have h3 : (wordsI l)[i / 64]? = (wordsI m)[i / 64]? := by rw [h]
  have hk' : i / 64 < (m.length + 63) / 64 := by omega
  simp only [wordsI, List.getElem?_map, List.getElem?_range hk, List.getElem?_range hk', Option.map_some, Option.some.injEq, Int.natCast_inj] at h3
  have h4 := BitsP.testBit_word l (i / 64) (i % 64)
  have h5 := BitsP.testBit_word m (i / 64) (i % 64)
  rw [h3, h5] at h4
  have e : 64 * (i / 64) + i % 64 = i := by omega
  have e2 : decide (i % 64 < 64) = true := decide_eq_true (Nat.mod_lt _ (by decide))
  rw [e, e2, Bool.true_and, Bool.true_and] at h4
  simpa [List.getD_eq_getElem?_getD, h1, h2] using h4.symm

theorem drewN_succ' (w : World) : ∀ n, ∃ m, w.drewN n = m ∧ m.heap = w.heap := fun n => ⟨_, rfl, rfl⟩

set_option maxRecDepth 100000 in
theorem St.drewN {w0 w : World} {os : List Thing} (h : St w0 w os) (n : Nat) : St w0 (w.drewN n) os := h.same (Keeps.drewN w n)

set_option maxRecDepth 100000 in
set_option maxHeartbeats 2000000 in
theorem same_any {w0 w : World} {os : List Thing} {b b' : Nat} {v v' : Value} {l l' : List Bool} (h : St w0 w os) (hm : vecT b v l ∈ os) (hm' : vecT b' v' l' ∈ os) :
    Calls Try.prog 31 #[.pointer (some ⟨b, 0, none⟩), .pointer (some ⟨b', 0, none⟩)] w fun e w' => e = .returned (.bool (decide (l = l'))) ∧ ∃ m, w' = w.drewN m := by
  have HA : Hid (∀ n, Calls Try.prog 21 #[.pointer (some ⟨b, 0, none⟩)] (w.drewN n) fun e w' => e = .returned (.int .i64 l.length) ∧ w' = w.drewN n) := fun n => (vecLen_any (h.drewN n) hm).mono fun _ _ ⟨h1, h2⟩ => ⟨h1, h2.symm⟩
  have HB : Hid (∀ n, Calls Try.prog 21 #[.pointer (some ⟨b', 0, none⟩)] (w.drewN n) fun e w' => e = .returned (.int .i64 l'.length) ∧ w' = w.drewN n) := fun n => (vecLen_any (h.drewN n) hm').mono fun _ _ ⟨h1, h2⟩ => ⟨h1, h2.symm⟩
  by_cases hne : l.length = l'.length
  · by_cases h0 : l.length = 0
    · have h0' : l'.length = 0 := by omega
      have HT : Hid (decide (l = l') = true) := decide_eq_true (by rw [List.length_eq_zero_iff.1 h0, List.length_eq_zero_iff.1 h0'])
      rw [h0] at HA
      rw [h0'] at HB
      clear hne h0 h0' h hm hm'
      go_enter Try.func31, Try.ntmps31
      go_wp2_with fail
      go_quiet ((go_at_call 21; first | (with_reducible exact Calls.quiet_of_same (HA.out _)) | (with_reducible exact Calls.quiet_of_same (HB.out _))))
      go_wp2
      go_ret
      exact ⟨by rw [HT.out]; rfl, _, rfl⟩
    · have h1 := (h.ok hm)
      have h2 := (h.ok hm')
      have HC : Hid (∀ n, Calls Try.prog 55 #[v, v'] (w.drewN n) fun e w' => e = .returned (.bool (decide (l = l'))) ∧ ∃ m, w' = (w.drewN n).drewN m) := fun n => by
        have h3 := ((h.drewN n).ok hm).2
        have h4 := ((h.drewN n).ok hm').2
        have := equalWords_any v v' (wordsI l) (wordsI l') (w.drewN n) (by rw [← wordsI_map]; exact Reads.of_owns h3) (by rw [← wordsI_map]; exact Reads.of_owns h4)
        refine this.mono ?_
        rintro e w' ⟨rfl, hw⟩
        refine ⟨?_, hw⟩
        congr 2
        refine decide_eq_decide.2 ⟨fun he => wordsI_inj hne he, fun he => by rw [he]⟩
      have c0 : w.cell? ⟨b, 0, none⟩ = some v := by simp [World.cell?, h1.1, vecObj]
      have c0' : w.cell? ⟨b', 0, none⟩ = some v' := by simp [World.cell?, h2.1, vecObj]
      obtain ⟨a1, p1, rfl, _, _⟩ := ownsRow_slice h1.2
      obtain ⟨a2, p2, rfl, _, _⟩ := ownsRow_slice h2.2
      rw [← hne] at HB
      have hz : ((l.length : Int) == 0) = false := beq_eq_false_iff_ne.2 (by omega)
      clear hne h hm hm' h1 h2
      go_enter Try.func31, Try.ntmps31
      go_wp2_with fail
      go_quiet (first | (go_at_call 21; first | (with_reducible exact Calls.quiet_of_same (HA.out _)) | (with_reducible exact Calls.quiet_of_same (HB.out _))) | (go_at_call 55; exact Calls.quiet_of (HC.out _)))
      go_wp2
      go_ret
      exact ⟨rfl, _, rfl⟩
  · have HF : Hid (decide (l = l') = false) := decide_eq_false (fun he => hne (by rw [he]))
    clear h hm hm'
    generalize l.length = n at HA hne
    generalize l'.length = n' at HB hne
    have hz : (n == n') = false := beq_eq_false_iff_ne.2 hne
    have hz2 : ((n : Int) == (n' : Int)) = false := beq_eq_false_iff_ne.2 (by omega)
    go_enter Try.func31, Try.ntmps31
    go_wp2_with fail
    go_quiet ((go_at_call 21; first | (with_reducible exact Calls.quiet_of_same (HA.out _)) | (with_reducible exact Calls.quiet_of_same (HB.out _))))
    go_wp2
    go_ret
    exact ⟨by rw [HF.out]; rfl, _, rfl⟩
end Go.Proofs.Ytoipbbobkllddaa

