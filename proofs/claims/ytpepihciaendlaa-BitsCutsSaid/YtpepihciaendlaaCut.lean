/- The contract of Vec.Cut. -/
import Derived.Test.YtpepihciaendlaaLike
namespace Go.Proofs.Ytpepihciaendlaa
open Go.RowKit

theorem cut_range {w0 w : World} {os : List Thing} {b : Nat} {v : Value} {l : List Bool} (h : St w0 w os) (hm : vecT b v l ∈ os) (x y : Int) (hb : x < 0 ∨ y < x ∨ (l.length : Int) < y) :
    Calls Try.prog 30 #[.pointer (some ⟨b, 0, none⟩), .int .i64 x, .int .i64 y] w fun e w' => e = .returned (.tuple #[.pointer none, .int .i64 1]) ∧ w = w' := by
  have h0 := (h.ok hm).1
  have c1 : w.cell? ⟨b, 1, none⟩ = some (.int .i64 l.length) := by simp [World.cell?, h0, vecObj]
  clear h0 h hm
  by_cases h0 : x < 0
  · clear hb
    go_enter Try.func30, Try.ntmps30
    go_wp2
    go_ret2
    exact ⟨rfl, rfl⟩
  · by_cases h1 : y < x
    · clear hb
      go_enter Try.func30, Try.ntmps30
      go_wp2
      go_ret2
      exact ⟨rfl, rfl⟩
    · have h2 : (l.length : Int) < y := by omega
      clear hb
      go_enter Try.func30, Try.ntmps30
      go_wp2
      go_ret2
      exact ⟨rfl, rfl⟩

set_option maxHeartbeats 2000000 in
theorem cut_main {w0 w : World} {os : List Thing} {b : Nat} {v : Value} {l : List Bool} (h : St w0 w os) (hm : vecT b v l ∈ os) (x y : Nat) (hxy : x ≤ y) (hy : y ≤ l.length) (hn : l.length < 1099511627000) :
    Calls Try.prog 30 #[.pointer (some ⟨b, 0, none⟩), .int .i64 x, .int .i64 y] w fun e w' =>
      ∃ b' v', e = .returned (.tuple #[.pointer (some ⟨b', 0, none⟩), .int .i64 0]) ∧ St w0 w' (vecT b' v' ((l.take y).drop x) :: os) := by
  have h0 := (h.ok hm).1
  have c1 : w.cell? ⟨b, 1, none⟩ = some (.int .i64 l.length) := by simp [World.cell?, h0, vecObj]
  have H := Lib.hid h
  have HM := Lib.hid hm
  have HS : Hid (∀ k, x ≤ k → k < y → (l.take (k + 1)).drop x = (l.take k).drop x ++ [l.getD k false]) := fun k h1 h2 => by
    rw [List.take_succ_eq_append_getElem (by omega), List.drop_append_of_le_length (by rw [List.length_take]; omega)]
    simp [List.getD_eq_getElem?_getD, show k < l.length by omega]
  have HE : Hid ((l.take x).drop x = []) := List.drop_eq_nil_of_le (by rw [List.length_take]; omega)
  clear h0 h hm
  go_enter Try.func30, Try.ntmps30
  go_wp2_with fail
  refine (bitsNew_any H.out).mono ?_
  rintro e w1 ⟨c, rfl, h1, _⟩
  have H1 := Lib.hid h1
  clear h1 H c1
  go_wp2_with fail
  go_loopw [9] (fun i wr => ∃ k : Nat, x ≤ k ∧ k ≤ y ∧ i = .int .i64 k ∧ ∃ v', St w0 wr (vecT c v' ((l.take k).drop x) :: os)) (fun i _ => y - (intOf i).toNat)
  case atStart => exact ⟨x, by omega, hxy, rfl, _, by rw [HE.out]; exact H1.out⟩
  case round =>
    obtain ⟨k, hxk, hk, rfl, v', hS⟩ := hrel
    clear H1
    have hS' := Lib.hid hS
    clear hS
    by_cases hlt : k < y
    · have hll : ((l.take k).drop x).length < 1099511627000 := by rw [List.length_drop, List.length_take]; omega
      have HF := Lib.hid (HS.out k hxk hlt)
      go_wp2_with fail
      refine (vecAt_in (b := b) (v := v) (l := l) hS'.out (List.mem_cons_of_mem _ HM.out) k (by omega)).mono ?_
      rintro e w2 ⟨rfl, rfl⟩
      generalize l.getD k false = t at HF ⊢
      go_wp2_with fail
      have S1 := Lib.hid (hS'.out.newCell (.cells #[.int .i64 ((t.toNat : Nat) : Int)] 3)).swap
      have hr : ∀ w' v' l', St w0 w' (vecT c v' l' :: cellT wr.heap.size (.cells #[.int .i64 ((t.toNat : Nat) : Int)] 3) :: os) → Reads w' (.slice (some ⟨wr.heap.size, 0, none⟩) 1 1) (intsOf [((t.toNat : Nat) : Int)]) := by
        intro w' v' l' h'
        refine ⟨_, 1, rfl, Nat.le_refl _, by decide, by simp, .inr ⟨_, 0, rfl, fun i u hu => ?_⟩⟩
        rw [Nat.zero_add, h'.swap.cellAt i]
        simpa [intsOf] using hu
      refine (vecAdd_any S1.out _ [((t.toNat : Nat) : Int)] hr (by simp only [List.length_cons, List.length_nil]; omega)).mono ?_
      rintro e w2 ⟨rfl, v2, S2⟩
      have hfl : flags [((t.toNat : Nat) : Int)] = [t] := by cases t <;> rfl
      rw [hfl] at S2
      have S3 := Lib.hid S2.swap.tail
      clear S1 S2 hr hfl
      go_wp2
      go_roundw
      case rel => exact ⟨k + 1, by omega, by omega, by go_num, v2, by rw [HF.out]; exact S3.out⟩
      case measure => simp [intOf]; omega
    · have hkl : k = y := by omega
      subst hkl
      go_wp2
      go_ret2
      exact ⟨c, v', rfl, hS'.out⟩
end Go.Proofs.Ytpepihciaendlaa
