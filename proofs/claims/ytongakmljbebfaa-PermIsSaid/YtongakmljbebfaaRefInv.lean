/- The document's inverse. -/
import Derived.Test.YtongakmljbebfaaNilPm
import Derived.Test.YtongakmljbebfaaMates
namespace Go.Proofs.Ytongakmljbebfaa
open Go.RowKit

set_option maxRecDepth 100000 in
set_option maxHeartbeats 4000000 in
theorem refInverse_any {w0 w : World} {os : List Thing} (h : St w0 w os) (sv : Value) (xs : List Int) (hv : ∀ w' os', St w0 w' (os' ++ os) → Reads w' sv (intsOf xs)) (hp : IsPerm xs) (hl : xs.length ≤ 1000000) :
    Calls Try.prog 24 #[sv] w fun e w' => ∃ f, e = .returned f ∧ St w0 w' (rowT 3 f (intsOf (invL xs)) :: os) := by
  obtain ⟨a, c, rfl, hlc, hcm, j1, j2⟩ := hv w [] h
  clear j1 j2
  obtain ⟨n, hn⟩ : ∃ n, xs.length = n := ⟨_, rfl⟩
  have HN := Lib.hid hn
  have HP := Lib.hid hp
  rw [intsOf_len, hn] at hlc hv ⊢
  rw [hn] at hl
  have HV : Hid (∀ o w' os', St w0 w' (os' ++ (o :: os)) → Reads w' (.slice a n c) (intsOf xs)) := fun o w' os' hW => hv w' (os' ++ [o]) (by simpa using hW)
  have hmk := run_make_row' (P := Try.prog) 24 3 (.int .i64 0) 8 Try.underlying24 info_i64 rfl .i64 .i64 n (by omega) (by omega)
  have hrow : (w.alloc (.cells (madeCells #[.int .i64 0] n) 3)).ownsRow w.heap.size 3 1 (.slice (some ⟨w.heap.size, 0, none⟩) n n) n (iRow (turnRow xs 0) n) := by
    have := World.ownsRow_lit (base := w.heap.size) (e := 3) (size := 1) w (madeCells #[.int .i64 0] n) n (Nat.le_refl _) (by unfold maxLen; omega) (by simp [madeCells])
    rw [toList_madeCells_one] at this
    have e : List.replicate n (Value.int .i64 0) = iRow (fun _ => 0) n := by apply List.ext_getElem <;> simp [iRow]
    have e2 : iRow (turnRow xs 0) n = iRow (fun _ => 0) n := iRow_congr fun j hj => by unfold turnRow; rw [if_neg (by omega)]
    rw [e, ← e2] at this
    exact this
  have H2 := Lib.hid (h.newRow ((Keeps.refl _ _).alloc _) hrow)
  clear h hrow hp hn hlc hv hcm
  go_enter Try.func24, Try.ntmps24
  go_wp2_with fail
  clear hmk
  generalize hW : (w.alloc (.cells (madeCells #[.int .i64 0] n) 3)) = W2 at H2 ⊢
  clear hW
  generalize w.heap.size = g at H2 ⊢
  go_loopw [11] (fun iv wr => ∃ i : Nat, i ≤ n ∧ iv = .int .i64 i ∧ St w0 wr (rowT 3 (.slice (some ⟨g, 0, none⟩) n n) (iRow (turnRow xs i) n) :: os)) (fun iv _ => n - (intOf iv).toNat)
  case atStart => exact ⟨0, by omega, rfl, H2.out⟩
  case round =>
    obtain ⟨i, hi, rfl, hS⟩ := hrel
    have HS := Lib.hid hS
    clear hS H2
    by_cases hlt : i < n
    · have hix : i < xs.length := by rw [HN.out]; exact hlt
      obtain ⟨hx1, hx2⟩ := toN_lt HP.out hix
      have hbx := back_toN HP.out hix
      obtain ⟨x, hx⟩ : ∃ x, toN xs i = x := ⟨_, rfl⟩
      rw [hx] at hx1 hx2 hbx
      have hxn : x < n := by rw [← HN.out]; exact hx1
      obtain ⟨a8, c8, he8, j1, j2, j3, hc8⟩ := HV.out _ wr [] HS.out
      simp only [Value.slice.injEq] at he8
      obtain ⟨rfl, hq8, rfl⟩ := he8
      clear hq8 j1 j2 j3
      have hv8 : (intsOf xs)[i]? = some (.int .i64 x) := by simp only [intsOf, List.getElem?_map, hx2]; rfl
      rcases hc8 with hc8 | ⟨pb, po, rfl, hc8⟩
      · rw [hc8] at hv8; simp at hv8
      have cx := hc8 i _ hv8
      have hrow := HS.out.rowN (iRow_len _ n)
      have cz := hrow.cellAt x (by omega)
      rw [iRow_get _ n x hxn] at cz
      have fz := hrow.frozenAt x
      have hst := HS.out.store (iRow_len _ n) x (.int .i64 (i : Nat))
      have hset := iRow_set (turnRow xs i) (turnRow xs (i + 1)) n x (fun y hy hne => by
        have hyx : y < xs.length := by rw [HN.out]; exact hy
        have hbi : backN xs y ≠ i := fun e => hne (by
          have := toN_back HP.out hyx
          rw [e, hx] at this; exact this.symm)
        unfold turnRow
        by_cases hb : backN xs y < i
        · rw [if_pos hb, if_pos (by omega)]
        · rw [if_neg hb, if_neg (by omega)])
      have htx : turnRow xs (i + 1) x = (i : Int) := by unfold turnRow; rw [hbx, if_pos (by omega)]
      rw [htx] at hset
      rw [hset] at hst
      have HST := Lib.hid hst
      clear hst hset htx hrow hc8 hv8 hx hx1 hx2 hbx hix HS
      go_wp2_with fail
      go_roundw
      case rel => exact ⟨i + 1, by omega, by go_num, HST.out⟩
      case measure => simp [intOf]; omega
    · obtain rfl : i = n := by omega
      have hfin : iRow (turnRow xs i) i = intsOf (invL xs) := by
        unfold invL
        rw [HN.out, ← mapL_row]
        refine iRow_congr fun j hj => ?_
        unfold turnRow
        have := backN_lt HP.out (by rw [HN.out]; exact hj : j < xs.length)
        rw [if_pos (by rw [← HN.out]; exact this)]
      have HF := Lib.hid (hfin ▸ HS.out)
      clear hfin
      go_wp2_with fail
      go_ret
      exact ⟨_, rfl, HF.out⟩
end Go.Proofs.Ytongakmljbebfaa

