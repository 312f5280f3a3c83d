/- dart.New, and what a map says. -/
import Derived.Test.YtoipbbobkllddaaMixed
namespace Go.Proofs.Ytoipbbobkllddaa
open Go.RowKit

/-- a map's cells -/
def dartObj (p q : Option Addr) (r l : Int) : Obj :=
  .cells #[.pointer p, .int .u32 0, .int .i32 0, .int .u32 0, .slice none 0 0, .slice none 0 0, .pointer q, .int .u32 0, .int .i32 0, .int .u32 0, .slice none 0 0, .slice none 0 0, .int .i64 r, .int .i64 l] 106

/-- the next ones along the faces -/
def phiL (xs : List Int) : List Int := mapL xs.length fun d => toN xs (mateN d)
theorem phiL_perm {xs : List Int} (hp : IsPerm xs) (h2 : xs.length % 2 = 0) : IsPerm (phiL xs) := by
  refine mapL_perm (fun d hd => (toN_lt hp (mateN_lt h2 hd)).1) fun i j hi hj he => ?_
  have h1 := toN_inj hp (mateN_lt h2 hi) (mateN_lt h2 hj) he
  have h3 := congrArg mateN h1
  rwa [mateN_mateN, mateN_mateN] at h3
/-- the first of them -/
def phiRow (xs : List Int) (i : Nat) : Nat → Int := fun d => if d < i then (toN xs (mateN d) : Int) else 0

/-- a map that stands -/
def HasMap (os : List Thing) (m : Nat) (xs : List Int) (r : Int) : Prop := ∃ (p : Nat) (q : Option Addr) (v : Value), cellT m (dartObj (some ⟨p, 0, none⟩) q r 0) ∈ os ∧ cellT p (permObj v) ∈ os ∧ rowT 3 v (intsOf xs) ∈ os
theorem HasMap.more {os : List Thing} {m : Nat} {xs : List Int} {r : Int} (h : HasMap os m xs r) (ps : List Thing) : HasMap (ps ++ os) m xs r := by
  obtain ⟨p, q, v, h1, h2, h3⟩ := h
  exact ⟨p, q, v, List.mem_append_right _ h1, List.mem_append_right _ h2, List.mem_append_right _ h3⟩
theorem HasMap.head {os : List Thing} {m p : Nat} {q : Option Addr} {v : Value} {xs : List Int} {r : Int} : HasMap (cellT m (dartObj (some ⟨p, 0, none⟩) q r 0) :: cellT p (permObj v) :: rowT 3 v (intsOf xs) :: os) m xs r :=
  ⟨p, q, v, by simp, by simp, by simp⟩

theorem xor1 (d : Nat) (hd : d < 9223372036854775808) : bits BinOp.xor IntKind.i64 (d : Int) 1 = (mateN d : Int) := by rw [xor_one d hd, mateI_nat]

set_option maxRecDepth 100000 in
set_option maxHeartbeats 4000000 in
theorem dartNew_any {w0 w : World} {os : List Thing} (h : St w0 w os) (sv : Value) (xs : List Int) (n : Nat) (hv : ∀ w' os', St w0 w' (os' ++ os) → Reads w' sv (intsOf xs)) (hp : IsPerm xs) (hl : xs.length = 2 * n) (hn : n ≤ 1000) (r : Int) (hr : (n = 0 ∧ r = -1) ∨ (0 < n ∧ 0 ≤ r ∧ r < 2 * (n : Int))) :
    Calls Try.prog 35 #[sv, .int .i64 r, .int .i64 0] w fun e w' => ∃ m p q v, e = .returned (.tuple #[.pointer (some ⟨m, 0, none⟩), .int .i64 0]) ∧ St w0 w' (cellT m (dartObj (some ⟨p, 0, none⟩) q r 0) :: cellT p (permObj v) :: rowT 3 v (intsOf xs) :: os) := by
  have HOF := Lib.hid (permOf_any h sv xs (by omega) hv)
  obtain ⟨aS, cS, rfl, j1, j2, j3, j4⟩ := hv w [] h
  clear j1 j2 j3 j4
  obtain ⟨N, hN⟩ : ∃ N, 2 * n = N := ⟨_, rfl⟩
  rw [intsOf_len, hl] at hv HOF ⊢
  rw [hN] at hl hv HOF ⊢
  have hq : (N : Int).tdiv 2 = (n : Int) := by rw [Int.tdiv_eq_ediv_of_nonneg (by omega)]; omega
  have htm : (N : Int).tmod 2 = 0 := by rw [Int.tmod_eq_emod_of_nonneg (by omega)]; omega
  have hN1 : N ≤ 2000 := by omega
  have HN := Lib.hid hN
  have HL := Lib.hid hl
  have HP := Lib.hid hp
  have HR := Lib.hid hr
  have HV : Hid (∀ a b c w' os', St w0 w' (os' ++ (a :: b :: c :: os)) → Reads w' (.slice aS N cS) (intsOf xs)) := fun a b c w' os' hW => hv w' (os' ++ [a, b, c]) (by simpa using hW)
  clear h hv hl hp hN hr
  rcases HR.out with ⟨hn0, rfl⟩ | ⟨hn0, hr0, hr1⟩
  · have hN0 : N = 0 := by have := HN.out; omega
    have hNe : ((N : Int) == 0) = true := beq_iff_eq.2 (by omega)
    have hNp : ¬ (0 : Int) < (N : Int) := by omega
    clear hN0
    go_enter Try.func35, Try.ntmps35
    go_wp2_with fail
    refine HOF.out.mono ?_
    rintro e w2 (⟨_, p, v, rfl, h2⟩ | ⟨hno, _⟩)
    rotate_left
    · exact absurd HP.out hno
    have hmk := run_make_row' (P := Try.prog) 22 3 (.int .i64 0) 8 Try.underlying22 info_i64 rfl .i64 .i64 N (by omega) (by omega)
    have h3 := h2.newRow ((Keeps.refl _ _).alloc _) (made_row w2 N (by omega))
    have S3 : Hid (St w0 (w2.alloc (.cells (madeCells #[.int .i64 0] N) 3)) (rowT 3 (.slice (some ⟨w2.heap.size, 0, none⟩) N N) (iRow (phiRow xs 0) N) :: cellT p (permObj v) :: rowT 3 v (intsOf xs) :: os)) := by
      have e : List.replicate N (Value.int .i64 0) = iRow (phiRow xs 0) N := by
        rw [show phiRow xs 0 = fun _ => 0 from by funext d; unfold phiRow; rw [if_neg (by omega)]]
        apply List.ext_getElem <;> simp [iRow]
      show St _ _ _
      rw [← e]; exact h3
    clear h2 h3 HOF
    go_wp2_with fail
    generalize hW : w2.alloc (.cells (madeCells #[.int .i64 0] N) 3) = W3 at S3 ⊢
    clear hW hmk
    generalize w2.heap.size = g at S3 ⊢
    go_loopw [66] (fun iv wr => ∃ i : Nat, i ≤ N ∧ iv = .int .i64 i ∧ St w0 wr (rowT 3 (.slice (some ⟨g, 0, none⟩) N N) (iRow (phiRow xs i) N) :: cellT p (permObj v) :: rowT 3 v (intsOf xs) :: os)) (fun iv _ => N - (intOf iv).toNat)
    case atStart => exact ⟨0, by omega, rfl, S3.out⟩
    case round =>
      obtain ⟨i, hi, rfl, hS⟩ := hrel
      have HS := Lib.hid hS
      clear hS S3
      by_cases hlt : i < N
      · exfalso; omega
      · have hiN : i = N := by omega
        have h2N : xs.length % 2 = 0 := by rw [HL.out]; have := HN.out; omega
        have hfin : iRow (phiRow xs i) N = intsOf (phiL xs) := by
          unfold phiL
          rw [HL.out, ← mapL_row]
          refine iRow_congr fun j hj => ?_
          unfold phiRow
          rw [if_pos (by omega)]
        rw [hfin] at HS
        have hpl : (phiL xs).length = N := by unfold phiL; rw [mapL_len, HL.out]
        have HO2 := Lib.hid (permOf_any HS.out (.slice (some ⟨g, 0, none⟩) N N) (phiL xs) (by omega) (fun W os' hW => hW.reads (E := 3) (by simp)))
        have HPP := Lib.hid (phiL_perm HP.out h2N)
        clear hi hfin h2N hpl HS
        go_wp2_with fail
        refine HO2.out.mono ?_
        rintro e w5 (⟨_, q, u, rfl, h5⟩ | ⟨hno, _⟩)
        rotate_left
        · exact absurd HPP.out hno
        have H6 := Lib.hid (h5.newCell (dartObj (some ⟨p, 0, none⟩) (some ⟨q, 0, none⟩) (-1) 0))
        clear h5 HO2
        go_wp2_with fail
        go_ret2
        exact ⟨_, p, some ⟨q, 0, none⟩, v, rfl, H6.out.swap.tail.swap.tail.swap.tail⟩
  · have hNp : (0 : Int) < (N : Int) := by have := HN.out; omega
    have hNe : ((N : Int) == 0) = false := beq_eq_false_iff_ne.2 (by omega)
    have hrn : ¬ r < 0 := by omega
    have hrN : ¬ (N : Int) ≤ r := by have := HN.out; omega
    go_enter Try.func35, Try.ntmps35
    go_wp2_with fail
    refine HOF.out.mono ?_
    rintro e w2 (⟨_, p, v, rfl, h2⟩ | ⟨hno, _⟩)
    rotate_left
    · exact absurd HP.out hno
    have hmk := run_make_row' (P := Try.prog) 22 3 (.int .i64 0) 8 Try.underlying22 info_i64 rfl .i64 .i64 N (by omega) (by omega)
    have h3 := h2.newRow ((Keeps.refl _ _).alloc _) (made_row w2 N (by omega))
    have S3 : Hid (St w0 (w2.alloc (.cells (madeCells #[.int .i64 0] N) 3)) (rowT 3 (.slice (some ⟨w2.heap.size, 0, none⟩) N N) (iRow (phiRow xs 0) N) :: cellT p (permObj v) :: rowT 3 v (intsOf xs) :: os)) := by
      have e : List.replicate N (Value.int .i64 0) = iRow (phiRow xs 0) N := by
        rw [show phiRow xs 0 = fun _ => 0 from by funext d; unfold phiRow; rw [if_neg (by omega)]]
        apply List.ext_getElem <;> simp [iRow]
      show St _ _ _
      rw [← e]; exact h3
    clear h2 h3 HOF
    go_wp2_with fail
    generalize hW : w2.alloc (.cells (madeCells #[.int .i64 0] N) 3) = W3 at S3 ⊢
    clear hW hmk
    generalize w2.heap.size = g at S3 ⊢
    go_loopw [66] (fun iv wr => ∃ i : Nat, i ≤ N ∧ iv = .int .i64 i ∧ St w0 wr (rowT 3 (.slice (some ⟨g, 0, none⟩) N N) (iRow (phiRow xs i) N) :: cellT p (permObj v) :: rowT 3 v (intsOf xs) :: os)) (fun iv _ => N - (intOf iv).toNat)
    case atStart => exact ⟨0, by omega, rfl, S3.out⟩
    case round =>
      obtain ⟨i, hi, rfl, hS⟩ := hrel
      have HS := Lib.hid hS
      clear hS S3
      by_cases hlt : i < N
      · have h2N : N % 2 = 0 := by have := HN.out; omega
        have hmN := mateN_lt h2N hlt
        have hxor := xor1 i (by omega)
        obtain ⟨e, he⟩ : ∃ e, mateN i = e := ⟨_, rfl⟩
        rw [he] at hmN hxor
        have hex : e < xs.length := by rw [HL.out]; exact hmN
        obtain ⟨hx1, hx2⟩ := toN_lt HP.out hex
        obtain ⟨x, hx⟩ : ∃ x, toN xs e = x := ⟨_, rfl⟩
        rw [hx] at hx1 hx2
        obtain ⟨a8, c8, he8, q1, q2, q3, hc8⟩ := HV.out _ _ _ wr [] HS.out
        simp only [Value.slice.injEq] at he8
        obtain ⟨rfl, hq8, rfl⟩ := he8
        have hv8 : (intsOf xs)[e]? = some (.int .i64 x) := by simp only [intsOf, List.getElem?_map, hx2]; rfl
        rcases hc8 with hc8 | ⟨pb, po, rfl, hc8⟩
        · rw [hc8] at hv8; simp at hv8
        have cx := hc8 e _ hv8
        have hrow := HS.out.rowN (iRow_len _ N)
        have cz := hrow.cellAt i (by omega)
        rw [iRow_get _ N i hlt] at cz
        have fz := hrow.frozenAt i
        have hst := HS.out.store (iRow_len _ N) i (.int .i64 (x : Nat))
        have hset := iRow_set (phiRow xs i) (phiRow xs (i + 1)) N i (fun y hy hne => by
          unfold phiRow
          by_cases hb : y < i
          · rw [if_pos hb, if_pos (by omega)]
          · rw [if_neg hb, if_neg (by omega)])
        have htx : phiRow xs (i + 1) i = (x : Int) := by unfold phiRow; rw [if_pos (by omega), he, hx]
        rw [htx] at hset
        rw [hset] at hst
        have HST := Lib.hid hst
        clear hst hset htx hrow hc8 hv8 hq8 q1 q2 q3 hx hx1 hx2 hex he HS
        go_wp2_with fail
        go_roundw
        case rel => exact ⟨i + 1, by omega, by go_num, HST.out⟩
        case measure => simp [intOf]; omega
      · have hiN : i = N := by omega
        have h2N : xs.length % 2 = 0 := by rw [HL.out]; have := HN.out; omega
        have hfin : iRow (phiRow xs i) N = intsOf (phiL xs) := by
          unfold phiL
          rw [HL.out, ← mapL_row]
          refine iRow_congr fun j hj => ?_
          unfold phiRow
          rw [if_pos (by omega)]
        rw [hfin] at HS
        have hpl : (phiL xs).length = N := by unfold phiL; rw [mapL_len, HL.out]
        have HO2 := Lib.hid (permOf_any HS.out (.slice (some ⟨g, 0, none⟩) N N) (phiL xs) (by omega) (fun W os' hW => hW.reads (E := 3) (by simp)))
        have HPP := Lib.hid (phiL_perm HP.out h2N)
        clear hi hfin h2N hpl HS
        go_wp2_with fail
        refine HO2.out.mono ?_
        rintro e w5 (⟨_, q, u, rfl, h5⟩ | ⟨hno, _⟩)
        rotate_left
        · exact absurd HPP.out hno
        have H6 := Lib.hid (h5.newCell (dartObj (some ⟨p, 0, none⟩) (some ⟨q, 0, none⟩) r 0))
        clear h5 HO2
        go_wp2_with fail
        go_ret2
        exact ⟨_, p, some ⟨q, 0, none⟩, v, rfl, H6.out.swap.tail.swap.tail.swap.tail⟩
end Go.Proofs.Ytoipbbobkllddaa

