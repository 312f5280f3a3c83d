/- perm.Of: a list is a permutation, or it is refused; Len, At, List. -/
import Derived.Test.YtoipbbobkllddaaThings
import Derived.Test.YtoipbbobkllddaaCloneMore
import Derived.WalkMore
namespace Go.Proofs.Ytoipbbobkllddaa
open Go.RowKit

theorem info_bool : (Try.prog.info? 4).map (fun i => (i.zero, i.size, i.bytes)) = some (some (.bool false), 1, 1) := by kernel_rfl

/-- each number below the length, each once -/
def IsPerm (xs : List Int) : Prop := (∀ x ∈ xs, 0 ≤ x ∧ x < (xs.length : Int)) ∧ xs.Nodup

/-- the cells of a permutation: where each goes, the Once, who goes there -/
def permObj (v : Value) : Obj := .cells #[v, .int .u32 0, .int .i32 0, .int .u32 0, .slice none 0 0] 81

/-- a row of flags -/
def bRow (f : Nat → Bool) (m : Nat) : List Value := (List.range m).map fun i => Value.bool (f i)
theorem bRow_len (f : Nat → Bool) (m : Nat) : (bRow f m).length = m := by simp [bRow]
theorem bRow_get (f : Nat → Bool) (m i : Nat) (h : i < m) : (bRow f m)[i]? = some (.bool (f i)) := by simp [bRow, h]
theorem bRow_congr {f g : Nat → Bool} {m : Nat} (h : ∀ j, j < m → f j = g j) : bRow f m = bRow g m := by
  unfold bRow
  refine List.map_congr_left fun j hj => ?_
  rw [h j (List.mem_range.1 hj)]
theorem bRow_set (f g : Nat → Bool) (m i : Nat) (h : ∀ j, j ≠ i → g j = f j) : (bRow f m).set i (.bool (g i)) = bRow g m := by
  apply List.ext_getElem
  · simp [bRow]
  · intro j h1 h2
    rw [List.getElem_set]
    by_cases he : i = j
    · subst he; simp [bRow]
    · rw [if_neg he]; simp [bRow, h j (fun e => he e.symm)]
theorem falses_row (n : Nat) : List.replicate n (Value.bool false) = bRow (fun _ => false) n := by
  apply List.ext_getElem <;> simp [bRow]

/-- how Of answers -/
def PermOut (w0 : World) (os : List Thing) (xs : List Int) (e : Ending) (w' : World) : Prop :=
  (IsPerm xs ∧ ∃ p v, e = .returned (.tuple #[.pointer (some ⟨p, 0, none⟩), .int .i64 0]) ∧ St w0 w' (cellT p (permObj v) :: rowT 3 v (intsOf xs) :: os)) ∨
  (¬ IsPerm xs ∧ e = .returned (.tuple #[.pointer none, .int .i64 4]) ∧ St w0 w' os)

theorem ints_oneCell (xs : List Int) : ∀ u ∈ intsOf xs, u.oneCell' = true := by
  intro u hu
  obtain ⟨x, _, rfl⟩ := List.mem_map.1 hu
  rfl

set_option maxRecDepth 100000 in
set_option maxHeartbeats 2000000 in
theorem permOf_any {w0 w : World} {os : List Thing} (h : St w0 w os) (sv : Value) (xs : List Int) (hl : xs.length ≤ 1099511627)
    (hv : ∀ w' os', St w0 w' (os' ++ os) → Reads w' sv (intsOf xs)) :
    Calls Try.prog 11 #[sv] w fun e w' => PermOut w0 os xs e w' := by
  obtain ⟨ao, cap, rfl, hcap, hm, hnil, hc⟩ := hv w [] h
  rw [intsOf_len] at *
  have hcm : cap ≤ 9223372036854775807 := by unfold maxLen at hm; omega
  obtain ⟨n, hn⟩ : ∃ n, xs.length = n := ⟨_, rfl⟩
  have HV := Lib.hid hv
  have H := Lib.hid h
  rw [hn] at HV hcap hl ⊢
  have HN := Lib.hid hn
  have hmk := run_make_row' (P := Try.prog) 38 4 (.bool false) 1 Try.underlying38 info_bool rfl .i64 .i64 n (by omega) (by omega)
  clear hv h hc hnil hm hn
  go_enter Try.func11, Try.ntmps11
  have HS0 : Hid (St w0 (w.alloc (.cells (madeCells #[.bool false] n) 4)) (rowT 4 (.slice (some ⟨w.heap.size, 0, none⟩) n n) (bRow (fun j => decide ((j : Int) ∈ xs.take 0)) n) :: os)) := by
    have := World.ownsRow_lit (base := w.heap.size) (e := 4) (size := 1) w (madeCells #[.bool false] n) n (Nat.le_refl _) (by unfold maxLen; omega) (by simp [madeCells])
    rw [toList_madeCells_one, falses_row] at this
    have := H.out.newRow ((Keeps.refl _ _).alloc _) this
    have e : bRow (fun _ => false) n = bRow (fun j => decide ((j : Int) ∈ xs.take 0)) n := bRow_congr fun j _ => by simp
    rw [e] at this
    exact this
  obtain ⟨g, hg⟩ : ∃ g, w.heap.size = g := ⟨_, rfl⟩
  rw [hg] at HS0
  have HG := Lib.hid hg
  clear H hg
  go_wp2_with fail
  rw [HG.out]
  go_loopw [12] (fun iv wr => ∃ i : Nat, i ≤ n ∧ iv = .int .i64 i ∧ (∀ x ∈ xs.take i, 0 ≤ x ∧ x < (n : Int)) ∧ (xs.take i).Nodup ∧
    St w0 wr (rowT 4 (.slice (some ⟨g, 0, none⟩) n n) (bRow (fun j => decide ((j : Int) ∈ xs.take i)) n) :: os)) (fun iv _ => n - (intOf iv).toNat)
  case atStart => exact ⟨0, by omega, rfl, (by simp), (by simp), HS0.out⟩
  case round =>
    obtain ⟨i, hi, rfl, hR, hND, hS⟩ := hrel
    have HS := Lib.hid hS
    have HR := Lib.hid hR
    have HD := Lib.hid hND
    clear hS hR hND HS0
    by_cases hlt : i < n
    · have hix : i < xs.length := by rw [HN.out]; exact hlt
      obtain ⟨x, hx⟩ : ∃ x, xs[i] = x := ⟨_, rfl⟩
      have hmem : x ∈ xs := by rw [← hx]; exact List.getElem_mem hix
      have htk : xs.take (i + 1) = xs.take i ++ [x] := by rw [List.take_succ_eq_append_getElem hix, hx]
      obtain ⟨ao', cp, he, _, _, _, hcc⟩ := HV.out wr [_] HS.out
      simp only [Value.slice.injEq] at he
      obtain ⟨rfl, hxx, rfl⟩ := he
      clear hxx
      rcases hcc with hcc | ⟨ab, aof, rfl, hcc⟩
      · exfalso
        have : xs.length = 0 := by rw [← intsOf_len, hcc]; rfl
        omega
      have cz : wr.cell? ⟨ab, aof + i, none⟩ = some (.int .i64 x) := hcc i (.int .i64 x) (by simp only [intsOf, List.getElem?_map, List.getElem?_eq_getElem hix, hx]; rfl)
      have HM := Lib.hid (And.intro hmem htk)
      clear hcc hx hmem htk
      by_cases hx0 : x < 0
      · have HNP : Hid (¬ IsPerm xs) := fun h => by have := (h.1 x HM.out.1).1; omega
        go_wp2_with fail
        go_ret2
        exact .inr ⟨HNP.out, rfl, HS.out.tail⟩
      · by_cases hxn : x < (n : Int)
        · obtain ⟨X, rfl⟩ : ∃ X : Nat, x = X := ⟨x.toNat, by omega⟩
          have hXn : X < n := by omega
          have hrow := HS.out.rowN (bRow_len _ n)
          have cX : wr.cell? ⟨g, X, none⟩ = some (.bool (decide ((X : Int) ∈ xs.take i))) := by rw [hrow.cellAt X (by omega), bRow_get _ n X hXn]
          have fX : wr.frozen? ⟨g, X, none⟩ = false := hrow.frozenAt X
          clear hrow
          by_cases hin : (X : Int) ∈ xs.take i
          · rw [decide_eq_true hin] at cX
            have HNP : Hid (¬ IsPerm xs) := fun h => by
              have h2 : (xs.take (i + 1)).Nodup := List.Nodup.sublist (List.take_sublist _ _) h.2
              rw [HM.out.2, List.nodup_append] at h2
              exact h2.2.2 _ hin _ (by simp) rfl
            clear hin
            go_wp2_with fail
            go_ret2
            exact .inr ⟨HNP.out, rfl, HS.out.tail⟩
          · rw [decide_eq_false hin] at cX
            have hst := HS.out.store (bRow_len _ n) X (.bool true)
            have hset := bRow_set (fun j => decide ((j : Int) ∈ xs.take i)) (fun j => decide ((j : Int) ∈ xs.take (i + 1))) n X (fun j hj => by
              rw [HM.out.2]; simp; omega)
            rw [show decide ((X : Int) ∈ xs.take (i + 1)) = true by rw [HM.out.2]; simp] at hset
            rw [hset] at hst
            have HST := Lib.hid hst
            have HR2 : Hid ((∀ x ∈ xs.take (i + 1), 0 ≤ x ∧ x < (n : Int)) ∧ (xs.take (i + 1)).Nodup) := by
              rw [HM.out.2]
              refine ⟨fun x hx => ?_, ?_⟩
              · rcases List.mem_append.1 hx with h | h
                · exact HR.out x h
                · simp at h; subst h; omega
              · rw [List.nodup_append]
                refine ⟨HD.out, by simp, fun a ha b hb => ?_⟩
                simp at hb; subst hb
                exact fun e => hin (e ▸ ha)
            clear hst hset hin
            go_wp2_with fail
            go_roundw
            case rel => exact ⟨i + 1, by omega, by go_num, HR2.out.1, HR2.out.2, HST.out⟩
            case measure => simp [intOf]; omega
        · have HNP : Hid (¬ IsPerm xs) := fun h => by have := (h.1 x HM.out.1).2; rw [HN.out] at this; omega
          go_wp2_with fail
          go_ret2
          exact .inr ⟨HNP.out, rfl, HS.out.tail⟩
    · obtain rfl : i = n := by omega
      have HIP : Hid (IsPerm xs) := by
        have h1 := HR.out
        have h2 := HD.out
        rw [← HN.out, List.take_length] at h1 h2
        exact ⟨h1, h2⟩
      have hrd := HV.out wr [_] HS.out
      have HCL := Lib.hid (cloneInts_any (.slice ao i cap) (intsOf xs) wr hrd (ints_oneCell xs) (by rw [intsOf_len, HN.out]; omega))
      clear hrd
      go_wp2_with fail
      refine HCL.out.mono ?_
      rintro e w2 ⟨v2, rfl, ho, hk⟩
      obtain ⟨a2, c2, rfl, _, _⟩ := ownsRow_slice ho
      rw [intsOf_len] at ho ⊢
      have h2 := HS.out.newRow hk ho
      have H2 := Lib.hid (h2.newCell (permObj (.slice a2 xs.length c2)))
      clear h2 ho hk HCL HS
      go_wp2_with fail
      go_ret2
      exact .inl ⟨HIP.out, _, _, rfl, H2.out.rot3.tail⟩

/-- the cells of a permutation that stands -/
theorem St.permAt {w0 w : World} {os : List Thing} {p : Nat} {v : Value} (h : St w0 w os) (hm : cellT p (permObj v) ∈ os) : w.cell? ⟨p, 0, none⟩ = some v := by
  have h0 : w.heap[p]? = some (permObj v) := h.ok hm
  simp [World.cell?, h0, permObj]

theorem permLen_nil (w : World) : Calls Try.prog 14 #[.pointer none] w fun e w' => e = .returned (.int .i64 0) ∧ w = w' := by
  go_enter Try.func14, Try.ntmps14
  go_wp2
  go_ret
  exact ⟨rfl, rfl⟩

theorem permLen_any {w : World} {p n : Nat} {a : Option Addr} {c : Nat} (hc : w.cell? ⟨p, 0, none⟩ = some (.slice a n c)) :
    Calls Try.prog 14 #[.pointer (some ⟨p, 0, none⟩)] w fun e w' => e = .returned (.int .i64 n) ∧ w = w' := by
  go_enter Try.func14, Try.ntmps14
  go_wp2
  go_ret
  exact ⟨rfl, rfl⟩

set_option maxHeartbeats 1000000 in
theorem permAt_in {w : World} {p n : Nat} {a : Option Addr} {c : Nat} (hc : w.cell? ⟨p, 0, none⟩ = some (.slice a n c)) (xs : List Int) (hx : xs.length = n) (hr : Reads w (.slice a n c) (intsOf xs)) (i : Nat) (hi : i < n) (x : Int) (hxi : xs[i]? = some x) :
    Calls Try.prog 42 #[.pointer (some ⟨p, 0, none⟩), .int .i64 (i : Nat)] w fun e w' => e = .returned (.int .i64 x) ∧ w = w' := by
  have HL := Lib.hid (permLen_any hc)
  obtain ⟨ao, cp, he, hcp, hm, _, hcc⟩ := hr
  simp only [Value.slice.injEq] at he
  obtain ⟨rfl, hxx, rfl⟩ := he
  rw [intsOf_len, hx] at hcp
  have hcm : c ≤ 9223372036854775807 := by unfold maxLen at hm; omega
  clear hxx
  rcases hcc with hcc | ⟨ab, aof, rfl, hcc⟩
  · exfalso
    have : xs.length = 0 := by rw [← intsOf_len, hcc]; rfl
    omega
  have cz : w.cell? ⟨ab, aof + i, none⟩ = some (.int .i64 x) := hcc i (.int .i64 x) (by simp only [intsOf, List.getElem?_map, hxi]; rfl)
  clear hcc hx hxi
  go_enter Try.func42, Try.ntmps42
  go_wp2_with fail
  refine HL.out.mono ?_
  rintro e w1 ⟨rfl, rfl⟩
  go_wp2_with fail
  go_ret
  exact ⟨rfl, rfl⟩
end Go.Proofs.Ytoipbbobkllddaa

