/- The document's count of orbits; slices.Min; ref Mix. -/
import Derived.Test.YtoipbbobkllddaaOrbits
import Derived.Test.YtoipbbobkllddaaOpen
namespace Go.Proofs.Ytoipbbobkllddaa
open Go.RowKit

/-- a permutation, by its places -/
def PermF (f : Nat → Int) (n : Nat) : Prop := (∀ j, j < n → 0 ≤ f j ∧ f j < (n : Int)) ∧ ∀ i j, i < n → j < n → f i = f j → i = j
theorem permF_id (n : Nat) : PermF (fun j => (j : Int)) n := ⟨fun j hj => ⟨by show (0 : Int) ≤ (j : Int); omega, by show (j : Int) < (n : Int); omega⟩, fun i j _ _ h => by have : (i : Int) = (j : Int) := h; omega⟩
/-- two places change what they hold -/
def trN (i k j : Nat) : Nat := if j = k then i else if j = i then k else j
theorem trN_lt {i k j n : Nat} (hi : i < n) (hk : k < n) (hj : j < n) : trN i k j < n := by unfold trN; split <;> (try split) <;> omega
theorem trN_inj {i k a b : Nat} (h : trN i k a = trN i k b) : a = b := by
  unfold trN at h
  split at h <;> split at h <;> (try split at h) <;> (try split at h) <;> omega
def swapF (f : Nat → Int) (i k : Nat) : Nat → Int := fun j => f (trN i k j)
theorem swapF_perm {f : Nat → Int} {n i k : Nat} (h : PermF f n) (hi : i < n) (hk : k < n) : PermF (swapF f i k) n :=
  ⟨fun j hj => h.1 _ (trN_lt hi hk hj), fun a b ha hb he => trN_inj (h.2 _ _ (trN_lt hi hk ha) (trN_lt hi hk hb) he)⟩
theorem swapF_row (f : Nat → Int) (n i k : Nat) (hi : i < n) (hk : k < n) : ((iRow f n).set i (.int .i64 (f k))).set k (.int .i64 (f i)) = iRow (swapF f i k) n := by
  apply List.ext_getElem
  · simp [iRow]
  · intro j h1 h2
    have hj : j < n := by simpa [iRow] using h1
    have hR : (iRow (swapF f i k) n)[j] = Value.int .i64 (f (trN i k j)) := by simp [iRow, swapF]
    rw [hR, List.getElem_set, List.getElem_set]
    unfold trN
    by_cases h3 : k = j
    · subst h3; simp
    · have h3' : ¬ j = k := fun e => h3 e.symm
      by_cases h4 : i = j
      · subst h4; simp [h3, h3']
      · have h4' : ¬ j = i := fun e => h4 e.symm
        simp [h3, h3', h4, h4', iRow]
theorem permF_is {f : Nat → Int} {n : Nat} (h : PermF f n) : IsPerm ((List.range n).map f) := by
  refine ⟨fun x hx => ?_, ?_⟩
  · obtain ⟨j, hj, rfl⟩ := List.mem_map.1 hx
    have := h.1 j (List.mem_range.1 hj)
    simp; exact this
  · unfold List.Nodup
    rw [List.pairwise_map, List.pairwise_iff_getElem]
    intro i j hi hj hij he
    simp only [List.length_range] at hi hj
    simp only [List.getElem_range] at he
    have := h.2 i j hi hj he
    omega
theorem iRow_ints (f : Nat → Int) (n : Nat) : iRow f n = intsOf ((List.range n).map f) := by
  unfold iRow intsOf; rw [List.map_map]; rfl

set_option maxRecDepth 100000 in
set_option maxHeartbeats 4000000 in
theorem refMix_any {w0 w : World} {os : List Thing} (h : St w0 w os) (n : Nat) (hn : n ≤ 1000) (sv : Value) (by8 : List Nat) (hv : ∀ w' os', St w0 w' (os' ++ os) → Reads w' sv (bytesOf by8)) (hb8 : ∀ x ∈ by8, x < 256) :
    Calls Try.prog 48 #[.int .i64 n, sv] w fun e w' => ∃ (v' : Value) (xs : List Int), e = .returned v' ∧ IsPerm xs ∧ xs.length = n ∧ St w0 w' (rowT 3 v' (intsOf xs) :: os) := by
  obtain ⟨i0, hii, hz0, hz1, hz2⟩ := info_parts info_i64
  obtain ⟨ab, cb, rfl, hlc, hcm, hq1, hq2⟩ := hv w [] h
  clear hq1 hq2
  have S1 : Hid (St w0 w (rowT 3 (.slice none 0 0) (iRow (fun j => (j : Int)) 0) :: os)) :=
    h.newRow (Keeps.refl _ _) (World.ownsRow_nil _ _ _ _)
  have hbl : (bytesOf by8).length = by8.length := by simp [bytesOf]
  rw [hbl] at hv hlc ⊢
  have HV : Hid (∀ o w' os', St w0 w' (os' ++ (o :: os)) → Reads w' (.slice ab by8.length cb) (bytesOf by8)) := fun o w' os' hW => hv w' (os' ++ [o]) (by simpa using hW)
  have HR1 := Lib.hid (fun (w1 : World) (y : Int) => Reads.made w1 #[.int .i64 y] 3 (0, 0) 1 (by simp) (by decide))
  have HB8 := Lib.hid hb8
  obtain ⟨L, hL⟩ : ∃ L, by8.length = L := ⟨_, rfl⟩
  rw [hL] at HV hlc ⊢
  have HL := Lib.hid hL
  have hcm2 : cb ≤ 9223372036854775807 := by unfold maxLen at hcm; omega
  clear h hv hbl hb8 hL hcm
  go_enter Try.func48, Try.ntmps48
  go_wp2_with fail
  go_loopw [6, 5] (fun iv lv wr => ∃ i : Nat, i ≤ n ∧ iv = .int .i64 i ∧ St w0 wr (rowT 3 lv (iRow (fun j => (j : Int)) i) :: os)) (fun iv _ _ => n - (intOf iv).toNat)
  case atStart => exact ⟨0, by omega, rfl, S1.out⟩
  case round =>
    obtain ⟨i, hi, rfl, hS⟩ := hrel
    obtain ⟨ao, co, rfl, _, _⟩ := ownsRow_slice hS.row
    rw [iRow_len] at hS ⊢
    have HS := Lib.hid hS
    clear hS S1
    by_cases hlt : i < n
    · have HE : Hid (iRow (fun j => (j : Int)) i ++ [Value.int .i64 i] = iRow (fun j => (j : Int)) (i + 1)) := by
        show _ = _
        simp [iRow, List.range_succ]
      have HLN : Hid ((iRow (fun j => (j : Int)) i).length = i) := iRow_len _ _
      go_wp2_with (at_builtin; refine wpList_append_st rfl _ _ 22 rfl 3 i0 (.int .i64 0) 8 Try.underlying22 hii hz0 hz1 hz2 rfl _ _ _ [.int .i64 (i : Nat)] rfl (by first | rfl | simp) (HS.out.alloc _) (HR1.out _ _) (one_oneCell' _ rfl) ?c1 ?c2 ?_)
      case c1 => simp only [HLN.out, List.length_cons, List.length_nil]; unfold maxLen; omega
      case c2 => simp only [HLN.out, List.length_cons, List.length_nil]; omega
      intro v5 w5 h5
      rw [HE.out] at h5
      have S5 := Lib.hid h5
      clear HS h5
      go_wp2_with fail
      go_roundw
      case rel => exact ⟨i + 1, by omega, by go_num, S5.out⟩
      case measure => simp [intOf]; omega
    · have hin : i = n := by omega
      rw [hin] at HS ⊢
      clear hlt hi hin
      go_wp2_with fail
      go_loopw [20] (fun iv wr => ∃ (i : Nat) (f : Nat → Int), i ≤ n ∧ iv = .int .i64 i ∧ PermF f n ∧ St w0 wr (rowT 3 (.slice ao n co) (iRow f n) :: os)) (fun iv _ => n - (intOf iv).toNat)
      case atStart => exact ⟨0, _, by omega, rfl, permF_id n, HS.out⟩
      case round =>
        obtain ⟨i, f, hi, rfl, hf, hS⟩ := hrel
        have HF := Lib.hid hf
        clear hf HS
        have HS := Lib.hid hS
        clear hS
        by_cases hlt : i < n
        · have hrow := HS.out.rowN (iRow_len _ n)
          obtain ⟨g, cap, he, hcap1, hcap2⟩ := ownsRow_shape hrow (by omega)
          simp only [Value.slice.injEq] at he
          obtain ⟨rfl, hq9, rfl⟩ := he
          clear hq9 hrow
          by_cases hiL : i < L
          · have hr2 := HV.out _ wr [] HS.out
            obtain ⟨a9, cp, he, _, _, _, hcc⟩ := hr2
            simp only [Value.slice.injEq] at he
            obtain ⟨rfl, hq8, rfl⟩ := he
            clear hq8
            have hixL : i < by8.length := by rw [HL.out]; exact hiL
            obtain ⟨x, hx⟩ : ∃ x, by8[i]? = some x := ⟨_, List.getElem?_eq_getElem hixL⟩
            have hx8 : x < 256 := HB8.out x (List.mem_of_getElem? hx)
            have hv : (bytesOf by8)[i]? = some (.int .u8 x) := by simp only [bytesOf, List.getElem?_map, hx]; rfl
            rcases hcc with hcc | ⟨ab, aof, rfl, hcc⟩
            · rw [hcc] at hv; simp at hv
            have ci := hcc i _ hv
            clear hcc hv hx
            obtain ⟨d, hd⟩ : ∃ d, n = i + d := ⟨n - i, by omega⟩
            obtain ⟨m, hm⟩ : ∃ m, x % d = m := ⟨_, rfl⟩
            have hmd : m < d := by rw [← hm]; exact Nat.mod_lt _ (by omega)
            have hd0 : 0 < d := by omega
            have hdi : ((n : Int) - (i : Int)) = (d : Int) := by omega
            have hne : ¬ (d : Int) = 0 := by omega
            have htm : (x : Int).tmod (d : Int) = (m : Int) := by rw [← hm, Int.tmod_eq_emod_of_nonneg (by omega)]; rfl
            obtain ⟨k, hk⟩ : ∃ k, i + m = k := ⟨_, rfl⟩
            have hkn : k < n := by omega
            have hki : (i : Int) + (m : Int) = (k : Int) := by omega
            have S0 := HS.out
            have fK := (S0.rowN (iRow_len _ n)).frozenAt k
            have cI := (S0.rowN (iRow_len _ n)).cellAt i (by omega)
            have cK := (S0.rowN (iRow_len _ n)).cellAt k (by omega)
            rw [iRow_get _ n i hlt] at cI
            rw [iRow_get _ n k hkn] at cK
            have fI := (S0.rowN (iRow_len _ n)).frozenAt i
            have S1 := S0.store (iRow_len _ n) i (.int .i64 (f k))
            have hl1 : ((iRow f n).set i (.int .i64 (f k))).length = n := by rw [List.length_set, iRow_len]
            have cK1 := (S1.rowN hl1).cellAt k (by omega)
            have fK1 := (S1.rowN hl1).frozenAt k
            obtain ⟨vK, hvK⟩ : ∃ vK, ((iRow f n).set i (.int .i64 (f k)))[k]? = some vK := ⟨_, List.getElem?_eq_getElem (by rw [hl1]; exact hkn)⟩
            rw [hvK] at cK1
            have S2 := S1.store hl1 k (.int .i64 (f i))
            rw [swapF_row f n i k hlt hkn] at S2
            have SS := Lib.hid S2.drew
            have HF2 := Lib.hid (swapF_perm HF.out hlt hkn)
            clear S0 S1 S2 hvK hl1 hm hmd hd
            go_wp2_with fail
            go_region
            go_wp2_with fail
            go_roundw
            case rel => exact ⟨i + 1, swapF f i k, by omega, by go_num, HF2.out, SS.out⟩
            case measure => simp [intOf]; omega
          · go_wp2_with fail
            go_roundw
            case rel => exact ⟨i + 1, f, by omega, by go_num, HF.out, HS.out⟩
            case measure => simp [intOf]; omega
        · obtain rfl : i = n := by omega
          go_wp2_with fail
          go_ret
          exact ⟨_, _, rfl, permF_is HF.out, by simp, by rw [← iRow_ints]; exact HS.out⟩
end Go.Proofs.Ytoipbbobkllddaa

