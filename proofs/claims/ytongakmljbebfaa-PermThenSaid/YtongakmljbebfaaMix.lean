/- The document's count of orbits; slices.Min; ref Mix. -/
import Derived.Test.YtongakmljbebfaaOrbits
import Derived.Test.YtongakmljbebfaaOpen
namespace Go.Proofs.Ytongakmljbebfaa
open Go.RowKit

set_option maxRecDepth 100000 in
set_option maxHeartbeats 4000000 in
theorem refCount_any {w0 w : World} {os : List Thing} (h : St w0 w os) (sv : Value) (xs : List Int) (hv : ∀ w' os', St w0 w' (os' ++ os) → Reads w' sv (intsOf xs)) (hp : IsPerm xs) (hl : xs.length ≤ 1000000) :
    Calls Try.prog 15 #[sv] w fun e w' => e = .returned (.int .i64 (rankN xs xs.length : Nat)) ∧ St w0 w' os := by
  obtain ⟨N, hN⟩ : ∃ N, xs.length = N := ⟨_, rfl⟩
  have HP := Lib.hid hp
  have HN := Lib.hid hN
  have HNM := Lib.hid (refNames_any h sv xs hv hp hl)
  rw [hN] at hl ⊢
  clear hp hN h hv
  go_enter Try.func15, Try.ntmps15
  go_wp2_with fail
  refine HNM.out.mono ?_
  rintro e w1 ⟨v1, rfl, h1⟩
  obtain ⟨a1, c1, rfl, _, _⟩ := ownsRow_slice h1.row
  rw [intsOf_len, namesN_len, HN.out] at h1 ⊢
  have S1 := Lib.hid h1
  clear HNM h1
  go_wp2_with fail
  go_loopw [9, 3] (fun iv nv wr => ∃ i : Nat, i ≤ N ∧ iv = .int .i64 i ∧ nv = .int .i64 (rankN xs i : Nat) ∧
    St w0 wr (rowT 3 (.slice a1 N c1) (intsOf (namesN xs)) :: os)) (fun iv _ _ => N - (intOf iv).toNat)
  case atStart => exact ⟨0, by omega, rfl, rfl, S1.out⟩
  case round =>
    obtain ⟨i, hi, rfl, rfl, hS⟩ := hrel
    have HS := Lib.hid hS
    clear hS S1
    by_cases hlt : i < N
    · have hix : i < xs.length := by rw [HN.out]; exact hlt
      have hr2 := HS.out.reads (List.mem_cons_self ..)
      obtain ⟨a9, cp, he, _, _, _, hcc⟩ := hr2
      simp only [Value.slice.injEq] at he
      obtain ⟨rfl, hq8, rfl⟩ := he
      clear hq8
      obtain ⟨q, hq⟩ : ∃ q, rankN xs (leadN xs i) = q := ⟨_, rfl⟩
      have hv : (intsOf (namesN xs))[i]? = some (.int .i64 q) := by
        rw [← iRow_names, iRow_get _ _ i hix, nameN_end hix, hq]
      rcases hcc with hcc | ⟨ab, aof, rfl, hcc⟩
      · rw [hcc] at hv; simp at hv
      have ci := hcc i _ hv
      have hqc := name_is_count HP.out hix
      have hql : rankN xs (leadN xs i) ≤ rankN xs i := by
        have := rankN_mono xs (leadN xs i) (i - leadN xs i)
        have h2 := leadN_le_self xs i
        rwa [show leadN xs i + (i - leadN xs i) = i by omega] at this
      obtain ⟨R, hR⟩ : ∃ R, rankN xs i = R := ⟨_, rfl⟩
      have hRi : R ≤ i := by rw [← hR]; exact rankN_le xs i
      rw [hq, hR] at hqc hql
      rw [hR] at ⊢
      have HR := Lib.hid hR
      clear hcc hv hq hR
      by_cases hld : leadN xs i = i
      · obtain rfl := hqc.2 hld
        have HR2 := Lib.hid (rankN_succ_lead hld)
        rw [HR.out] at HR2
        clear hqc hld
        go_wp2_with fail
        go_roundw
        case rel => exact ⟨i + 1, by omega, by go_num, by rw [HR2.out]; go_num, HS.out⟩
        case measure => simp [intOf]; omega
      · have hqne : q < R := by
          have : q ≠ R := fun e => hld (hqc.1 e)
          omega
        have HR2 := Lib.hid (rankN_succ_not hld)
        rw [HR.out] at HR2
        clear hqc hld
        go_wp2_with fail
        go_roundw
        case rel => exact ⟨i + 1, by omega, by go_num, by rw [HR2.out], HS.out⟩
        case measure => simp [intOf]; omega
    · obtain rfl : i = N := by omega
      go_wp2_with fail
      go_ret
      exact ⟨rfl, HS.out.tail⟩

set_option maxRecDepth 100000 in
set_option maxHeartbeats 4000000 in
theorem min_any {w : World} (sv : Value) (ys : List Int) (hr : Reads w sv (intsOf ys)) (h1 : 1 ≤ ys.length) :
    Calls Try.prog 17 #[sv] w fun e w' => ∃ m : Int, e = .returned (.int .i64 m) ∧ m ∈ ys ∧ (∀ y ∈ ys, m ≤ y) ∧ w = w' := by
  obtain ⟨a, c, rfl, hlc, hcm, _, hcc⟩ := hr
  rw [intsOf_len] at *
  obtain ⟨n, hn⟩ : ∃ n, ys.length = n := ⟨_, rfl⟩
  have HC : Hid (∀ j (hj : j < ys.length), ∃ b off, a = some ⟨b, off, none⟩ ∧ w.cell? ⟨b, off + j, none⟩ = some (.int .i64 ys[j])) := by
    intro j hj
    have hv : (intsOf ys)[j]? = some (.int .i64 ys[j]) := by simp [intsOf, hj]
    rcases hcc with hcc | ⟨b, off, rfl, hcc⟩
    · rw [hcc] at hv; simp at hv
    · exact ⟨b, off, rfl, hcc j _ hv⟩
  obtain ⟨b, off, rfl, c0⟩ := HC.out 0 (by omega)
  have HCL : Hid (∀ j (hj : j < ys.length), w.cell? ⟨b, off + j, none⟩ = some (.int .i64 ys[j])) := by
    intro j hj
    obtain ⟨b', off', he, h2⟩ := HC.out j hj
    cases he; exact h2
  have HN := Lib.hid hn
  have hcm2 : c ≤ 9223372036854775807 := by unfold maxLen at hcm; omega
  rw [hn] at hlc h1 ⊢
  obtain ⟨y0, hy0⟩ : ∃ y0, ys[0]? = some y0 := ⟨_, List.getElem?_eq_getElem (by omega)⟩
  rw [(List.getElem?_eq_some_iff.1 hy0).2, Nat.add_zero] at c0
  have HY0 := Lib.hid hy0
  clear hcc hn HC hy0 hcm
  go_enter Try.func17, Try.ntmps17
  go_wp2_with fail
  go_loopw [4, 3] (fun iv mv wr => ∃ (i : Nat) (m : Int), 1 ≤ i ∧ i ≤ n ∧ iv = .int .i64 i ∧ mv = .int .i64 m ∧ m ∈ ys ∧ (∀ y ∈ ys.take i, m ≤ y) ∧ w = wr) (fun iv _ _ => n - (intOf iv).toNat)
  case atStart =>
    refine ⟨1, y0, by omega, by omega, rfl, rfl, ?_, ?_, rfl⟩
    · exact List.mem_of_getElem? HY0.out
    · intro y hy
      have h2 : ys.take 1 = [y0] := by
        rw [List.take_add_one, HY0.out]; rfl
      rw [h2] at hy; simp at hy; omega
  case round =>
    obtain ⟨i, m, hi1, hi, rfl, rfl, hm, hall, rfl⟩ := hrel
    have HM := Lib.hid hm
    have HA := Lib.hid hall
    clear hm hall c0
    by_cases hlt : i < n
    · have hix : i < ys.length := by rw [HN.out]; exact hlt
      obtain ⟨y, hy⟩ : ∃ y, ys[i] = y := ⟨_, rfl⟩
      have ci := HCL.out i hix
      rw [hy] at ci
      have HY : Hid (y ∈ ys ∧ ys.take (i + 1) = ys.take i ++ [y]) := ⟨by rw [← hy]; exact List.getElem_mem _, by rw [List.take_succ_eq_append_getElem hix, hy]⟩
      clear hy
      by_cases hmy : m ≤ y
      · go_wp2_with fail
        go_roundw
        case rel => exact ⟨i + 1, m, by omega, by omega, by go_num, rfl, HM.out, by
          intro z hz
          rw [HY.out.2] at hz
          rcases List.mem_append.1 hz with h | h
          · exact HA.out z h
          · simp at h; omega, trivial⟩
        case measure => simp [intOf]; omega
      · go_wp2_with fail
        have hlt2 : y < m := by omega
        rw [if_pos hlt2]
        go_roundw
        case rel => exact ⟨i + 1, y, by omega, by omega, by go_num, rfl, HY.out.1, by
          intro z hz
          rw [HY.out.2] at hz
          rcases List.mem_append.1 hz with h | h
          · have := HA.out z h; omega
          · simp at h; omega, trivial⟩
        case measure => simp [intOf]; omega
    · obtain rfl : i = n := by omega
      go_wp2_with fail
      go_ret
      exact ⟨m, rfl, HM.out, fun y hy => HA.out y (by rw [List.take_of_length_le (by rw [HN.out]; exact Nat.le_refl _)]; exact hy), rfl⟩

/-- a permutation, by its places -/
def PermF (f : Nat → Int) (n : Nat) : Prop := (∀ j, j < n → 0 ≤ f j ∧ f j < (n : Int)) ∧ ∀ i j, i < n → j < n → f i = f j → i = j
theorem permF_id (n : Nat) : PermF (fun j => (j : Int)) n := ⟨fun j hj => ⟨by show (0 : Int) ≤ (j : Int); omega, by show (j : Int) < (n : Int); omega⟩, fun i j _ _ h => by have : (i : Int) = (j : Int) := h; omega⟩
/-- two places change what they hold -/
def trN (i k j : Nat) : Nat := if j = k then i else if j = i then k else j
theorem trN_lt {i k j n : Nat} (hi : i < n) (hk : k < n) (hj : j < n) : trN i k j < n := by unfold trN; split <;> (try split) <;> omega
theorem trN_inj {i k a b : Nat} (h : trN i k a = trN i k b) : a = b := by
  unfold trN at h
  split at h <;> split at h <;> (try split at h) <;> (try split at h) <;> omega
def swapF (f : Nat → Int) (i k : Nat) : Nat → Int := fun j => f (trN i k j)
theorem swapF_perm {f : Nat → Int} {n i k : Nat} (h : PermF f n) (hi : i < n) (hk : k < n) : PermF (swapF f i k) n :=
  ⟨fun j hj => h.1 _ (trN_lt hi hk hj), fun a b ha hb he => trN_inj (h.2 _ _ (trN_lt hi hk ha) (trN_lt hi hk hb) he)⟩
theorem swapF_row (f : Nat → Int) (n i k : Nat) (hi : i < n) (hk : k < n) : ((iRow f n).set i (.int .i64 (f k))).set k (.int .i64 (f i)) = iRow (swapF f i k) n := by
  apply List.ext_getElem
  · simp [iRow]
  · intro j h1 h2
    have hj : j < n := by simpa [iRow] using h1
    have hR : (iRow (swapF f i k) n)[j] = Value.int .i64 (f (trN i k j)) := by simp [iRow, swapF]
    rw [hR, List.getElem_set, List.getElem_set]
    unfold trN
    by_cases h3 : k = j
    · subst h3; simp
    · have h3' : ¬ j = k := fun e => h3 e.symm
      by_cases h4 : i = j
      · subst h4; simp [h3, h3']
      · have h4' : ¬ j = i := fun e => h4 e.symm
        simp [h3, h3', h4, h4', iRow]
theorem permF_is {f : Nat → Int} {n : Nat} (h : PermF f n) : IsPerm ((List.range n).map f) := by
  refine ⟨fun x hx => ?_, ?_⟩
  · obtain ⟨j, hj, rfl⟩ := List.mem_map.1 hx
    have := h.1 j (List.mem_range.1 hj)
    simp; exact this
  · unfold List.Nodup
    rw [List.pairwise_map, List.pairwise_iff_getElem]
    intro i j hi hj hij he
    simp only [List.length_range] at hi hj
    simp only [List.getElem_range] at he
    have := h.2 i j hi hj he
    omega
theorem iRow_ints (f : Nat → Int) (n : Nat) : iRow f n = intsOf ((List.range n).map f) := by
  unfold iRow intsOf; rw [List.map_map]; rfl

set_option maxRecDepth 100000 in
set_option maxHeartbeats 4000000 in
theorem refMix_any {w0 w : World} {os : List Thing} (h : St w0 w os) (n : Nat) (hn : n ≤ 1000) (sv : Value) (by8 : List Nat) (hv : ∀ w' os', St w0 w' (os' ++ os) → Reads w' sv (bytesOf by8)) (hb8 : ∀ x ∈ by8, x < 256) :
    Calls Try.prog 9 #[.int .i64 n, sv] w fun e w' => ∃ (v' : Value) (xs : List Int), e = .returned v' ∧ IsPerm xs ∧ xs.length = n ∧ St w0 w' (rowT 3 v' (intsOf xs) :: os) := by
  obtain ⟨i0, hii, hz0, hz1, hz2⟩ := info_parts info_i64
  obtain ⟨ab, cb, rfl, hlc, hcm, hq1, hq2⟩ := hv w [] h
  clear hq1 hq2
  have S1 : Hid (St w0 w (rowT 3 (.slice none 0 0) (iRow (fun j => (j : Int)) 0) :: os)) :=
    h.newRow (Keeps.refl _ _) (World.ownsRow_nil _ _ _ _)
  have hbl : (bytesOf by8).length = by8.length := by simp [bytesOf]
  rw [hbl] at hv hlc ⊢
  have HV : Hid (∀ o w' os', St w0 w' (os' ++ (o :: os)) → Reads w' (.slice ab by8.length cb) (bytesOf by8)) := fun o w' os' hW => hv w' (os' ++ [o]) (by simpa using hW)
  have HR1 := Lib.hid (fun (w1 : World) (y : Int) => Reads.made w1 #[.int .i64 y] 3 (0, 0) 1 (by simp) (by decide))
  have HB8 := Lib.hid hb8
  obtain ⟨L, hL⟩ : ∃ L, by8.length = L := ⟨_, rfl⟩
  rw [hL] at HV hlc ⊢
  have HL := Lib.hid hL
  have hcm2 : cb ≤ 9223372036854775807 := by unfold maxLen at hcm; omega
  clear h hv hbl hb8 hL hcm
  go_enter Try.func9, Try.ntmps9
  go_wp2_with fail
  go_loopw [6, 5] (fun iv lv wr => ∃ i : Nat, i ≤ n ∧ iv = .int .i64 i ∧ St w0 wr (rowT 3 lv (iRow (fun j => (j : Int)) i) :: os)) (fun iv _ _ => n - (intOf iv).toNat)
  case atStart => exact ⟨0, by omega, rfl, S1.out⟩
  case round =>
    obtain ⟨i, hi, rfl, hS⟩ := hrel
    obtain ⟨ao, co, rfl, _, _⟩ := ownsRow_slice hS.row
    rw [iRow_len] at hS ⊢
    have HS := Lib.hid hS
    clear hS S1
    by_cases hlt : i < n
    · have HE : Hid (iRow (fun j => (j : Int)) i ++ [Value.int .i64 i] = iRow (fun j => (j : Int)) (i + 1)) := by
        show _ = _
        simp [iRow, List.range_succ]
      have HLN : Hid ((iRow (fun j => (j : Int)) i).length = i) := iRow_len _ _
      go_wp2_with (at_builtin; refine wpList_append_st rfl _ _ 24 rfl 3 i0 (.int .i64 0) 8 Try.underlying24 hii hz0 hz1 hz2 rfl _ _ _ [.int .i64 (i : Nat)] rfl (by first | rfl | simp) (HS.out.alloc _) (HR1.out _ _) (one_oneCell' _ rfl) ?c1 ?c2 ?_)
      case c1 => simp only [HLN.out, List.length_cons, List.length_nil]; unfold maxLen; omega
      case c2 => simp only [HLN.out, List.length_cons, List.length_nil]; omega
      intro v5 w5 h5
      rw [HE.out] at h5
      have S5 := Lib.hid h5
      clear HS h5
      go_wp2_with fail
      go_roundw
      case rel => exact ⟨i + 1, by omega, by go_num, S5.out⟩
      case measure => simp [intOf]; omega
    · have hin : i = n := by omega
      rw [hin] at HS ⊢
      clear hlt hi hin
      go_wp2_with fail
      go_loopw [20] (fun iv wr => ∃ (i : Nat) (f : Nat → Int), i ≤ n ∧ iv = .int .i64 i ∧ PermF f n ∧ St w0 wr (rowT 3 (.slice ao n co) (iRow f n) :: os)) (fun iv _ => n - (intOf iv).toNat)
      case atStart => exact ⟨0, _, by omega, rfl, permF_id n, HS.out⟩
      case round =>
        obtain ⟨i, f, hi, rfl, hf, hS⟩ := hrel
        have HF := Lib.hid hf
        clear hf HS
        have HS := Lib.hid hS
        clear hS
        by_cases hlt : i < n
        · have hrow := HS.out.rowN (iRow_len _ n)
          obtain ⟨g, cap, he, hcap1, hcap2⟩ := ownsRow_shape hrow (by omega)
          simp only [Value.slice.injEq] at he
          obtain ⟨rfl, hq9, rfl⟩ := he
          clear hq9 hrow
          by_cases hiL : i < L
          · have hr2 := HV.out _ wr [] HS.out
            obtain ⟨a9, cp, he, _, _, _, hcc⟩ := hr2
            simp only [Value.slice.injEq] at he
            obtain ⟨rfl, hq8, rfl⟩ := he
            clear hq8
            have hixL : i < by8.length := by rw [HL.out]; exact hiL
            obtain ⟨x, hx⟩ : ∃ x, by8[i]? = some x := ⟨_, List.getElem?_eq_getElem hixL⟩
            have hx8 : x < 256 := HB8.out x (List.mem_of_getElem? hx)
            have hv : (bytesOf by8)[i]? = some (.int .u8 x) := by simp only [bytesOf, List.getElem?_map, hx]; rfl
            rcases hcc with hcc | ⟨ab, aof, rfl, hcc⟩
            · rw [hcc] at hv; simp at hv
            have ci := hcc i _ hv
            clear hcc hv hx
            obtain ⟨d, hd⟩ : ∃ d, n = i + d := ⟨n - i, by omega⟩
            obtain ⟨m, hm⟩ : ∃ m, x % d = m := ⟨_, rfl⟩
            have hmd : m < d := by rw [← hm]; exact Nat.mod_lt _ (by omega)
            have hd0 : 0 < d := by omega
            have hdi : ((n : Int) - (i : Int)) = (d : Int) := by omega
            have hne : ¬ (d : Int) = 0 := by omega
            have htm : (x : Int).tmod (d : Int) = (m : Int) := by rw [← hm, Int.tmod_eq_emod_of_nonneg (by omega)]; rfl
            obtain ⟨k, hk⟩ : ∃ k, i + m = k := ⟨_, rfl⟩
            have hkn : k < n := by omega
            have hki : (i : Int) + (m : Int) = (k : Int) := by omega
            have S0 := HS.out
            have fK := (S0.rowN (iRow_len _ n)).frozenAt k
            have cI := (S0.rowN (iRow_len _ n)).cellAt i (by omega)
            have cK := (S0.rowN (iRow_len _ n)).cellAt k (by omega)
            rw [iRow_get _ n i hlt] at cI
            rw [iRow_get _ n k hkn] at cK
            have fI := (S0.rowN (iRow_len _ n)).frozenAt i
            have S1 := S0.store (iRow_len _ n) i (.int .i64 (f k))
            have hl1 : ((iRow f n).set i (.int .i64 (f k))).length = n := by rw [List.length_set, iRow_len]
            have cK1 := (S1.rowN hl1).cellAt k (by omega)
            have fK1 := (S1.rowN hl1).frozenAt k
            obtain ⟨vK, hvK⟩ : ∃ vK, ((iRow f n).set i (.int .i64 (f k)))[k]? = some vK := ⟨_, List.getElem?_eq_getElem (by rw [hl1]; exact hkn)⟩
            rw [hvK] at cK1
            have S2 := S1.store hl1 k (.int .i64 (f i))
            rw [swapF_row f n i k hlt hkn] at S2
            have SS := Lib.hid S2.drew
            have HF2 := Lib.hid (swapF_perm HF.out hlt hkn)
            clear S0 S1 S2 hvK hl1 hm hmd hd
            go_wp2_with fail
            go_region
            go_wp2_with fail
            go_roundw
            case rel => exact ⟨i + 1, swapF f i k, by omega, by go_num, HF2.out, SS.out⟩
            case measure => simp [intOf]; omega
          · go_wp2_with fail
            go_roundw
            case rel => exact ⟨i + 1, f, by omega, by go_num, HF.out, HS.out⟩
            case measure => simp [intOf]; omega
        · obtain rfl : i = n := by omega
          go_wp2_with fail
          go_ret
          exact ⟨_, _, rfl, permF_is HF.out, by simp, by rw [← iRow_ints]; exact HS.out⟩
end Go.Proofs.Ytongakmljbebfaa

