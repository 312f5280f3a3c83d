/- Perm.Orbits: a list of lists; the document's count. -/
import Derived.Test.YtongakmljbebfaaNames
namespace Go.Proofs.Ytongakmljbebfaa
open Go.RowKit

theorem info_ints : (Try.prog.info? 24).map (fun i => (i.zero, i.size, i.bytes)) = some (some (.slice none 0 0), 1, 24) := by kernel_rfl

/-- a list of numbers in memory -/
def orbT (q : Value × List Nat) : Thing := rowT 3 q.1 (intsOf (natsI q.2))

/-- all orbits that begin below i -/
noncomputable def orbsN (xs : List Int) (i : Nat) : List (List Nat) := (leadsN xs i).map (orbN xs)
theorem orbsN_len (xs : List Int) (i : Nat) : (orbsN xs i).length = rankN xs i := by unfold orbsN; rw [List.length_map, leadsN_len]

set_option maxRecDepth 100000 in
set_option maxHeartbeats 4000000 in
theorem permOrbits_any {w0 w : World} {os : List Thing} (h : St w0 w os) (p : Nat) (v : Value) (xs : List Int) (hm1 : cellT p (permObj v) ∈ os) (hm2 : rowT 3 v (intsOf xs) ∈ os) (hp : IsPerm xs) (hl : xs.length ≤ 1000000) :
    Calls Try.prog 12 #[.pointer (some ⟨p, 0, none⟩)] w fun e w' => ∃ (v' : Value) (ps : List (Value × List Nat)), e = .returned v' ∧ ps.map Prod.snd = orbsN xs xs.length ∧ St w0 w' (rowT 24 v' (ps.map Prod.fst) :: (ps.map orbT ++ os)) := by
  obtain ⟨i0, hii, hz0, hz1, hz2⟩ := info_parts info_ints
  obtain ⟨N, hN⟩ : ∃ N, xs.length = N := ⟨_, rfl⟩
  have HM1 := Lib.hid hm1
  have HM2 := Lib.hid hm2
  have HP := Lib.hid hp
  have HN := Lib.hid hN
  have HNM := Lib.hid (permNames_any h p v xs hm1 hm2 hp hl)
  rw [hN] at hl ⊢
  clear hm1 hm2 hp hN h
  go_enter Try.func12, Try.ntmps12
  go_wp2_with fail
  refine HNM.out.mono ?_
  rintro e w1 ⟨v1, rfl, h1⟩
  obtain ⟨a1, c1, rfl, _, _⟩ := ownsRow_slice h1.row
  rw [intsOf_len, namesN_len, HN.out] at h1 ⊢
  have S1 : Hid (St w0 w1 (rowT 24 (.slice none 0 0) [] :: rowT 3 (.slice a1 N c1) (intsOf (namesN xs)) :: os)) :=
    h1.newRow (Keeps.refl _ _) (World.ownsRow_nil _ _ _ _)
  clear HNM h1
  go_wp2_with fail
  go_loopw [11, 3] (fun iv ov wr => ∃ (i : Nat) (ps : List (Value × List Nat)), i ≤ N ∧ iv = .int .i64 i ∧ ps.map Prod.snd = orbsN xs i ∧
    St w0 wr (rowT 24 ov (ps.map Prod.fst) :: (ps.map orbT ++ (rowT 3 (.slice a1 N c1) (intsOf (namesN xs)) :: os)))) (fun iv _ _ => N - (intOf iv).toNat)
  case atStart =>
    exact ⟨0, [], by omega, rfl, rfl, S1.out⟩
  case round =>
    obtain ⟨i, ps, hi, rfl, hps, hS⟩ := hrel
    obtain ⟨ao, co, rfl, _, _⟩ := ownsRow_slice hS.row
    have hpl : ps.length = rankN xs i := by
      have := congrArg List.length hps
      rw [List.length_map, orbsN_len] at this; exact this
    rw [List.length_map, hpl] at hS ⊢
    have HPS := Lib.hid hps
    have HPL := Lib.hid hpl
    have HS := Lib.hid hS
    clear hS hps hpl S1
    by_cases hlt : i < N
    · have hix : i < xs.length := by rw [HN.out]; exact hlt
      have hr2 := HS.out.reads (List.mem_cons_of_mem _ (List.mem_append_right _ (List.mem_cons_self ..)))
      obtain ⟨a9, cp, he, _, _, _, hcc⟩ := hr2
      simp only [Value.slice.injEq] at he
      obtain ⟨rfl, hq8, rfl⟩ := he
      clear hq8
      obtain ⟨q, hq⟩ : ∃ q, rankN xs (leadN xs i) = q := ⟨_, rfl⟩
      have hv : (intsOf (namesN xs))[i]? = some (.int .i64 q) := by
        rw [← iRow_names, iRow_get _ _ i hix, nameN_end hix, hq]
      rcases hcc with hcc | ⟨ab, aof, rfl, hcc⟩
      · rw [hcc] at hv; simp at hv
      have ci := hcc i _ hv
      have hqc := name_is_count HP.out hix
      obtain ⟨R, hR⟩ : ∃ R, rankN xs i = R := ⟨_, rfl⟩
      have hRi : R ≤ i := by rw [← hR]; exact rankN_le xs i
      have hqi : q ≤ N := by
        rw [← hq]
        have h1 := rankN_le xs (leadN xs i)
        have h2 := leadN_le_self xs i
        omega
      rw [hq, hR] at hqc
      rw [hR] at HS HPL ⊢
      have HR := Lib.hid hR
      clear hcc hv hq hR
      by_cases hld : leadN xs i = i
      · obtain rfl := hqc.2 hld
        have HORB := Lib.hid (permOrbit_any HS.out p _ xs (List.mem_cons_of_mem _ (List.mem_append_right _ (List.mem_cons_of_mem _ HM1.out))) (List.mem_cons_of_mem _ (List.mem_append_right _ (List.mem_cons_of_mem _ HM2.out))) HP.out (by rw [HN.out]; exact hl) i hix)
        have HLD := Lib.hid hld
        clear hqc hld
        go_wp2_with fail
        refine HORB.out.mono ?_
        rintro e w3 ⟨v3, rfl, h3⟩
        obtain ⟨a3, c3, rfl, _, _⟩ := ownsRow_slice h3.row
        rw [intsOf_len, natsI_len, orbN_len] at h3 ⊢
        obtain ⟨T, hT⟩ : ∃ T, perN xs i = T := ⟨_, rfl⟩
        rw [hT] at h3 ⊢
        have S4 := Lib.hid h3.swap
        have HR1 := Lib.hid (fun (w1 : World) (y : Value) => Reads.made w1 #[y] 24 (0, 0) 1 (by simp) (by decide))
        have HPN : Hid (ps.length ≤ N) := by show _ ≤ _; rw [HPL.out]; exact hqi
        clear hT h3 HS HORB
        go_wp2_with (at_builtin; refine wpList_append_st rfl _ _ 31 rfl 24 i0 (.slice none 0 0) 24 Try.underlying31 hii hz0 hz1 hz2 rfl _ _ _ [.slice a3 T c3] rfl (by first | rfl | simp) (S4.out.alloc _) (HR1.out _ _) (one_oneCell' _ rfl) ?c1 ?c2 ?_)
        case c1 => have := HPN.out; simp only [List.length_map, List.length_cons, List.length_nil]; unfold maxLen; omega
        case c2 => have := HPN.out; simp only [List.length_map, List.length_cons, List.length_nil]; omega
        intro v5 w5 h5
        have S5 : Hid (St w0 w5 (rowT 24 v5 ((ps ++ [(Value.slice a3 T c3, orbN xs i)]).map Prod.fst) :: ((ps ++ [(Value.slice a3 T c3, orbN xs i)]).map orbT ++ (rowT 3 (.slice (some ⟨ab, aof, none⟩) N c1) (intsOf (namesN xs)) :: os)))) := by
          rw [List.map_append, List.map_append]
          refine h5.perm (List.Perm.cons _ ?_)
          rw [List.append_assoc]
          exact List.perm_middle.symm
        have HPS2 : Hid ((ps ++ [(Value.slice a3 T c3, orbN xs i)]).map Prod.snd = orbsN xs (i + 1)) := by
          show _ = _
          rw [List.map_append, HPS.out]
          unfold orbsN
          rw [leadsN_succ_lead HLD.out, List.map_append]; rfl
        clear S4 h5
        go_wp2_with fail
        go_roundw
        case rel => exact ⟨i + 1, _, by omega, by go_num, HPS2.out, S5.out⟩
        case measure => simp [intOf]; omega
      · have hqne : (q : Int) ≠ (R : Int) := fun e => hld (hqc.1 (by omega))
        have dq : ((q : Int) == (R : Int)) = false := beq_eq_false_iff_ne.2 hqne
        have HPS2 : Hid (ps.map Prod.snd = orbsN xs (i + 1)) := by
          show _ = _
          unfold orbsN
          rw [leadsN_succ_not hld]; exact HPS.out
        clear hqc
        go_wp2_with fail
        go_roundw
        case rel => exact ⟨i + 1, ps, by omega, by go_num, HPS2.out, HS.out⟩
        case measure => simp [intOf]; omega
    · obtain rfl : i = N := by omega
      go_wp2_with fail
      go_ret
      refine ⟨_, ps, rfl, HPS.out, ?_⟩
      have := HS.out.perm (ps := rowT 3 (.slice a1 i c1) (intsOf (namesN xs)) :: rowT 24 (.slice ao (rankN xs i) co) (ps.map Prod.fst) :: (ps.map orbT ++ os)) ((List.Perm.cons _ List.perm_middle).trans (List.Perm.swap _ _ _))
      exact this.tail
end Go.Proofs.Ytongakmljbebfaa

