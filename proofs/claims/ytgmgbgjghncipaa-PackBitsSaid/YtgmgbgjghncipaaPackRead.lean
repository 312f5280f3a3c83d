/- pack.read. -/
import Derived.Test.YtgmgbgjghncipaaPackPart
import Derived.Test.YtgmgbgjghncipaaPackGet
import Derived.Test.YtgmgbgjghncipaaDecode
namespace Go.Proofs.Ytgmgbgjghncipaa
open Go.RowKit

/-- what bytes say, as so many bits -/
def ReadOK (p : List Nat) (n : Nat) (l : List Bool) : Prop :=
  (∃ r, p = 0 :: r ∧ partB r n = some l) ∨
  (∃ b r y T, p = b :: r ∧ 0 < b ∧ y < 18446744073709551616 ∧ PackP.numB y <+: r ∧ partB (r.drop (PackP.numB y).length) y = some T ∧ CoderP.told (b - 1) T n = l ∧ CoderP.code (b - 1) l = T)

theorem readOK_uniq {p : List Nat} {n : Nat} {l m : List Bool} (h : ReadOK p n l) (g : ReadOK p n m) : l = m := by
  rcases h with ⟨r, rfl, h1⟩ | ⟨b, r, y, T, rfl, h1, h2, h3, h4, h5, h6⟩
  · rcases g with ⟨r', he, g1⟩ | ⟨b', r', y', T', he, g1, _⟩
    · cases he; rw [h1] at g1; exact Option.some.inj g1
    · cases he; omega
  · rcases g with ⟨r', he, g1⟩ | ⟨b', r', y', T', he, g1, g2, g3, g4, g5, g6⟩
    · cases he; omega
    · cases he
      obtain rfl := PackP.numB_uniq _ _ _ h3 g3
      rw [h4] at g4
      obtain rfl := Option.some.inj g4
      exact h5.symm.trans g5

set_option maxRecDepth 100000 in
set_option maxHeartbeats 2000000 in
theorem packRead_any {w0 w : World} {os : List Thing} (h : St w0 w os) (sv : Value) (b : Nat) (r : List Nat) (hp : ∀ x ∈ b :: r, x < 256) (hb9 : b ≤ 9) (n : Nat) (hn : n ≤ 16777216) (hlen : r.length < 109951162)
    (hv : ∀ w' os', St w0 w' (os' ++ os) → Reads w' sv (bytesOf (b :: r))) :
    Calls Try.prog 24 #[sv, .int .i64 n] w fun e w' =>
      (∃ l, ReadOK (b :: r) n l ∧ ∃ o v, e = .returned (.tuple #[.pointer (some ⟨o, 0, none⟩), .int .i64 0]) ∧ St w0 w' (vecT o v l :: os)) ∨
      (∃ ev : Int, (ev = 3 ∨ ev = 10) ∧ (∀ l, ¬ ReadOK (b :: r) n l) ∧ e = .returned (.tuple #[.pointer none, .int .i64 ev]) ∧ St w0 w' os) := by
  have hR := hv w [] h
  obtain ⟨ao, cap, rfl, hcap, hm, hnil, hc⟩ := hR
  rcases hc with hc | ⟨g, off, rfl, hc⟩
  · exfalso; simp [bytesOf] at hc
  rw [bytesOf_len, List.length_cons] at *
  have hcm : cap ≤ 9223372036854775807 := by unfold maxLen at hm; omega
  have cb : w.cell? ⟨g, off, none⟩ = some (.int .u8 (b : Int)) := hc 0 _ rfl
  have H := Lib.hid h
  have HP : Hid (∀ x ∈ r, x < 256) := fun x hx => hp x (List.mem_cons_of_mem _ hx)
  have HV := Lib.hid hv
  have hb256 : b < 256 := by omega
  have HRV : Hid (∀ w' os', St w0 w' (os' ++ os) → Reads w' (.slice (some ⟨g, off + 1, none⟩) r.length (cap - 1)) (bytesOf r)) := by
    intro w' os' h'
    have := (HV.out w' os' h').drop 1 (by omega)
    rwa [bytesOf_drop, List.drop_one, List.tail_cons, Nat.add_sub_cancel] at this
  have HRN : Hid (cap = 1 → ∀ w' : World, Reads w' (.slice (some ⟨g, off, none⟩) 0 0) (bytesOf [])) := by
    intro _ w'
    exact ⟨_, 0, rfl, Nat.le_refl _, by decide, (fun h => by cases h), .inl rfl⟩
  clear hc hnil hm hp hv h
  by_cases hc1 : cap = 1
  · have hr0 : r.length = 0 := by omega
    obtain rfl : r = [] := List.eq_nil_of_length_eq_zero hr0
    subst hc1
    by_cases hb0 : b = 0
    · subst hb0
      have HC := Lib.hid (part_any H.out (some ⟨g, off, none⟩) 0 [] HP.out n (by omega) (by omega) (fun w' _ _ => HRN.out rfl w'))
      go_enter Try.func24, Try.ntmps24
      go_wp2_with fail
      refine HC.out.mono ?_
      rintro e w' (⟨T, hT, b, v, rfl, hS⟩ | ⟨hT, rfl, hS⟩)
      · go_wp2_with fail
        go_ret2
        exact .inl ⟨T, .inl ⟨[], rfl, hT⟩, b, v, rfl, hS⟩
      · go_wp2_with fail
        go_ret2
        refine .inr ⟨3, .inl rfl, ?_, rfl, hS⟩
        rintro l (⟨r', he, h1⟩ | ⟨b', r', y, T, he, h1, _⟩)
        · cases he; rw [hT] at h1; cases h1
        · cases he; omega
    · have hb1 : ((b : Int) == 0) = false := beq_eq_false_iff_ne.2 (by omega)
      have HC := Lib.hid (getNum_any w (.slice (some ⟨g, off, none⟩) 0 0) [] HP.out (HRN.out rfl w))
      go_enter Try.func24, Try.ntmps24
      go_wp2_with fail
      refine HC.out.mono ?_
      rintro e w' ⟨rfl, (⟨x, hx, hxp, rfl⟩ | ⟨hno, rfl⟩)⟩
      · exfalso
        rw [List.prefix_nil] at hxp
        have := PackP.numB_pos x
        rw [hxp] at this; simp at this
      · have HNO := Lib.hid hno
        clear hno
        go_wp2_with fail
        go_ret2
        refine .inr ⟨3, .inl rfl, ?_, rfl, H.out⟩
        rintro l (⟨r', he, h1⟩ | ⟨b', r', y, T, he, h1, h2, h3, _⟩)
        · cases he; omega
        · cases he; exact HNO.out y h2 h3
  · by_cases hb0 : b = 0
    · subst hb0
      have HC := Lib.hid (part_any H.out (some ⟨g, off + 1, none⟩) (cap - 1) r HP.out n (by omega) (by omega) HRV.out)
      go_enter Try.func24, Try.ntmps24
      go_wp2_with fail
      refine HC.out.mono ?_
      rintro e w' (⟨T, hT, b, v, rfl, hS⟩ | ⟨hT, rfl, hS⟩)
      · go_wp2_with fail
        go_ret2
        exact .inl ⟨T, .inl ⟨r, rfl, hT⟩, b, v, rfl, hS⟩
      · go_wp2_with fail
        go_ret2
        refine .inr ⟨3, .inl rfl, ?_, rfl, hS⟩
        rintro l (⟨r', he, h1⟩ | ⟨b', r', y, T, he, h1, _⟩)
        · cases he; rw [hT] at h1; cases h1
        · cases he; omega
    · have hb1 : ((b : Int) == 0) = false := beq_eq_false_iff_ne.2 (by omega)
      have HC := Lib.hid (getNum_any w (.slice (some ⟨g, off + 1, none⟩) r.length (cap - 1)) r HP.out (HRV.out w [] H.out))
      go_enter Try.func24, Try.ntmps24
      go_wp2_with fail
      refine HC.out.mono ?_
      rintro e w' ⟨rfl, (⟨x, hx, hxp, rfl⟩ | ⟨hno, rfl⟩)⟩
      · obtain ⟨at_, hat⟩ : ∃ a, (PackP.numB x).length = a := ⟨_, rfl⟩
        have hal : at_ ≤ r.length := by rw [← hat]; exact hxp.length_le
        rw [hat]
        have HXP := Lib.hid (And.intro hxp hat)
        clear hat hxp
        have HQL : Hid (r.length + 1 - (1 + at_) = (r.drop at_).length) := by show _ = _; rw [List.length_drop]; omega
        have HPQ : Hid (∀ y ∈ r.drop at_, y < 256) := fun y hy => HP.out y (List.mem_of_mem_drop hy)
        have hql : (r.drop at_).length ≤ r.length := by rw [List.length_drop]; omega
        by_cases hc2 : cap = 1 + at_
        · have HC2 := Lib.hid (part_any H.out (some ⟨g, off, none⟩) 0 (r.drop at_) HPQ.out x hx (by omega) (fun w' _ _ => by
            have h0 : r.drop at_ = [] := List.eq_nil_of_length_eq_zero (by rw [List.length_drop]; omega)
            rw [h0]
            exact ⟨_, 0, rfl, Nat.le_refl _, by decide, (fun h => by cases h), .inl rfl⟩))
          go_wp2_with fail
          rw [HQL.out]
          refine HC2.out.mono ?_
          rintro e w2 (⟨T, hT, b2, v2, rfl, hS⟩ | ⟨hT, rfl, hS⟩)
          · have cb2 : w2.cell? ⟨g, off, none⟩ = some (.int .u8 (b : Int)) := by
              obtain ⟨_, _, he, _, _, _, hcc⟩ := HV.out w2 [_] hS
              rcases hcc with hcc | ⟨g2, o2, hg, hcc⟩
              · exfalso; simp [bytesOf] at hcc
              · subst hg
                simp only [Value.slice.injEq, Option.some.injEq, Addr.mk.injEq] at he
                obtain ⟨⟨rfl, rfl, _⟩, _, _⟩ := he
                exact hcc 0 _ rfl
            have HD := Lib.hid (decode_any (b := b2) (bv := v2) (T := T) hS (by simp) n (b - 1) hn (by omega))
            have HBB : Hid (((b : Int) - 1) = ((b - 1 : Nat) : Int)) := by show _ = _; omega
            have HT := Lib.hid hT
            clear hS hT HC2
            go_wp2_with fail
            rw [HBB.out]
            refine HD.out.mono ?_
            rintro e w3 (⟨hcd, o, v, rfl, hS3⟩ | ⟨hcd, rfl, hS3⟩)
            · go_wp2_with fail
              go_ret2
              exact .inl ⟨_, .inr ⟨b, r, x, T, rfl, by omega, hx, HXP.out.1, by rw [HXP.out.2]; exact HT.out, rfl, hcd⟩, o, v, rfl, hS3.swap.tail⟩
            · go_wp2_with fail
              go_ret2
              refine .inr ⟨10, .inr rfl, ?_, rfl, hS3.tail⟩
              rintro l (⟨r', he, h1⟩ | ⟨b', r', y, T', he, h1, h2, h3, h4, h5, h6⟩)
              · cases he; omega
              · cases he
                obtain rfl := PackP.numB_uniq _ _ _ h3 HXP.out.1
                rw [HXP.out.2, HT.out] at h4
                obtain rfl := Option.some.inj h4
                rw [h5] at hcd
                exact hcd h6
          · have HT := Lib.hid hT
            clear hT HC2
            go_wp2_with fail
            go_ret2
            refine .inr ⟨3, .inl rfl, ?_, rfl, hS⟩
            rintro l (⟨r', he, h1⟩ | ⟨b', r', y, T', he, h1, h2, h3, h4, h5, h6⟩)
            · cases he; omega
            · cases he
              obtain rfl := PackP.numB_uniq _ _ _ h3 HXP.out.1
              rw [HXP.out.2, HT.out] at h4
              cases h4
        · have HC2 := Lib.hid (part_any H.out (some ⟨g, off + (1 + at_), none⟩) (cap - (1 + at_)) (r.drop at_) HPQ.out x hx (by omega) (fun w' os' h' => by
            have := (HV.out w' os' h').drop (1 + at_) (by omega)
            rw [bytesOf_drop, HQL.out, Nat.add_comm 1 at_, List.drop_succ_cons] at this
            rwa [Nat.add_comm 1 at_]))
          go_wp2_with fail
          rw [HQL.out]
          refine HC2.out.mono ?_
          rintro e w2 (⟨T, hT, b2, v2, rfl, hS⟩ | ⟨hT, rfl, hS⟩)
          · have cb2 : w2.cell? ⟨g, off, none⟩ = some (.int .u8 (b : Int)) := by
              obtain ⟨_, _, he, _, _, _, hcc⟩ := HV.out w2 [_] hS
              rcases hcc with hcc | ⟨g2, o2, hg, hcc⟩
              · exfalso; simp [bytesOf] at hcc
              · subst hg
                simp only [Value.slice.injEq, Option.some.injEq, Addr.mk.injEq] at he
                obtain ⟨⟨rfl, rfl, _⟩, _, _⟩ := he
                exact hcc 0 _ rfl
            have HD := Lib.hid (decode_any (b := b2) (bv := v2) (T := T) hS (by simp) n (b - 1) hn (by omega))
            have HBB : Hid (((b : Int) - 1) = ((b - 1 : Nat) : Int)) := by show _ = _; omega
            have HT := Lib.hid hT
            clear hS hT HC2
            go_wp2_with fail
            rw [HBB.out]
            refine HD.out.mono ?_
            rintro e w3 (⟨hcd, o, v, rfl, hS3⟩ | ⟨hcd, rfl, hS3⟩)
            · go_wp2_with fail
              go_ret2
              exact .inl ⟨_, .inr ⟨b, r, x, T, rfl, by omega, hx, HXP.out.1, by rw [HXP.out.2]; exact HT.out, rfl, hcd⟩, o, v, rfl, hS3.swap.tail⟩
            · go_wp2_with fail
              go_ret2
              refine .inr ⟨10, .inr rfl, ?_, rfl, hS3.tail⟩
              rintro l (⟨r', he, h1⟩ | ⟨b', r', y, T', he, h1, h2, h3, h4, h5, h6⟩)
              · cases he; omega
              · cases he
                obtain rfl := PackP.numB_uniq _ _ _ h3 HXP.out.1
                rw [HXP.out.2, HT.out] at h4
                obtain rfl := Option.some.inj h4
                rw [h5] at hcd
                exact hcd h6
          · have HT := Lib.hid hT
            clear hT HC2
            go_wp2_with fail
            go_ret2
            refine .inr ⟨3, .inl rfl, ?_, rfl, hS⟩
            rintro l (⟨r', he, h1⟩ | ⟨b', r', y, T', he, h1, h2, h3, h4, h5, h6⟩)
            · cases he; omega
            · cases he
              obtain rfl := PackP.numB_uniq _ _ _ h3 HXP.out.1
              rw [HXP.out.2, HT.out] at h4
              cases h4
      · have HNO := Lib.hid hno
        clear hno
        go_wp2_with fail
        go_ret2
        refine .inr ⟨3, .inl rfl, ?_, rfl, H.out⟩
        rintro l (⟨r', he, h1⟩ | ⟨b', r', y, T, he, h1, h2, h3, _⟩)
        · cases he; omega
        · cases he; exact HNO.out y h2 h3
end Go.Proofs.Ytgmgbgjghncipaa

