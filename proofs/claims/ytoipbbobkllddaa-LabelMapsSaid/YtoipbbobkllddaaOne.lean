/- perm.One, perm.Then, perm.Same, Perm.List. -/
import Derived.Test.YtoipbbobkllddaaAwakePm
import Derived.Test.YtoipbbobkllddaaInvP
import Derived.Deep.RegionLaw
namespace Go.Proofs.Ytoipbbobkllddaa
open Go.RowKit

/-- a permutation that stands, whatever else its memory holds: its first cell and its numbers -/
def PermV (w0 : World) (os : List Thing) (p : Nat) (v : Value) (xs : List Int) : Prop := ∀ W os', St w0 W (os' ++ os) → W.cell? ⟨p, 0, none⟩ = some v ∧ Reads W v (intsOf xs)

theorem PermV.of {w0 : World} {os : List Thing} {p : Nat} {v : Value} {xs : List Int} (hm1 : cellT p (permObj v) ∈ os) (hm2 : rowT 3 v (intsOf xs) ∈ os) : PermV w0 os p v xs :=
  fun _ _ hW => ⟨hW.permAt (List.mem_append_right _ hm1), hW.reads (List.mem_append_right _ hm2)⟩
theorem PermV.more {w0 : World} {os : List Thing} {p : Nat} {v : Value} {xs : List Int} (h : PermV w0 os p v xs) (ps : List Thing) : PermV w0 (ps ++ os) p v xs :=
  fun W os' hW => h W (os' ++ ps) (by rw [List.append_assoc]; exact hW)
theorem PermV.cons {w0 : World} {os : List Thing} {p : Nat} {v : Value} {xs : List Int} (h : PermV w0 os p v xs) (o : Thing) : PermV w0 (o :: os) p v xs := h.more [o]

/-- append as one step of a region that draws -/
theorem step_append_st {P : Program} {w0 : World} {os : List Thing} {ops : Array Oper} {o : Oper} {a : Act} {w : World} {K : Act → World → Prop} {Q : Exit → Act → World → Prop} {E : Prop}
    (hgd : o.guard = none) (s x : Operand) (t : TypeId) (ho : o.op = .call { callee := .builtin .append, args := #[s, x], argTypes := #[t, t] })
    (e : TypeId) (i : TypeInfo) (z : Value) (bytes : Nat) (ht : P.underlying t = some (.slice e)) (hi : P.info? e = some i) (hz : i.zero = some z)
    (hsize : i.size = 1) (hby : i.bytes = bytes) (hzs : z.cells.size = 1) (v sv : Value) (xs news : List Value) (hs : a.eval s = v) (hx : a.eval x = sv)
    (h : St w0 w (rowT e v xs :: os)) (hr : Reads w sv news) (h1 : ∀ u ∈ news, u.oneCell' = true)
    (h63 : xs.length + news.length ≤ maxLen) (hbytes : (xs.length + news.length) * bytes ≤ 140737488355328)
    (next : ∀ v' w', St w0 w' (rowT e v' (xs ++ news) :: os) → K (a.put o.dst v') w') :
    if Region.wanted o (yielded ops a.tmps) = true then Oper.wp P o a w K Q else E := by
  have hw : Region.wanted o (yielded ops a.tmps) = true := by simp [Region.wanted, hgd]
  rw [if_pos hw]
  obtain ⟨v', w', hrun, hst⟩ := run_append_st (P := P) t o.type e i z bytes ht hi hz hsize hby hzs v sv xs news h hr h1 h63 hbytes
  unfold Oper.wp execOp
  simp only [ho, resolve, invoke, builtin, Sem.run_bind, Sem.run_pure, Result.andThen_ok, List.map_toArray, List.map_cons, List.map_nil, hs, hx, hrun]
  exact next v' w' hst

set_option maxRecDepth 100000 in
theorem permListV_any {w0 w : World} {os : List Thing} (h : St w0 w os) (p : Nat) (v : Value) (xs : List Int) (hp : PermV w0 os p v xs) (hl : xs.length ≤ 1000000) :
    Calls Try.prog 30 #[.pointer (some ⟨p, 0, none⟩)] w fun e w' => ∃ v', e = .returned v' ∧ St w0 w' (rowT 3 v' (intsOf xs) :: os) := by
  obtain ⟨hc, hr⟩ := hp w [] h
  have HCL := Lib.hid (cloneInts_any v (intsOf xs) w hr (ints_oneCell xs) (by rw [intsOf_len]; omega))
  have H := Lib.hid h
  clear h hr
  go_enter Try.func30, Try.ntmps30
  go_wp2_with fail
  refine HCL.out.mono ?_
  rintro e w2 ⟨v2, rfl, ho, hk⟩
  have H2 := Lib.hid (H.out.newRow hk ho)
  clear ho hk
  go_wp2
  go_ret
  exact ⟨_, rfl, H2.out⟩

theorem permList_nil (w : World) : Calls Try.prog 30 #[.pointer none] w fun e w' => e = .returned (.slice none 0 0) ∧ w = w' := by
  go_enter Try.func30, Try.ntmps30
  go_wp2
  go_ret
  exact ⟨rfl, rfl⟩

set_option maxRecDepth 100000 in
theorem permSame_any {w0 w : World} {os : List Thing} (h : St w0 w os) (p q : Nat) (v u : Value) (xs ys : List Int) (hp : PermV w0 os p v xs) (hq : PermV w0 os q u ys) (hl : xs.length ≤ 1000000) (hl2 : ys.length ≤ 1000000) :
    Calls Try.prog 23 #[.pointer (some ⟨p, 0, none⟩), .pointer (some ⟨q, 0, none⟩)] w fun e w' => e = .returned (.bool (decide (xs = ys))) ∧ St w0 w' os := by
  have H1 := Lib.hid (permListV_any h p v xs hp hl)
  have HQ := Lib.hid hq
  clear h hp hq
  go_enter Try.func23, Try.ntmps23
  go_wp2_with fail
  refine H1.out.mono ?_
  rintro e w1 ⟨v1, rfl, h1⟩
  have H2 := Lib.hid (permListV_any h1 q u ys (HQ.out.cons _) hl2)
  clear h1 H1
  go_wp2_with fail
  refine H2.out.mono ?_
  rintro e w2 ⟨v2, rfl, h2⟩
  have HE := Lib.hid (equalInts_any v1 v2 xs ys w2 (h2.reads (List.mem_cons_of_mem _ (List.mem_cons_self ..))) (h2.reads (List.mem_cons_self ..)))
  have H3 := Lib.hid h2
  clear h2 H2
  go_wp2_with fail
  refine HE.out.mono ?_
  rintro e w3 ⟨rfl, m, rfl⟩
  have H4 := Lib.hid ((H3.out.same (Keeps.drewN _ m)).tail.tail)
  clear H3 HE
  obtain ⟨b, hb⟩ : ∃ b, decide (xs = ys) = b := ⟨_, rfl⟩
  rw [hb]
  generalize w2.drewN m = w4 at H4 ⊢
  go_wp2
  go_ret
  exact ⟨by rw [hb]; rfl, H4.out⟩

theorem oneL_snoc (i : Nat) : intsOf (oneL i) ++ [Value.int .i64 i] = intsOf (oneL (i + 1)) := by simp [oneL, mapL, intsOf, List.range_succ]

set_option maxRecDepth 100000 in
set_option maxHeartbeats 4000000 in
theorem permOne_nat {w0 w : World} {os : List Thing} (h : St w0 w os) (n : Nat) (hn : n ≤ 1000000) :
    Calls Try.prog 34 #[.int .i64 n] w fun e w' => ∃ p v, e = .returned (.pointer (some ⟨p, 0, none⟩)) ∧ St w0 w' (cellT p (permObj v) :: rowT 3 v (intsOf (oneL n)) :: os) := by
  obtain ⟨i0, hii, hz0, hz1, hz2⟩ := info_parts info_i64
  have HR1 := Lib.hid (fun (w1 : World) (y : Int) => Reads.made w1 #[.int .i64 y] 3 (0, 0) 1 (by simp) (by decide))
  obtain ⟨g, hg⟩ : ∃ g, w.heap.size = g := ⟨_, rfl⟩
  have h0 := (h.newRow (E := 3) (v := .slice none 0 0) (n := 0) (xs := []) (Keeps.refl _ _) (World.ownsRow_nil _ _ _ _)).newCell (permObj (.slice none 0 0))
  rw [hg] at h0
  have H0 := Lib.hid h0
  have HG := Lib.hid hg
  have hn0 : (0 : Int) ≤ (n : Int) := by omega
  clear h h0 hg
  go_enter Try.func34, Try.ntmps34
  go_wp2_with fail
  rw [HG.out]
  go_loopw [9] (fun iv wr => ∃ (i : Nat) (v : Value), i ≤ n ∧ iv = .int .i64 i ∧ St w0 wr (rowT 3 v (intsOf (oneL i)) :: cellT g (permObj v) :: os)) (fun iv _ => n - (intOf iv).toNat)
  case atStart => exact ⟨0, _, by omega, rfl, H0.out.swap⟩
  case round =>
    obtain ⟨i, v, hi, rfl, hS⟩ := hrel
    have c0 : wr.cell? ⟨g, 0, none⟩ = some v := hS.swap.cellAt 0
    have HS := Lib.hid hS
    have HL : Hid ((intsOf (oneL i)).length = i) := by show _ = _; rw [intsOf_len, oneL, mapL_len]
    clear hS H0
    by_cases hlt : i < n
    · go_wp2_with (at_builtin; refine wpList_append_st rfl _ _ 22 rfl 3 i0 (.int .i64 0) 8 Try.underlying22 hii hz0 hz1 hz2 rfl _ _ _ [.int .i64 (i : Nat)] rfl (by first | rfl | simp) (HS.out.alloc _) (HR1.out _ _) (one_oneCell' _ rfl) ?c1 ?c2 ?_)
      case c1 => simp only [HL.out, List.length_cons, List.length_nil]; unfold maxLen; omega
      case c2 => simp only [HL.out, List.length_cons, List.length_nil]; omega
      intro v5 w5 h5
      rw [oneL_snoc] at h5
      obtain ⟨a5, c5, rfl, _, _⟩ := ownsRow_slice h5.row
      have hl1 : (intsOf (oneL (i + 1))).length = i + 1 := by rw [intsOf_len, oneL, mapL_len]
      rw [hl1] at h5 ⊢
      clear hl1
      have k0 : w5.cell? ⟨g, 0, none⟩ = some v := h5.swap.cellAt 0
      have kf : w5.frozen? ⟨g, 0, none⟩ = false := h5.swap.freeAt 0
      have S6 : Hid (St w0 (w5.setCell ⟨g, 0, none⟩ (.slice a5 (i + 1) c5)) (cellT g (permObj (.slice a5 (i + 1) c5)) :: rowT 3 (.slice a5 (i + 1) c5) (intsOf (oneL (i + 1))) :: os)) := h5.swap.storeCell 0 (.slice a5 (i + 1) c5)
      clear HS h5
      go_wp2_with fail
      go_roundw
      case rel => exact ⟨i + 1, _, by omega, by go_num, S6.out.swap⟩
      case measure => simp [intOf]; omega
    · obtain rfl : i = n := by omega
      go_wp2_with fail
      go_ret
      exact ⟨_, _, rfl, HS.out.swap⟩

set_option maxRecDepth 100000 in
theorem permOne_neg {w0 w : World} {os : List Thing} (h : St w0 w os) (z : Int) (hz : z < 0) :
    Calls Try.prog 34 #[.int .i64 z] w fun e w' => ∃ p v, e = .returned (.pointer (some ⟨p, 0, none⟩)) ∧ St w0 w' (cellT p (permObj v) :: rowT 3 v (intsOf (oneL 0)) :: os) := by
  obtain ⟨g, hg⟩ : ∃ g, w.heap.size = g := ⟨_, rfl⟩
  have h0 := (h.newRow (E := 3) (v := .slice none 0 0) (n := 0) (xs := []) (Keeps.refl _ _) (World.ownsRow_nil _ _ _ _)).newCell (permObj (.slice none 0 0))
  rw [hg] at h0
  have H0 := Lib.hid h0
  have HG := Lib.hid hg
  clear h h0 hg
  go_enter Try.func34, Try.ntmps34
  go_wp2_with fail
  rw [HG.out]
  go_loopw [9] (fun iv wr => iv = .int .i64 0 ∧ St w0 wr (cellT g (permObj (.slice none 0 0)) :: rowT 3 (.slice none 0 0) [] :: os)) (fun _ _ => 0)
  case atStart => exact ⟨rfl, H0.out⟩
  case round =>
    obtain ⟨rfl, hS⟩ := hrel
    have HS := Lib.hid hS
    clear hS H0
    go_wp2_with fail
    go_ret
    exact ⟨_, _, rfl, HS.out⟩

/-- the number of One -/
theorem permOne_any {w0 w : World} {os : List Thing} (h : St w0 w os) (z : Int) (hz : z ≤ 1000000) :
    Calls Try.prog 34 #[.int .i64 z] w fun e w' => ∃ p v, e = .returned (.pointer (some ⟨p, 0, none⟩)) ∧ St w0 w' (cellT p (permObj v) :: rowT 3 v (intsOf (oneL z.toNat)) :: os) := by
  by_cases h0 : z < 0
  · rw [show z.toNat = 0 by omega]
    exact permOne_neg h z h0
  · obtain ⟨n, rfl⟩ : ∃ n : Nat, z = n := ⟨z.toNat, by omega⟩
    rw [Int.toNat_natCast]
    exact permOne_nat h n (by omega)
end Go.Proofs.Ytoipbbobkllddaa

