/- pack.Num, and the document's. -/
import Derived.Test.YtgmgbgjghncipaaPackP
import Derived.Test.YtgmgbgjghncipaaRef
import Derived.Test.YtgmgbgjghncipaaCloneSt
import Derived.Laws.BitsAllLaws
namespace Go.Proofs.Ytgmgbgjghncipaa
open Go.RowKit

section
variable {P : Program} {w0 w : World} {os : List Thing}
/-- A slice of the call's own, or one without room to spare. -/
def Base (w0 w : World) (os : List Thing) (e : TypeId) (v : Value) (xs : List Value) : Prop :=
  St w0 w (rowT e v xs :: os) ∨ (St w0 w os ∧ Reads w v xs ∧ ∃ ad, v = .slice ad xs.length xs.length)

theorem Base.alloc {e : TypeId} {v : Value} {xs : List Value} (h : Base w0 w os e v xs) (o : Obj) : Base w0 (w.alloc o) os e v xs := by
  rcases h with h | ⟨h1, h2, h3⟩
  · exact .inl (h.alloc o)
  · exact .inr ⟨h1.alloc o, h2.below ((Below.refl _ _).alloc (Nat.le_refl _) _), h3⟩

theorem wpList_append_base {ops : Array Oper} {rest : List Oper} {o : Oper} {a : Act} {Q : Exit → Act → World → Prop} (hgd : Region.wanted o (yielded ops a.tmps) = true) (s x : Operand) (t : TypeId)
    (ho : o.op = .call { callee := .builtin .append, args := #[s, x], argTypes := #[t, t] })
    (e : TypeId) (i : TypeInfo) (z : Value) (bytes : Nat) (ht : P.underlying t = some (.slice e)) (hi : P.info? e = some i) (hz : i.zero = some z)
    (hsize : i.size = 1) (hby : i.bytes = bytes) (hzs : z.cells.size = 1) (v sv : Value) (xs news : List Value) (hs : a.eval s = v) (hx : a.eval x = sv)
    (h : Base w0 w os e v xs) (hr : Reads w sv news) (h1 : ∀ u ∈ news, u.oneCell' = true) (h0 : 0 < news.length)
    (h63 : xs.length + news.length ≤ maxLen) (hbytes : (xs.length + news.length) * bytes ≤ 140737488355328)
    (next : ∀ v' w', St w0 w' (rowT e v' (xs ++ news) :: os) → wpList P ops Q rest (a.put o.dst v') w') : wpList P ops Q (o :: rest) a w := by
  rcases h with h | ⟨h2, h3, ad, rfl⟩
  · exact wpList_append_st hgd s x t ho e i z bytes ht hi hz hsize hby hzs v sv xs news hs hx h hr h1 h63 hbytes next
  · refine wpList_append_fresh hgd s x t ho e i z bytes ht hi hz hsize hby hzs ad xs.length sv xs news hs hx h3 hr h0 h63 hbytes fun v' w' hown hk => next v' w' (h2.newRow hk hown)
end

set_option maxRecDepth 20000 in
theorem or_more (y : Nat) : bits BinOp.or IntKind.u8 ((y : Int) % 256) 128 = ((128 + y % 128 : Nat) : Int) := by
  have e : ((y : Int) % 256) = ((y % 256 : Nat) : Int) := by omega
  have h := u8_or_nat (y % 256) 128 (by omega) (by decide)
  have h2 : ∀ x : Fin 256, x.val ||| 128 = 128 + x.val % 128 := by decide
  have h3 := h2 ⟨y % 256, by omega⟩
  simp only at h3
  rw [e]
  refine h.trans ?_
  rw [h3]
  omega

theorem bytesOf_snoc (l : List Nat) (x : Nat) : bytesOf l ++ [.int .u8 ((x : Nat) : Int)] = bytesOf (l ++ [x]) := by rw [bytesOf_append]; rfl

set_option maxRecDepth 100000 in
set_option maxHeartbeats 2000000 in
theorem packNum_any {w0 w : World} {os : List Thing} (h : St w0 w os) (pv : Value) (l : List Nat) (hv : Reads w pv (bytesOf l)) (x : Nat) (hx : x < 18446744073709551616) (hl : l.length ≤ 1099511627) :
    Calls Try.prog 10 #[pv, .int .u64 x] w fun e w' => ∃ v, e = .returned v ∧ St w0 w' (rowT 5 v (bytesOf (l ++ PackP.numB x)) :: os) := by
  obtain ⟨i0, hi, hz0, hz1, hz2⟩ := info_parts info_u8
  have HR := Lib.hid (fun (w1 : World) (y : Int) => Reads.made w1 #[.int .u8 y] 5 (0, 0) 1 (by simp) (by decide))
  have HX := Lib.hid (PackP.numB_len10 x hx)
  obtain ⟨ao, cap, rfl, hcap, hm, hnil, hc⟩ := hv
  rw [bytesOf_len] at *
  have hv : Reads w (.slice ao l.length cap) (bytesOf l) := ⟨ao, cap, by rw [bytesOf_len], by rw [bytesOf_len]; exact hcap, hm, hnil, hc⟩
  have hv2 := hv.shrink
  have HB : Hid (Base w0 w os 5 (.slice ao l.length l.length) (bytesOf (l ++ []))) := by
    show Base _ _ _ _ _ _
    rw [List.append_nil]
    exact .inr ⟨h, hv2, ao, by rw [bytesOf_len]⟩
  clear hv hv2 hc hnil h
  go_enter Try.func10, Try.ntmps10
  go_wp2_with fail
  go_loopw [0, 1] (fun pv xv wr => ∃ (d : List Nat) (y : Nat), xv = .int .u64 y ∧ y < 18446744073709551616 ∧ PackP.numB x = d ++ PackP.numB y ∧ Base w0 wr os 5 pv (bytesOf (l ++ d))) (fun _ xv _ => (intOf xv).toNat)
  case atStart => exact ⟨[], x, rfl, hx, rfl, HB.out⟩
  case round =>
    obtain ⟨d, y, rfl, hy, he, hB⟩ := hrel
    clear HB
    have HB := Lib.hid hB
    have HE := Lib.hid he
    have HDL : Hid (l.length + d.length + 11 < 1099511700) := by
      show _ < _
      have h1 := HX.out
      rw [he, List.length_append] at h1
      omega
    have HLN : Hid ((bytesOf (l ++ d)).length = l.length + d.length) := by show _ = _; rw [bytesOf_len, List.length_append]
    clear hB he
    by_cases hlt : y < 128
    · have HA : Hid (bytesOf (l ++ d) ++ [.int .u8 ((y : Nat) : Int)] = bytesOf (l ++ PackP.numB x)) := by
        show _ = _
        rw [bytesOf_snoc, HE.out, PackP.numB_lt y hlt, List.append_assoc]
      go_wp2_with (at_builtin; refine wpList_append_base rfl _ _ 23 rfl 5 i0 (.int .u8 0) 1 Try.underlying23 hi hz0 hz1 hz2 rfl _ _ _ [.int .u8 (y : Int)] rfl (by first | rfl | simp) (HB.out.alloc _) (HR.out _ _) (one_oneCell _ rfl) (Nat.succ_pos _) ?c1 ?c2 ?_)
      case c1 => simp only [HLN.out, List.length_cons, List.length_nil]; have := HDL.out; unfold maxLen; omega
      case c2 => simp only [HLN.out, List.length_cons, List.length_nil]; have := HDL.out; omega
      intro v2 w2 S2
      rw [HA.out] at S2
      have S2 := Lib.hid S2
      go_wp2
      go_ret
      exact ⟨_, rfl, S2.out⟩
    · have HM := Lib.hid (or_more y)
      have HA : Hid (bytesOf (l ++ d) ++ [.int .u8 ((128 + y % 128 : Nat) : Int)] = bytesOf (l ++ (d ++ [128 + y % 128]))) := by
        show _ = _
        rw [bytesOf_snoc, List.append_assoc]
      go_wp2_with (at_builtin; refine wpList_append_base rfl _ _ 23 rfl 5 i0 (.int .u8 0) 1 Try.underlying23 hi hz0 hz1 hz2 rfl _ _ _ [.int .u8 (bits BinOp.or IntKind.u8 ((y : Int) % 256) 128)] rfl (by first | rfl | simp) (HB.out.alloc _) (HR.out _ _) (one_oneCell _ rfl) (Nat.succ_pos _) ?c1 ?c2 ?_)
      case c1 => simp only [HLN.out, List.length_cons, List.length_nil]; have := HDL.out; unfold maxLen; omega
      case c2 => simp only [HLN.out, List.length_cons, List.length_nil]; have := HDL.out; omega
      intro v2 w2 S2
      rw [HM.out, HA.out] at S2
      have S2 := Lib.hid S2
      go_wp2_with fail
      go_roundw
      case rel => exact ⟨d ++ [128 + y % 128], y / 128, by go_num, by omega, by rw [HE.out, PackP.numB_ge y (by omega)]; simp, .inl S2.out⟩
      case measure => simp [intOf]; omega

set_option maxRecDepth 100000 in
set_option maxHeartbeats 2000000 in
theorem refNum19_any : ∀ (x : Nat) {w0 w : World} {os : List Thing} (h : St w0 w os) (hx : x < 18446744073709551616),
    Calls Try.prog 11 #[.int .u64 x] w fun e w' => ∃ v, e = .returned v ∧ St w0 w' (rowT 5 v (bytesOf (PackP.numB x)) :: os) := by
  intro x
  induction x using Nat.strongRecOn with
  | ind x ih =>
    intro w0 w os h hx
    obtain ⟨i0, hi, hz0, hz1, hz2⟩ := info_parts info_u8
    have HO : Hid (∀ (W : World) (y : Nat), St w0 W os → St w0 (W.alloc (.cells #[.int .u8 (y : Int)] 5)) (rowT 5 (.slice (some ⟨W.heap.size, 0, none⟩) 1 1) (bytesOf [y]) :: os)) := by
      intro W y hW
      exact hW.newRow ((Keeps.refl _ _).alloc _) (World.ownsRow_lit (base := W.heap.size) (e := 5) (size := 1) W #[.int .u8 (y : Int)] 1 (Nat.le_refl _) (by decide) (by simp))
    have H := Lib.hid h
    clear h
    by_cases hlt : x < 128
    · have S1 := Lib.hid (HO.out w x H.out)
      go_enter Try.func11, Try.ntmps11
      go_wp2_with fail
      go_ret
      exact ⟨_, rfl, by rw [PackP.numB_lt x hlt]; exact S1.out⟩
    · have HI := Lib.hid (fun (w2 : World) (os2 : List Thing) (h2 : St w0 w2 os2) => ih (x / 128) (by omega) h2 (by omega))
      have hdv : ((x : Int) / 128) = ((x / 128 : Nat) : Int) := by omega
      have S1 := HO.out w (128 + x % 128) H.out
      have hmd : ((128 + x % 128 : Nat) : Int) = 128 + (x : Int) % 128 := by omega
      rw [hmd] at S1
      have S1 := Lib.hid S1
      have HC : Hid (Calls Try.prog 11 #[.int .u64 ((x : Int) / 128)] (w.alloc (.cells #[.int .u8 (128 + (x : Int) % 128)] 5)) fun e w' => ∃ v, e = .returned v ∧ St w0 w' (rowT 5 v (bytesOf (PackP.numB (x / 128))) :: rowT 5 (.slice (some ⟨w.heap.size, 0, none⟩) 1 1) (bytesOf [128 + x % 128]) :: os)) := by
        show Calls _ _ _ _ _
        rw [hdv]
        exact HI.out _ _ S1.out
      have HLN : Hid ((bytesOf (PackP.numB (x / 128))).length ≤ 10) := by show _ ≤ _; rw [bytesOf_len]; exact PackP.numB_len10 _ (by omega)
      have HB : Hid (bytesOf [128 + x % 128] ++ bytesOf (PackP.numB (x / 128)) = bytesOf (PackP.numB x)) := by
        show _ = _
        rw [← bytesOf_append, PackP.numB_ge x (by omega)]; rfl
      clear hmd hdv HI H S1 HO ih
      go_enter Try.func11, Try.ntmps11
      go_wp2_with fail
      refine HC.out.mono ?_
      rintro e w2 ⟨v2, rfl, S2⟩
      have S2 := Lib.hid S2
      have R2 := Lib.hid (S2.out.reads (List.mem_cons_self ..))
      go_wp2_with (at_builtin; refine wpList_append_st rfl _ _ 23 rfl 5 i0 (.int .u8 0) 1 Try.underlying23 hi hz0 hz1 hz2 rfl _ _ _ (bytesOf (PackP.numB (x / 128))) rfl rfl S2.out.swap R2.out (oneCell_bytes _) ?c1 ?c2 ?_)
      case c1 => have := HLN.out; simp only [bytesOf_len, List.length_cons, List.length_nil] at *; unfold maxLen; omega
      case c2 => have := HLN.out; simp only [bytesOf_len, List.length_cons, List.length_nil] at *; omega
      intro v3 w3 S3
      rw [HB.out] at S3
      have S3 := Lib.hid S3.swap.tail
      go_wp2
      go_ret
      exact ⟨_, rfl, S3.out⟩
end Go.Proofs.Ytgmgbgjghncipaa

