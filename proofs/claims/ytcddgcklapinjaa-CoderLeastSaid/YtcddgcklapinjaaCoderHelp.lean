/- The helpers of the coder's laws: vec, some, awake. -/
import Derived.Test.YtcddgcklapinjaaDecode
import Derived.Test.YtcddgcklapinjaaOf
namespace Go.Proofs.Ytcddgcklapinjaa
open Go.RowKit

theorem encode_vec {w0 w : World} {os : List Thing} (h : St w0 w os) {b : Nat} {v : Value} {l : List Bool} (hm : vecT b v l ∈ os) (k : Nat) (hk : k ≤ 8) (hl : l.length < 4294967296) :
    Calls Try.prog 10 #[.pointer (some ⟨b, 0, none⟩), .int .i64 k] w fun e w' => ∃ o v', e = .returned (.tuple #[.pointer (some ⟨o, 0, none⟩), .int .i64 0]) ∧ St w0 w' (vecT o v' (CoderP.code k l) :: os) :=
  encode_any h _ l k hk hl (fun W os' h' => vecLen_any (b := b) (v := v) (l := l) h' (by simp [hm])) (fun W os' i hi h' => vecAt_in (b := b) (v := v) (l := l) h' (by simp [hm]) i hi)

theorem code_nil (k : Nat) : CoderP.code k [] = [false, true] := by
  unfold CoderP.code CoderP.enc; rw [if_pos (by decide)]

set_option maxHeartbeats 1000000 in
theorem vec18_any {w0 w : World} {os : List Thing} (h : St w0 w os) (sv : Value) (l : List Bool) (hn : l.length < 1099511627000)
    (hv : ∀ w' os', St w0 w' (os' ++ os) → Reads w' sv (intsOf (bitsOf l))) :
    Calls Try.prog 11 #[sv] w fun e w' => ∃ b v, e = .returned (.pointer (some ⟨b, 0, none⟩)) ∧ St w0 w' (vecT b v l :: os) := by
  have HV := Lib.hid hv
  have H := Lib.hid h
  clear h hv
  go_enter Try.func11, Try.ntmps11
  go_wp2_with fail
  refine (bitsNew_any H.out).mono ?_
  rintro e w1 ⟨b, rfl, h1, _⟩
  have H1 := Lib.hid h1
  clear h1 H
  go_wp2_with fail
  refine (vecAdd_any H1.out sv (bitsOf l) (fun w' v' l' h' => HV.out w' [_] h') (by rw [bitsOf_len]; simp; omega)).mono ?_
  rintro e w2 ⟨rfl, v2, h2⟩
  rw [flags_bitsOf, List.nil_append] at h2
  have H2 := Lib.hid h2
  go_wp2
  go_ret
  exact ⟨b, v2, rfl, H2.out⟩

/-- so many times over -/
def times (n : Nat) (l : List Bool) : List Bool := (List.replicate n l).flatten
theorem times_succ (n : Nat) (l : List Bool) : times (n + 1) l = times n l ++ l := by simp [times, List.replicate_succ']
theorem times_len (n : Nat) (l : List Bool) : (times n l).length = n * l.length := by simp [times]

set_option maxHeartbeats 2000000 in
theorem some18_any {w0 w : World} {os : List Thing} (h : St w0 w os) (sp : Value) (p : List Nat) (hp : ∀ x ∈ p, x < 256) (hpl : p.length ≤ 9223372036854775807)
    (hv : ∀ w' os', St w0 w' (os' ++ os) → Reads w' sp (bytesOf p)) (n t : Nat) (hn : n < 256) (ht : t < 256) :
    Calls Try.prog 9 #[sp, .int .u8 n, .int .u8 t] w fun e w' => ∃ v F, e = .returned v ∧ F = times (1 + t % 12) (fewOf p (n % 100)) ∧ F.length ≤ 1188 ∧ St w0 w' (rowT 3 v (intsOf (bitsOf F)) :: os) := by
  obtain ⟨i0, hi, hz0, hz1, hz2⟩ := info_parts info_i64
  have H := Lib.hid h
  have HV := Lib.hid hv
  have HP := Lib.hid (And.intro hp hpl)
  clear h hv hp hpl
  go_enter Try.func9, Try.ntmps9
  go_wp2_with fail
  have hfew : Calls Try.prog 18 #[sp, .int .i64 ((n : Int) % 100)] w _ := refFew_any H.out sp p HP.out.1 HP.out.2 (fun w' o h' => HV.out w' [o] h') (n % 100) (by omega)
  refine hfew.mono ?_
  rintro e w1 ⟨v1, rfl, h1⟩
  have hL := fewOf_len p (n % 100)
  obtain ⟨L, hLL⟩ : ∃ L, fewOf p (n % 100) = L := ⟨_, rfl⟩
  rw [hLL] at h1 hL
  have HLL := Lib.hid hLL
  clear hLL
  have H1 : Hid (St w0 w1 (rowT 3 (.slice none 0 0) (intsOf (bitsOf (times 0 L))) :: rowT 3 v1 (intsOf (bitsOf L)) :: os)) := h1.newRow (Keeps.refl _ _) (World.ownsRow_nil _ _ _ _)
  clear h1 H hfew
  go_wp2_with fail
  go_loopw [8, 18] (fun v i wr => ∃ j : Nat, j ≤ 1 + t % 12 ∧ i = .int .i64 j ∧ St w0 wr (rowT 3 v (intsOf (bitsOf (times j L))) :: rowT 3 v1 (intsOf (bitsOf L)) :: os)) (fun _ i _ => 1 + t % 12 - (intOf i).toNat)
  case atStart => exact ⟨0, by omega, rfl, H1.out⟩
  case round =>
    obtain ⟨j, hj, rfl, hS⟩ := hrel
    have HS := Lib.hid hS
    clear hS H1
    by_cases hlt : j < 1 + t % 12
    · have HLEN : Hid ((intsOf (bitsOf (times j L))).length = j * L.length ∧ (intsOf (bitsOf L)).length = L.length ∧ j * L.length ≤ 12 * 100) := by
        refine ⟨?_, ?_, ?_⟩
        · rw [intsOf_len, bitsOf_len, times_len]
        · rw [intsOf_len, bitsOf_len]
        · exact Nat.mul_le_mul (by omega) (by omega)
      have HT : Hid (intsOf (bitsOf (times (j + 1) L)) = intsOf (bitsOf (times j L)) ++ intsOf (bitsOf L)) := by show _ = _; rw [times_succ, bitsOf_append]
      have HRD := Lib.hid (fun (_ : Unit) => HS.out.tail.reads1)
      go_wp2_with (at_builtin; refine wpList_append_st rfl _ _ 24 rfl 3 i0 (.int .i64 0) 8 Try.underlying24 hi hz0 hz1 hz2 rfl _ _ _ (intsOf (bitsOf L)) rfl rfl HS.out (HRD.out ()) (bits_oneCell _) ?c1 ?c2 ?_)
      case c1 => have := HLEN.out; unfold maxLen; omega
      case c2 => have := HLEN.out; omega
      intro v2 w2 S2
      rw [← HT.out] at S2
      have S2 := Lib.hid S2
      clear HS HRD HT HLEN
      go_wp2
      go_roundw
      case rel => exact ⟨j + 1, by omega, by go_num, S2.out⟩
      case measure => simp [intOf]; omega
    · obtain rfl : j = 1 + t % 12 := by omega
      have HLE : Hid ((times (1 + t % 12) L).length ≤ 1188) := by
        show _ ≤ _
        rw [times_len]
        have : (1 + t % 12) * L.length ≤ 12 * 99 := Nat.mul_le_mul (by omega) (by omega)
        omega
      go_wp2
      go_ret
      exact ⟨_, times (1 + t % 12) L, rfl, by rw [HLL.out], HLE.out, HS.out.swap.tail⟩

set_option maxHeartbeats 1000000 in
theorem awake18_any {w0 w : World} {os : List Thing} (h : St w0 w os) : Calls Try.prog 8 #[] w fun e w' => e = .returned (.bool true) ∧ St w0 w' os := by
  have H := Lib.hid h
  clear h
  go_enter Try.func8, Try.ntmps8
  go_wp2_with fail
  refine (bitsNew_any H.out).mono ?_
  rintro e w1 ⟨b, rfl, h1, _⟩
  have H1 := Lib.hid h1
  clear h1 H
  go_wp2_with fail
  have henc : Calls Try.prog 10 #[.pointer (some ⟨b, 0, none⟩), .int .i64 3] w1 _ := encode_vec (v := .slice none 0 0) (l := []) H1.out (by simp) 3 (by decide) (by decide)
  refine henc.mono ?_
  rintro e w2 ⟨o, v2, rfl, h2⟩
  rw [code_nil] at h2
  have H2 := Lib.hid h2
  clear h2 H1 henc
  go_wp2_with fail
  have hdec : Calls Try.prog 15 #[.pointer (some ⟨o, 0, none⟩), .int .i64 0, .int .i64 3] w2 _ := decode_any (b := o) (bv := v2) (T := [false, true]) H2.out (by simp) 0 3 (by decide) (by decide)
  refine hdec.mono ?_
  have htold : CoderP.told 3 [false, true] 0 = [] := rfl
  rw [htold, code_nil]
  rintro e w3 (⟨_, o3, v3, rfl, h3⟩ | ⟨hne, _⟩)
  · have H3 := Lib.hid h3
    clear h3 H2 hdec
    go_wp2_with fail
    refine (vecText_any (b := o) (v := v2) (l := [false, true]) H3.out (by simp) (by decide)).mono ?_
    rintro e w4 ⟨rfl, h4⟩
    rw [show strOf (textOf [false, true]) = ⟨#[48, 49]⟩ by rfl]
    have H4 := Lib.hid h4
    clear h4 H3
    go_wp2_with fail
    refine (vecLen_any (b := o3) (v := v3) (l := []) H4.out (by simp)).mono ?_
    rintro e w5 ⟨rfl, rfl⟩
    go_wp2
    go_ret
    exact ⟨rfl, H4.out.tail.tail.tail⟩
  · exact absurd rfl hne
end Go.Proofs.Ytcddgcklapinjaa

