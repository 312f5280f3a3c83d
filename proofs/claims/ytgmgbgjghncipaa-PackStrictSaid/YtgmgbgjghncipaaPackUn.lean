/- pack.Unpack. -/
import Derived.Test.YtgmgbgjghncipaaPackRead
namespace Go.Proofs.Ytgmgbgjghncipaa
open Go.RowKit

/-- what bytes say to Unpack -/
def ReadU (p : List Nat) (n : Nat) (plain : Bool) (l : List Bool) : Prop := ∃ b r, p = b :: r ∧ b ≤ 9 ∧ (plain = true → b = 0) ∧ ReadOK p n l

theorem packB_byte (plain : Bool) (l : List Bool) : ∀ x ∈ packB plain l, x < 256 := by
  have : ∀ k, k ≤ 9 → ∀ x ∈ packK plain l k, x < 256 := by
    intro k
    induction k with
    | zero => intro _ x hx; unfold packK at hx; rcases List.mem_cons.1 hx with rfl | hx; omega; exact bytesB_lt _ x hx
    | succ k ih =>
      intro hk x hx
      unfold packK at hx
      split at hx
      · exact codedB_byte k (by omega) l x hx
      · exact ih (by omega) x hx
  exact this 9 (Nat.le_refl _)

/-- how Unpack answers -/
def UnOut (w0 : World) (os : List Thing) (p : List Nat) (n : Int) (plain : Bool) (e : Ending) (w' : World) : Prop :=
  ((n < 0 ∨ 16777216 < n) ∧ e = .returned (.tuple #[.pointer none, .int .i64 0, .int .i64 1]) ∧ St w0 w' os) ∨
  (∃ k : Nat, n = k ∧ k ≤ 16777216 ∧
    ((∃ l, ReadU p k plain l ∧ packB plain l <+: p ∧ ∃ o v, e = .returned (.tuple #[.pointer (some ⟨o, 0, none⟩), .int .i64 ((packB plain l).length : Nat), .int .i64 0]) ∧ St w0 w' (vecT o v l :: os)) ∨
     (∃ ev : Int, (ev = 3 ∨ ev = 10) ∧ (p = [] → ev = 3) ∧ (∀ l, ReadU p k plain l → ¬ packB plain l <+: p) ∧ e = .returned (.tuple #[.pointer none, .int .i64 0, .int .i64 ev]) ∧ St w0 w' os)))

theorem partB_len {p : List Nat} {n : Nat} {l : List Bool} (h : partB p n = some l) : l.length = n := by
  unfold partB at h
  split at h
  · cases h
  · split at h
    · obtain rfl := Option.some.inj h
      unfold fewOf
      rw [List.length_take, eights_len, List.length_take]; omega
    · cases h

theorem readOK_len {p : List Nat} {n : Nat} {l : List Bool} (h : ReadOK p n l) : l.length = n := by
  rcases h with ⟨r, rfl, h1⟩ | ⟨b, r, y, T, rfl, h1, h2, h3, h4, h5, h6⟩
  · exact partB_len h1
  · rw [← h5, CoderP.told_length]

set_option maxRecDepth 100000 in
set_option maxHeartbeats 2000000 in
theorem unpack_any {w0 w : World} {os : List Thing} (h : St w0 w os) (sv : Value) (p : List Nat) (hp : ∀ x ∈ p, x < 256) (n : Int) (plain : Bool) (hlen : p.length < 109951162)
    (hv : ∀ w' os', St w0 w' (os' ++ os) → Reads w' sv (bytesOf p)) :
    Calls Try.prog 15 #[sv, .int .i64 n, .bool plain] w fun e w' => UnOut w0 os p n plain e w' := by
  have hR := hv w [] h
  obtain ⟨ao, cap, rfl, hcap, hm, hnil, hc⟩ := hR
  rw [bytesOf_len] at *
  have hcm : cap ≤ 9223372036854775807 := by unfold maxLen at hm; omega
  have H := Lib.hid h
  have HP := Lib.hid hp
  have HV := Lib.hid hv
  by_cases h0 : n < 0
  · clear hc hnil hm hp hv h
    go_enter Try.func15, Try.ntmps15
    go_wp2
    go_ret3
    exact .inl ⟨.inl h0, rfl, H.out⟩
  · by_cases h1 : 16777216 < n
    · clear hc hnil hm hp hv h
      go_enter Try.func15, Try.ntmps15
      go_wp2
      go_ret3
      exact .inl ⟨.inr h1, rfl, H.out⟩
    · obtain ⟨k, rfl⟩ : ∃ k : Nat, n = k := ⟨n.toNat, by omega⟩
      have hk : k ≤ 16777216 := by omega
      cases p with
      | nil =>
        clear hc hnil hm hp hv h
        go_enter Try.func15, Try.ntmps15
        go_wp2
        go_ret3
        exact .inr ⟨k, rfl, hk, .inr ⟨3, .inl rfl, (fun _ => rfl), (by rintro l ⟨b, r, he, _⟩; cases he), rfl, H.out⟩⟩
      | cons b r =>
        rcases hc with hc | ⟨g, off, rfl, hc⟩
        · exfalso; simp [bytesOf] at hc
        have cb : w.cell? ⟨g, off, none⟩ = some (.int .u8 (b : Int)) := hc 0 _ rfl
        have hb256 : b < 256 := hp b (by simp)
        rw [List.length_cons] at *
        clear hc hnil hm hp hv h
        by_cases hb9 : 9 < b
        · have d1 : decide (9 < (b : Int)) = true := decide_eq_true (by omega)
          go_enter Try.func15, Try.ntmps15
          go_wp2
          go_ret3
          exact .inr ⟨k, rfl, hk, .inr ⟨3, .inl rfl, (fun _ => rfl), (by rintro l ⟨b', r', he, h3, _⟩; cases he; omega), rfl, H.out⟩⟩
        · have d1 : decide (9 < (b : Int)) = false := decide_eq_false (by omega)
          by_cases hpb : plain = true ∧ 0 < b
          · obtain ⟨rfl, hb0⟩ := hpb
            have d2 : decide (0 < (b : Int)) = true := decide_eq_true (by omega)
            go_enter Try.func15, Try.ntmps15
            go_wp2
            go_ret3
            exact .inr ⟨k, rfl, hk, .inr ⟨3, .inl rfl, (fun _ => rfl), (by rintro l ⟨b', r', he, h3, h4, _⟩; cases he; have := h4 rfl; omega), rfl, H.out⟩⟩
          · have HPB : Hid (plain = true → b = 0) := by intro h; apply Classical.byContradiction; intro h2; exact hpb ⟨h, by omega⟩
            have HR := Lib.hid (packRead_any H.out _ b r HP.out (by omega) k hk (by omega) HV.out)
            cases plain with
            | true =>
              obtain rfl : b = 0 := HPB.out rfl
              clear hpb
              go_enter Try.func15, Try.ntmps15
              go_wp2_with fail
              refine HR.out.mono ?_
              rintro e w2 (⟨l, hl, o, v, rfl, hS⟩ | ⟨ev, hev, hno, rfl, hS⟩)
              · have HL := Lib.hid hl
                have hll := readOK_len hl
                have S2 := Lib.hid hS
                clear hl hS HR
                go_wp2_with fail
                refine (pack_any S2.out _ l _ (by omega) (VecIs.vec (b := o) (v := v) (l := l) (by simp) (by omega))).mono ?_
                rintro e w3 ⟨v3, rfl, hS3⟩
                obtain ⟨a3, c3, rfl, _, _⟩ := ownsRow_slice hS3.row
                obtain ⟨Q, hQ⟩ : ∃ Q, packB true l = Q := ⟨_, rfl⟩
                have HQB := Lib.hid (packB_byte true l)
                rw [hQ] at hS3 HQB ⊢
                rw [bytesOf_len] at hS3 ⊢
                have HQ := Lib.hid hQ
                have HPF := Lib.hid (hasPrefix_any _ _ (0 :: r) Q w3 (HV.out w3 [_, _] hS3) (hS3.reads (List.mem_cons_self ..)) HP.out HQB.out)
                have S3 := Lib.hid hS3
                clear hS3 hQ S2
                go_wp2_with fail
                refine HPF.out.mono ?_
                rintro e w4 ⟨rfl, rfl⟩
                by_cases hpf : Q <+: 0 :: r
                · rw [decide_eq_true hpf]
                  go_wp2_with fail
                  go_ret3
                  exact .inr ⟨k, rfl, hk, .inl ⟨l, ⟨0, r, rfl, by omega, fun _ => rfl, HL.out⟩, by rw [HQ.out]; exact hpf, o, v, by rw [HQ.out]; rfl, S3.out.tail⟩⟩
                · rw [decide_eq_false hpf]
                  go_wp2_with fail
                  go_ret3
                  refine .inr ⟨k, rfl, hk, .inr ⟨10, .inr rfl, (fun h => by cases h), ?_, rfl, S3.out.tail.tail⟩⟩
                  rintro m ⟨b', r', he, _, _, h5⟩ h6
                  obtain rfl := readOK_uniq HL.out h5
                  rw [HQ.out] at h6
                  exact hpf h6
              · have HNO := Lib.hid hno
                clear hno HR
                rcases hev with rfl | rfl
                · go_wp2_with fail
                  go_ret3
                  refine .inr ⟨k, rfl, hk, .inr ⟨3, .inl rfl, (fun _ => rfl), ?_, rfl, hS⟩⟩
                  rintro m ⟨b', r', he, _, _, h5⟩ _
                  exact HNO.out m h5
                · go_wp2_with fail
                  go_ret3
                  refine .inr ⟨k, rfl, hk, .inr ⟨10, .inr rfl, (fun h => by cases h), ?_, rfl, hS⟩⟩
                  rintro m ⟨b', r', he, _, _, h5⟩ _
                  exact HNO.out m h5
            | false =>
              clear hpb
              go_enter Try.func15, Try.ntmps15
              go_wp2_with fail
              refine HR.out.mono ?_
              rintro e w2 (⟨l, hl, o, v, rfl, hS⟩ | ⟨ev, hev, hno, rfl, hS⟩)
              · have HL := Lib.hid hl
                have hll := readOK_len hl
                have S2 := Lib.hid hS
                clear hl hS HR
                go_wp2_with fail
                refine (pack_any S2.out _ l _ (by omega) (VecIs.vec (b := o) (v := v) (l := l) (by simp) (by omega))).mono ?_
                rintro e w3 ⟨v3, rfl, hS3⟩
                obtain ⟨a3, c3, rfl, _, _⟩ := ownsRow_slice hS3.row
                obtain ⟨Q, hQ⟩ : ∃ Q, packB false l = Q := ⟨_, rfl⟩
                have HQB := Lib.hid (packB_byte false l)
                rw [hQ] at hS3 HQB ⊢
                rw [bytesOf_len] at hS3 ⊢
                have HQ := Lib.hid hQ
                have HPF := Lib.hid (hasPrefix_any _ _ (b :: r) Q w3 (HV.out w3 [_, _] hS3) (hS3.reads (List.mem_cons_self ..)) HP.out HQB.out)
                have S3 := Lib.hid hS3
                clear hS3 hQ S2
                go_wp2_with fail
                refine HPF.out.mono ?_
                rintro e w4 ⟨rfl, rfl⟩
                by_cases hpf : Q <+: b :: r
                · rw [decide_eq_true hpf]
                  go_wp2_with fail
                  go_ret3
                  exact .inr ⟨k, rfl, hk, .inl ⟨l, ⟨b, r, rfl, by omega, HPB.out, HL.out⟩, by rw [HQ.out]; exact hpf, o, v, by rw [HQ.out]; rfl, S3.out.tail⟩⟩
                · rw [decide_eq_false hpf]
                  go_wp2_with fail
                  go_ret3
                  refine .inr ⟨k, rfl, hk, .inr ⟨10, .inr rfl, (fun h => by cases h), ?_, rfl, S3.out.tail.tail⟩⟩
                  rintro m ⟨b', r', he, _, _, h5⟩ h6
                  obtain rfl := readOK_uniq HL.out h5
                  rw [HQ.out] at h6
                  exact hpf h6
              · have HNO := Lib.hid hno
                clear hno HR
                rcases hev with rfl | rfl
                · go_wp2_with fail
                  go_ret3
                  refine .inr ⟨k, rfl, hk, .inr ⟨3, .inl rfl, (fun _ => rfl), ?_, rfl, hS⟩⟩
                  rintro m ⟨b', r', he, _, _, h5⟩ _
                  exact HNO.out m h5
                · go_wp2_with fail
                  go_ret3
                  refine .inr ⟨k, rfl, hk, .inr ⟨10, .inr rfl, (fun h => by cases h), ?_, rfl, hS⟩⟩
                  rintro m ⟨b', r', he, _, _, h5⟩ _
                  exact HNO.out m h5
end Go.Proofs.Ytgmgbgjghncipaa

