/- The contract of bits.Of. -/
import Derived.Test.YtgmgbgjghncipaaLike
namespace Go.Proofs.Ytgmgbgjghncipaa
open Go.RowKit

theorem byteAt_testBit (l : List Bool) (k j : Nat) : (byteAt l k).testBit j = (decide (j < 8) && l.getD (8 * k + j) false) := by
  unfold byteAt
  rw [show (256 : Nat) = 2 ^ 8 from rfl, Nat.testBit_mod_two_pow, Nat.testBit_div_two_pow, BitsP.testBit_num, Nat.add_comm]

theorem eights_len (p : List Nat) : (p.flatMap eight).length = 8 * p.length := by
  induction p with
  | nil => rfl
  | cons x p ih => rw [List.flatMap_cons, List.length_append, ih, eight_len, List.length_cons]; omega

theorem eight_getD (x j : Nat) (hj : j < 8) : (eight x).getD j false = (x / 2 ^ j % 2 == 1) := by
  simp [eight, List.getD_eq_getElem?_getD, hj]

theorem eights_getD (p : List Nat) : ∀ i, (p.flatMap eight).getD i false = (p.getD (i / 8) 0 / 2 ^ (i % 8) % 2 == 1) := by
  induction p with
  | nil => intro i; simp
  | cons x p ih =>
    intro i
    rw [List.flatMap_cons]
    by_cases h : i < 8
    · have e : i / 8 = 0 := by omega
      have e2 : i % 8 = i := by omega
      rw [e, e2]
      have := eight_getD x i h
      rw [List.getD_eq_getElem?_getD] at this ⊢
      rw [List.getElem?_append_left (by rw [eight_len]; exact h), this]
      simp
    · have := ih (i - 8)
      have e : i / 8 = (i - 8) / 8 + 1 := by omega
      have e2 : i % 8 = (i - 8) % 8 := by omega
      rw [e, e2, List.getD_eq_getElem?_getD, List.getElem?_append_right (by rw [eight_len]; omega), eight_len, ← List.getD_eq_getElem?_getD, this]
      simp

theorem testBit_bit (x j : Nat) : x.testBit j = (x / 2 ^ j % 2 == 1) := by
  rw [Nat.testBit_eq_decide_div_mod_eq]
  rcases Nat.mod_two_eq_zero_or_one (x / 2 ^ j) with h | h <;> simp [h]

theorem eights_byte (p : List Nat) (hp : ∀ x ∈ p, x < 256) (k : Nat) : byteAt (p.flatMap eight) k = p.getD k 0 := by
  apply Nat.eq_of_testBit_eq
  intro j
  rw [byteAt_testBit, eights_getD]
  by_cases h : j < 8
  · rw [show (8 * k + j) / 8 = k from by omega, show (8 * k + j) % 8 = j from by omega, testBit_bit]
    simp [h]
  · have : p.getD k 0 < 2 ^ j := by
      have h1 : p.getD k 0 < 256 := by
        rw [List.getD_eq_getElem?_getD]
        cases hk : p[k]? with
        | none => decide
        | some x => exact hp x (List.mem_of_getElem? hk)
      exact Nat.lt_of_lt_of_le h1 (Nat.le_trans (by decide : 256 ≤ 2 ^ 8) (Nat.pow_le_pow_right (by decide) (by omega)))
    rw [Nat.testBit_lt_two_pow this]
    simp [h]

theorem bytesB_eights (p : List Nat) (hp : ∀ x ∈ p, x < 256) : bytesB (p.flatMap eight) = p := by
  apply List.ext_getElem?
  intro k
  unfold bytesB
  rw [eights_len, show (8 * p.length + 7) / 8 = p.length from by omega, List.getElem?_map]
  by_cases h : k < p.length
  · rw [List.getElem?_range h, Option.map_some, eights_byte p hp, List.getD_eq_getElem?_getD, List.getElem?_eq_getElem h]; rfl
  · rw [List.getElem?_eq_none_iff.2 (by simpa using h), List.getElem?_eq_none_iff.2 (by omega)]; rfl

/-- Are the bytes those of their first n bits? Just if no other bit is 1. -/
theorem pad_iff (p : List Nat) (hp : ∀ x ∈ p, x < 256) (n : Nat) (hn : n ≤ 8 * p.length) (h8 : 8 * p.length < n + 8) :
    bytesB (fewOf p n) = p ↔ ∀ i, n ≤ i → i < 8 * p.length → (p.flatMap eight).getD i false = false := by
  have hl : (fewOf p n).length = n := by unfold fewOf; rw [List.length_take, eights_len]; omega
  constructor
  · intro he i h1 h2
    have hk : (bytesB (fewOf p n))[i / 8]? = p[i / 8]? := by rw [he]
    unfold bytesB at hk
    rw [hl, List.getElem?_map, List.getElem?_range (by omega), Option.map_some, List.getElem?_eq_getElem (by omega)] at hk
    have hk2 : byteAt (fewOf p n) (i / 8) = byteAt (p.flatMap eight) (i / 8) := by
      rw [eights_byte p hp, List.getD_eq_getElem?_getD, List.getElem?_eq_getElem (by omega)]
      simpa using hk
    have hb := congrArg (fun x => x.testBit (i % 8)) hk2
    simp only [byteAt_testBit, show i % 8 < 8 from by omega, show 8 * (i / 8) + i % 8 = i from by omega, decide_true, Bool.true_and] at hb
    rw [← hb, List.getD_eq_getElem?_getD, List.getElem?_eq_none_iff.2 (by omega)]; rfl
  · intro h
    have e : bytesB (fewOf p n) = bytesB (p.flatMap eight) := by
      unfold bytesB
      rw [hl, eights_len, show (8 * p.length + 7) / 8 = (n + 7) / 8 from by omega]
      refine List.map_congr_left fun k hk => ?_
      apply Nat.eq_of_testBit_eq
      intro j
      rw [byteAt_testBit, byteAt_testBit]
      congr 1
      unfold fewOf
      rw [List.getD_eq_getElem?_getD, List.getElem?_take]
      by_cases hi : 8 * k + j < n
      · rw [if_pos hi, List.getD_eq_getElem?_getD]
      · rw [if_neg hi]
        by_cases h3 : 8 * k + j < 8 * p.length
        · exact (h _ (by omega) h3).symm
        · rw [List.getD_eq_getElem?_getD, List.getElem?_eq_none_iff.2 (by rw [eights_len]; omega)]
    rw [e, bytesB_eights p hp]
theorem bitsOf_range (a : Option Addr) (len cap : Nat) (n : Int) (hlen : len < 1099511627776) (hb : n < 0 ∨ 8 * (len : Int) < n ∨ 8 ≤ 8 * (len : Int) - n) (w : World) :
    Calls Try.prog 36 #[.slice a len cap, .int .i64 n] w fun e w' => e = .returned (.tuple #[.pointer none, .int .i64 1]) ∧ w = w' := by
  by_cases h0 : n < 0
  · clear hb
    go_enter Try.func36, Try.ntmps36
    go_wp2
    go_ret2
    exact ⟨rfl, rfl⟩
  · by_cases h1 : 8 * (len : Int) < n
    · clear hb
      go_enter Try.func36, Try.ntmps36
      go_wp2
      go_ret2
      exact ⟨rfl, rfl⟩
    · have h2 : 8 ≤ 8 * (len : Int) - n := by omega
      clear hb
      go_enter Try.func36, Try.ntmps36
      go_wp2
      go_ret2
      exact ⟨rfl, rfl⟩

theorem shr_bit (x j : Nat) (hx : x < 256) : bits BinOp.and IntKind.u8 ((x : Int) / 2 ^ j) 1 = (((x / 2 ^ j % 2 == 1 : Bool).toNat : Nat) : Int) := by
  have e : ((x : Int) / 2 ^ j) = ((x / 2 ^ j : Nat) : Int) := by simp
  have hle : x / 2 ^ j ≤ x := Nat.div_le_self _ _
  have h1 := u8_and_nat (x / 2 ^ j) 1 (by omega) (by decide)
  rw [nat_mask1] at h1
  rw [e]
  have h2 : bits BinOp.and IntKind.u8 ((x / 2 ^ j : Nat) : Int) 1 = ((x / 2 ^ j % 2 : Nat) : Int) := h1
  rw [h2]
  rcases Nat.mod_two_eq_zero_or_one (x / 2 ^ j) with h | h <;> simp [h]

set_option maxHeartbeats 2000000 in
theorem bitsOf_main {w0 w : World} {os : List Thing} (h : St w0 w os) (sv : Value) (p : List Nat) (hp : ∀ x ∈ p, x < 256) (n : Nat) (hn : n ≤ 8 * p.length) (h8 : 8 * p.length < n + 8) (hlen : p.length < 1099511627)
    (hv : ∀ w' o, St w0 w' (o :: os) → Reads w' sv (bytesOf p)) :
    Calls Try.prog 36 #[sv, .int .i64 n] w fun e w' =>
      (bytesB (fewOf p n) = p ∧ ∃ b v, e = .returned (.tuple #[.pointer (some ⟨b, 0, none⟩), .int .i64 0]) ∧ St w0 w' (vecT b v (fewOf p n) :: os)) ∨
      (bytesB (fewOf p n) ≠ p ∧ e = .returned (.tuple #[.pointer none, .int .i64 3]) ∧ St w0 w' os) := by
  have HPAD := Lib.hid (pad_iff p hp n hn h8)
  have S0 : Hid (St w0 w (rowT 3 (.slice none 0 0) [] :: os)) := h.newRow (Keeps.refl _ _) (World.ownsRow_nil _ _ _ _)
  obtain ⟨ao, cap, rfl, hcap, hm, _, hc0⟩ := hv w _ S0.out
  rw [bytesOf_len] at hcap hv ⊢
  have HV := Lib.hid hv
  have HP := Lib.hid hp
  have H := Lib.hid h
  have HF := Lib.hid (eights_getD p)
  have HL := Lib.hid (eights_len p)
  have HFW : Hid (fewOf p n = (p.flatMap eight).take n) := rfl
  generalize p.flatMap eight = F at HPAD HF HL HFW
  clear hm hc0 hv hp h S0
  go_enter Try.func36, Try.ntmps36
  go_wp2_with fail
  refine (bitsNew_any H.out).mono ?_
  rintro e w1 ⟨b, rfl, h1, _⟩
  have H1 := Lib.hid h1
  clear h1 H
  go_wp2_with fail
  go_loopw [30] (fun i wr => ∃ k : Nat, k ≤ 8 * p.length ∧ i = .int .i64 k ∧ (∀ j, n ≤ j → j < k → F.getD j false = false) ∧ ∃ v, St w0 wr (vecT b v (F.take (min k n)) :: os)) (fun i _ => 8 * p.length - (intOf i).toNat)
  case atStart => exact ⟨0, by omega, rfl, fun j _ h => by omega, _, by simpa using H1.out⟩
  case round =>
    obtain ⟨k, hk, rfl, hz, v, hS⟩ := hrel
    have HZ := Lib.hid hz
    clear hz H1
    by_cases hlt : k < 8 * p.length
    · have hk8 : k / 8 < p.length := by omega
      obtain ⟨ao', cap', he, _, _, _, hc⟩ := HV.out wr _ hS
      simp only [Value.slice.injEq] at he
      obtain ⟨rfl, hdrop, rfl⟩ := he
      clear hdrop
      rcases hc with hc | ⟨bb, off, rfl, hc⟩
      · have : p = [] := by simpa [bytesOf] using hc
        subst this; simp at hlt
      have cb := hc (k / 8) _ (bytesOf_get p (k / 8) hk8)
      have hx : p[k / 8] < 256 := HP.out _ (List.getElem_mem hk8)
      have hbit := HF.out k
      rw [List.getD_eq_getElem?_getD (l := p), List.getElem?_eq_getElem hk8] at hbit
      have hbit2 : F.getD k false = (p[k / 8] / 2 ^ (k % 8) % 2 == 1) := hbit
      have hsh := shr_bit p[k / 8] (k % 8) hx
      rw [← hbit2] at hsh
      generalize p[k / 8] = x at cb hx hsh
      clear hbit hbit2 hc
      have htake : k < n → F.take (min (k + 1) n) = F.take (min k n) ++ [F.getD k false] := by
        intro hkn
        rw [Nat.min_eq_left (by omega), Nat.min_eq_left (by omega), List.take_succ_eq_append_getElem (by rw [HL.out]; omega)]
        simp [List.getD_eq_getElem?_getD, show k < F.length by rw [HL.out]; omega]
      have hll : (F.take (min k n)).length < 1099511627776 := by rw [List.length_take]; omega
      have HT := Lib.hid htake
      have HGK : Hid (∀ t, F.getD k false = t → ∀ t', t' = t → F.getD k false = t') := fun t h t' h' => h.trans h'.symm
      obtain ⟨t, ht⟩ : ∃ t, F.getD k false = t := ⟨_, rfl⟩
      rw [ht] at hsh HT
      have HTT := Lib.hid ht
      have hs' := Lib.hid hS
      have hp8 : (k % 8) < 8 := Nat.mod_lt _ (by decide)
      clear hS htake HGK ht
      by_cases hkn : k < n
      · have htb : t.toNat < 2 := by cases t <;> decide
        go_wp2_with fail
        refine (vecadd_any hs'.out t hll).mono ?_
        rintro e w2 ⟨rfl, v2, h2⟩
        rw [← HT.out hkn] at h2
        have H2 := Lib.hid h2
        clear h2 hsh cb
        go_wp2
        go_roundw
        case rel => exact ⟨k + 1, by omega, by go_num, fun j hj hj2 => by omega, v2, H2.out⟩
        case measure => simp [intOf]; omega
      · have hmin : min k n = min (k + 1) n := by omega
        cases t
        · have hs2 := hs'.out
          rw [hmin] at hs2
          have HS2 := Lib.hid hs2
          have hsh0 : bits BinOp.and IntKind.u8 ((x : Int) / 2 ^ (k % 8)) 1 = 0 := hsh
          clear hs2 hs' hsh
          go_wp2
          go_roundw
          case rel => exact ⟨k + 1, by omega, by go_num, fun j hj hj2 => by
            by_cases he : j = k
            · rw [he]; exact HTT.out
            · exact HZ.out j hj (by omega), v, HS2.out⟩
          case measure => simp [intOf]; omega
        · have hsh1 : bits BinOp.and IntKind.u8 ((x : Int) / 2 ^ (k % 8)) 1 = 1 := hsh
          clear hsh
          have HNE : Hid (bytesB (fewOf p n) ≠ p) := fun he => by
            have := (HPAD.out.1 he) k (by omega) hlt
            rw [HTT.out] at this
            cases this
          go_wp2
          go_ret2
          exact .inr ⟨HNE.out, rfl, hs'.out.tail⟩
    · have hkl : k = 8 * p.length := by omega
      subst hkl
      rw [Nat.min_eq_right hn, ← HFW.out] at hS
      have HS := Lib.hid hS
      have HEQ : Hid (bytesB (fewOf p n) = p) := HPAD.out.2 HZ.out
      clear hS
      go_wp2
      go_ret2
      exact .inl ⟨HEQ.out, b, v, rfl, HS.out⟩
end Go.Proofs.Ytgmgbgjghncipaa

