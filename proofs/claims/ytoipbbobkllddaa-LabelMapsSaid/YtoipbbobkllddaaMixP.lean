/- Plain: names that keep mates are written and read again; the document's mixed names. -/
import Derived.Test.YtoipbbobkllddaaReadsP
import Derived.Test.YtoipbbobkllddaaLabelDec
import Derived.Test.YtoipbbobkllddaaInvP
namespace Go.Proofs.Ytoipbbobkllddaa

theorem num_numBits (x w : Nat) (h : x < 2 ^ w) : BitsP.num (numBits x w) = x := by
  apply Nat.eq_of_testBit_eq
  intro i
  rw [BitsP.testBit_num, List.getD_eq_getElem?_getD]
  by_cases hi : i < w
  · rw [List.getElem?_eq_getElem (by rw [numBits_len]; exact hi)]; simp [numBits]
  · rw [List.getElem?_eq_none (by rw [numBits_len]; omega)]
    have : x < 2 ^ i := Nat.lt_of_lt_of_le h (Nat.pow_le_pow_right (by decide) (by omega))
    rw [Nat.testBit_lt_two_pow this]; rfl

theorem labelB_length (xs : List Int) (n : Nat) : ∀ e, (labelB xs n e).length = e * (widthN n + 1)
  | 0 => by simp [labelB]
  | e + 1 => by unfold labelB; rw [List.length_append, List.length_append, numBits_len, labelB_length xs n e, Nat.add_mul e 1, List.length_singleton]; omega

theorem labelB_pre (xs : List Int) (n e : Nat) : ∀ d, ∃ R, labelB xs n (e + d) = labelB xs n e ++ R
  | 0 => ⟨[], by simp⟩
  | d + 1 => by
    obtain ⟨R, h⟩ := labelB_pre xs n e d
    refine ⟨R ++ numBits (xs.getD (2 * (e + d)) 0 / 2).toNat (widthN n) ++ [xs.getD (2 * (e + d)) 0 % 2 != 0], ?_⟩
    rw [show e + (d + 1) = (e + d) + 1 by omega]
    show labelB xs n (e + d) ++ _ ++ _ = _
    rw [h]; simp [List.append_assoc]

theorem dAt_labelB (xs : List Int) (n e : Nat) (he : e < n) (h0 : 0 ≤ xs.getD (2 * e) 0) (h1 : xs.getD (2 * e) 0 < 2 * (n : Int)) (hn : n ≤ 65536) : (dAt (labelB xs n n) (widthN n) e : Int) = xs.getD (2 * e) 0 := by
  obtain ⟨R, hR⟩ := labelB_pre xs n (e + 1) (n - (e + 1))
  rw [show e + 1 + (n - (e + 1)) = n by omega] at hR
  have hle : n ≤ 2 ^ widthN n := by
    apply Classical.byContradiction
    intro h
    have := ((width_least n (by omega) (widthN n)).1).1 (by omega)
    omega
  have hlen := labelB_length xs n e
  obtain ⟨x, hx⟩ : ∃ x : Nat, xs.getD (2 * e) 0 = x := ⟨(xs.getD (2 * e) 0).toNat, by omega⟩
  have hs : labelB xs n n = labelB xs n e ++ (numBits (x / 2) (widthN n) ++ ([decide (x % 2 = 1)] ++ R)) := by
    rw [hR]
    show labelB xs n e ++ _ ++ _ ++ _ = _
    rw [hx, show ((x : Int) / 2).toNat = x / 2 by omega, show (((x : Int) % 2) != 0) = decide (x % 2 = 1) by
      by_cases h : x % 2 = 1
      · rw [decide_eq_true h]; exact bne_iff_ne.2 (by omega)
      · rw [decide_eq_false h]; exact bne_eq_false_iff_eq.2 (by omega)]
    simp [List.append_assoc]
  obtain ⟨w, hw⟩ : ∃ w, widthN n = w := ⟨_, rfl⟩
  rw [hw] at hlen hs hle ⊢
  have e1 : ((labelB xs n n).drop (e * (w + 1))).take w = numBits (x / 2) w := by
    rw [hs, ← hlen, List.drop_left', List.take_left' (numBits_len _ _)]; rfl
  have e2 : (labelB xs n n).getD (e * (w + 1) + w) false = decide (x % 2 = 1) := by
    rw [hs, ← hlen, List.getD_eq_getElem?_getD, List.getElem?_append_right (by omega), Nat.add_sub_cancel_left, List.getElem?_append_right (by rw [numBits_len]; omega), numBits_len, Nat.sub_self]; rfl
  unfold dAt
  rw [e1, e2, num_numBits _ _ (by omega), hx]
  by_cases h : x % 2 = 1
  · rw [decide_eq_true h]; show ((2 * (x / 2) + 1 : Nat) : Int) = _; omega
  · rw [decide_eq_false h]; show ((2 * (x / 2) + 0 : Nat) : Int) = _; omega

theorem getD_perm {xs : List Int} (hp : IsPerm xs) {d : Nat} (hd : d < xs.length) : xs.getD d 0 = (toN xs d : Int) ∧ toN xs d < xs.length := by
  obtain ⟨h1, h2⟩ := toN_lt hp hd
  exact ⟨by rw [List.getD_eq_getElem?_getD, h2]; rfl, h1⟩

/-- written and read again -/
theorem decL_labelB {xs : List Int} {n : Nat} (hm : Mates xs) (hl : xs.length = 2 * n) (hn : n ≤ 65536) : decL (labelB xs n n) (widthN n) n = xs := by
  have hmt := (mates_iff xs hm.1 hm.2.1).1 hm
  have hk : ∀ k, k ≤ n → decL (labelB xs n n) (widthN n) k = xs.take (2 * k) := by
    intro k
    induction k with
    | zero => intro _; rfl
    | succ k ih =>
      intro hk
      have g1 := getD_perm hm.1 (d := 2 * k) (by omega)
      have hd := dAt_labelB xs n k (by omega) (by rw [g1.1]; omega) (by rw [g1.1]; omega) hn
      have hm2 := hmt k (by omega)
      unfold decL
      rw [ih (by omega), hd, ← hm2, show 2 * (k + 1) = 2 * k + 1 + 1 by omega, List.take_succ_eq_append_getElem (by omega), List.take_succ_eq_append_getElem (by omega), List.append_assoc]
      congr 1
      simp [List.getD_eq_getElem?_getD, List.getElem?_eq_getElem (show 2 * k < xs.length by omega), List.getElem?_eq_getElem (show 2 * k + 1 < xs.length by omega)]
  have := hk n (Nat.le_refl _)
  rw [← hl, List.take_length] at this
  exact this

/-- the other end -/
def mateN (d : Nat) : Nat := if d % 2 = 0 then d + 1 else d - 1
theorem mateI_nat (d : Nat) : mateI (d : Int) = (mateN d : Int) := by
  unfold mateI mateN
  by_cases h : d % 2 = 0
  · rw [if_pos h, if_pos (by omega)]; omega
  · rw [if_neg h, if_neg (by omega)]; omega
theorem mateN_lt {d n : Nat} (h2 : n % 2 = 0) (h : d < n) : mateN d < n := by unfold mateN; split <;> omega
theorem mateN_mateN (d : Nat) : mateN (mateN d) = d := by unfold mateN; split <;> split <;> omega
theorem mates_toN {xs : List Int} (hp : IsPerm xs) (h2 : xs.length % 2 = 0) : Mates xs ↔ ∀ d, d < xs.length → toN xs (mateN d) = mateN (toN xs d) := by
  constructor
  · rintro ⟨_, _, h⟩ d hd
    have h1 := h d hd
    have hm := mateN_lt h2 hd
    rw [mateI_nat, Int.toNat_natCast, (getD_perm hp hm).1, (getD_perm hp hd).1, mateI_nat] at h1
    omega
  · intro h
    refine ⟨hp, h2, fun d hd => ?_⟩
    have hm := mateN_lt h2 hd
    rw [mateI_nat, Int.toNat_natCast, (getD_perm hp hm).1, (getD_perm hp hd).1, mateI_nat, h d hd]

theorem inv_mates {xs : List Int} (hm : Mates xs) : Mates (invL xs) := by
  have h := (mates_toN hm.1 hm.2.1).1 hm
  refine (mates_toN (invL_perm hm.1) (by rw [invL_len]; exact hm.2.1)).2 fun y hy => ?_
  rw [invL_len] at hy
  rw [invL_toN (mateN_lt hm.2.1 hy), invL_toN hy]
  have hb := backN_lt hm.1 hy
  have h1 := h _ hb
  rw [toN_back hm.1 hy] at h1
  have h2 := back_toN hm.1 (mateN_lt hm.2.1 hb)
  rw [h1] at h2
  exact h2

/-- the document's mix: edges by other names, some turned -/
def mixA (es : List Int) (fl : Nat → Bool) (e : Nat) : Nat := 2 * toN es e + (fl e).toNat
def mixF (es : List Int) (fl : Nat → Bool) (d : Nat) : Nat := if d % 2 = 0 then mixA es fl (d / 2) else mateN (mixA es fl (d / 2))
def mixL (es : List Int) (fl : Nat → Bool) : List Int := mapL (2 * es.length) (mixF es fl)
theorem mixF_half (es : List Int) (fl : Nat → Bool) (d : Nat) : mixF es fl d / 2 = toN es (d / 2) := by
  have hb : (fl (d / 2)).toNat ≤ 1 := by cases fl (d / 2) <;> decide
  unfold mixF mixA mateN
  split
  · omega
  · split <;> omega
theorem mixL_len (es : List Int) (fl : Nat → Bool) : (mixL es fl).length = 2 * es.length := mapL_len _ _
theorem mixF_lt {es : List Int} (hp : IsPerm es) (fl : Nat → Bool) {d : Nat} (hd : d < 2 * es.length) : mixF es fl d < 2 * es.length := by
  have h1 := mixF_half es fl d
  have h2 := (toN_lt hp (show d / 2 < es.length by omega)).1
  omega
theorem mixF_mate (es : List Int) (fl : Nat → Bool) (d : Nat) : mixF es fl (mateN d) = mateN (mixF es fl d) := by
  by_cases h : d % 2 = 0
  · have e1 : mateN d = d + 1 := by unfold mateN; rw [if_pos h]
    rw [e1]
    unfold mixF
    rw [if_neg (by omega), if_pos h, show (d + 1) / 2 = d / 2 by omega]
  · have e1 : mateN d = d - 1 := by unfold mateN; rw [if_neg h]
    rw [e1]
    unfold mixF
    rw [if_pos (by omega), if_neg h, show (d - 1) / 2 = d / 2 by omega, mateN_mateN]
theorem mixL_perm {es : List Int} (hp : IsPerm es) (fl : Nat → Bool) : IsPerm (mixL es fl) := by
  refine mapL_perm (fun d hd => mixF_lt hp fl hd) fun i j hi hj he => ?_
  have h1 := mixF_half es fl i
  have h2 := mixF_half es fl j
  rw [he, h2] at h1
  have h3 := toN_inj hp (show j / 2 < es.length by omega) (show i / 2 < es.length by omega) h1
  apply Classical.byContradiction
  intro hne
  have h4 : mateN i = j := by unfold mateN; split <;> omega
  have h5 := mixF_mate es fl i
  rw [h4, he] at h5
  unfold mateN at h5
  split at h5 <;> omega
theorem mixL_mates {es : List Int} (hp : IsPerm es) (fl : Nat → Bool) : Mates (mixL es fl) := by
  refine (mates_toN (mixL_perm hp fl) (by rw [mixL_len]; omega)).2 fun d hd => ?_
  rw [mixL_len] at hd
  unfold mixL
  rw [mapL_toN _ (mateN_lt (by omega) hd), mapL_toN _ hd, mixF_mate]
theorem mix_snoc (es : List Int) (fl : Nat → Bool) (e : Nat) : intsOf (mapL (2 * e) (mixF es fl)) ++ [Value.int .i64 (mixA es fl e : Nat), Value.int .i64 (mateN (mixA es fl e) : Nat)] = intsOf (mapL (2 * (e + 1)) (mixF es fl)) := by
  have h1 : mixF es fl (2 * e) = mixA es fl e := by unfold mixF; rw [if_pos (by omega), show 2 * e / 2 = e by omega]
  have h2 : mixF es fl (2 * e + 1) = mateN (mixA es fl e) := by unfold mixF; rw [if_neg (by omega), show (2 * e + 1) / 2 = e by omega]
  rw [← h2, ← h1, show 2 * (e + 1) = 2 * e + 1 + 1 by omega]
  simp [mapL, intsOf, List.range_succ, List.append_assoc]
end Go.Proofs.Ytoipbbobkllddaa

