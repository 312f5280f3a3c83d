/- The contracts of Vec.Add, Vec.Num, Vec.Join. -/
import Derived.Test.YtoipbbobkllddaaVecAdd
namespace Go.Proofs.Ytoipbbobkllddaa
open Go.RowKit

set_option maxRecDepth 100000 in
theorem vecadd_1 {w0 w : World} {os : List Thing} {b : Nat} {v : Value} {l : List Bool} (h : St w0 w (vecT b v l :: os)) (hn : l.length < 1099511627776) :
    Calls Try.prog 53 #[.pointer (some ⟨b, 0, none⟩), .int .u64 1] w fun e w' => e = .returned (.tuple #[]) ∧ ∃ v', St w0 w' (vecT b v' (l ++ [true]) :: os) := vecadd_any h true hn
set_option maxRecDepth 100000 in
theorem vecadd_0 {w0 w : World} {os : List Thing} {b : Nat} {v : Value} {l : List Bool} (h : St w0 w (vecT b v l :: os)) (hn : l.length < 1099511627776) :
    Calls Try.prog 53 #[.pointer (some ⟨b, 0, none⟩), .int .u64 0] w fun e w' => e = .returned (.tuple #[]) ∧ ∃ v', St w0 w' (vecT b v' (l ++ [false]) :: os) := vecadd_any h false hn

def intsOf (xs : List Int) : List Value := xs.map fun x => .int .i64 x
theorem intsOf_get (l : List Int) (j : Nat) (h : j < l.length) : (intsOf l)[j]? = some (.int .i64 l[j]) := by simp [intsOf, h]
set_option maxRecDepth 100000 in
theorem intsOf_len (l : List Int) : (intsOf l).length = l.length := by simp [intsOf]
/-- which numbers are not nought -/
def flags (xs : List Int) : List Bool := xs.map fun x => x != 0
set_option maxRecDepth 100000 in
theorem flags_len (xs : List Int) : (flags xs).length = xs.length := by simp [flags]

set_option maxRecDepth 100000 in
theorem vecAdd_nil (sv : Value) (w : World) : Calls Try.prog 27 #[.pointer none, sv] w fun e w' => e = .returned (.tuple #[]) ∧ w = w' := by
  go_enter Try.func27, Try.ntmps27
  go_wp2
  refine bodyPost_ret (v := .tuple #[]) (by simp [results, Try.results27, go_sem]) rfl ?_
  exact ⟨rfl, rfl⟩

set_option maxRecDepth 100000 in
set_option maxHeartbeats 1000000 in
theorem vecAdd_any {w0 w : World} {os : List Thing} {b : Nat} {v : Value} {l : List Bool} (h : St w0 w (vecT b v l :: os)) (sv : Value) (xs : List Int)
    (hv : ∀ w' v' l', St w0 w' (vecT b v' l' :: os) → Reads w' sv (intsOf xs)) (hn : l.length + xs.length < 1099511627776) :
    Calls Try.prog 27 #[.pointer (some ⟨b, 0, none⟩), sv] w fun e w' => e = .returned (.tuple #[]) ∧ ∃ v', St w0 w' (vecT b v' (l ++ flags xs) :: os) := by
  obtain ⟨ao, cap, rfl, hcap, hm, _, hc0⟩ := hv w v l h
  rw [intsOf_len] at hv hcap ⊢
  have HV := Lib.hid hv
  have H := Lib.hid h
  clear hv h hc0 hm
  go_enter Try.func27, Try.ntmps27
  go_wp2_with fail
  go_loopw [10] (fun i wr => ∃ k : Nat, k ≤ xs.length ∧ i = .int .i64 k ∧ ∃ v', St w0 wr (vecT b v' (l ++ flags (xs.take k)) :: os)) (fun i _ => xs.length - (intOf i).toNat)
  case atStart => exact ⟨0, by omega, rfl, v, by simpa [flags] using H.out⟩
  case round =>
    obtain ⟨k, hk, rfl, v', hS⟩ := hrel
    clear H
    by_cases hlt : k < xs.length
    · obtain ⟨ao', cap', he, _, _, _, hc⟩ := HV.out wr v' _ hS
      simp only [Value.slice.injEq] at he
      obtain ⟨rfl, hdrop, rfl⟩ := he
      clear hdrop
      rcases hc with hc | ⟨bb, off, rfl, hc⟩
      · have : xs = [] := by simpa [intsOf] using hc
        subst this; simp at hlt
      have cb := hc k _ (intsOf_get xs k hlt)
      have hfl : flags (xs.take (k + 1)) = flags (xs.take k) ++ [xs[k] != 0] := by
        rw [List.take_succ_eq_append_getElem hlt]; unfold flags; rw [List.map_append]; rfl
      have hlen : (l ++ flags (xs.take k)).length < 1099511627776 := by rw [List.length_append, flags_len, List.length_take]; omega
      generalize xs[k] = x at cb hfl
      have HF := Lib.hid hfl
      have HS := Lib.hid hS
      clear hfl hS hc
      by_cases hx : x = 0
      · subst hx
        go_wp2_with fail
        refine (vecadd_0 HS.out hlen).mono ?_
        rintro e w1 ⟨rfl, v1, S1⟩
        have S1 := Lib.hid S1
        go_wp2
        go_roundw
        case rel => exact ⟨k + 1, by omega, by go_num, v1, by rw [HF.out, ← List.append_assoc]; exact S1.out⟩
        case measure => simp [intOf]; omega
      · have hx' : (!(x == 0)) = true := by simp [hx]
        go_wp2_with fail
        refine (vecadd_1 HS.out hlen).mono ?_
        rintro e w1 ⟨rfl, v1, S1⟩
        have S1 := Lib.hid S1
        have hx2 : (x != 0) = true := hx'
        clear hx'
        have HX := Lib.hid hx2
        clear hx2
        go_wp2
        go_roundw
        case rel => exact ⟨k + 1, by omega, by go_num, v1, by rw [HF.out, HX.out, ← List.append_assoc]; exact S1.out⟩
        case measure => simp [intOf]; omega
    · have hkl : k = xs.length := by omega
      subst hkl
      have HS := Lib.hid hS
      clear hS
      go_wp2
      go_end0
      exact ⟨rfl, v', by simpa using HS.out⟩

/-- a number's lowest bits -/
def numBits (x n : Nat) : List Bool := (List.range n).map fun i => x.testBit i
theorem numBits_len (x n : Nat) : (numBits x n).length = n := by simp [numBits]
theorem numBits_succ (x n : Nat) : numBits x (n + 1) = numBits x n ++ [x.testBit n] := by simp [numBits, List.range_succ]
/-- none to 64 -/
def clamp (k : Int) : Nat := if k < 0 then 0 else if k > 64 then 64 else k.toNat
theorem clamp_le (k : Int) : clamp k ≤ 64 := by unfold clamp; split; omega; split <;> omega

theorem bit_u64 (x i : Nat) (hx : x < 18446744073709551616) : bits BinOp.and IntKind.u64 ((x : Int) / 2 ^ i) 1 = (((x.testBit i).toNat : Nat) : Int) := by
  have e : ((x : Int) / 2 ^ i) = ((x / 2 ^ i : Nat) : Int) := by simp
  have hle : x / 2 ^ i ≤ x := Nat.div_le_self _ _
  have h1 := u64_and_nat (x / 2 ^ i) 1 (by omega) (by decide)
  rw [nat_mask1] at h1
  rw [e]
  have h2 : bits BinOp.and IntKind.u64 ((x / 2 ^ i : Nat) : Int) 1 = ((x / 2 ^ i % 2 : Nat) : Int) := h1
  rw [h2, Nat.testBit_eq_decide_div_mod_eq]
  rcases Nat.mod_two_eq_zero_or_one (x / 2 ^ i) with h | h <;> simp [h]

theorem run_max2 {P : Program} (ts : Array TypeId) (t : TypeId) (a b : Int) (w : World) : (Builtin.max_ ts t #[.int .i64 a, .int .i64 b]).run P w = .ok (.int .i64 (if b > a then b else a)) w := by
  simp [Builtin.max_, Builtin.max2]
theorem run_min2 {P : Program} (ts : Array TypeId) (t : TypeId) (a b : Int) (w : World) : (Builtin.min_ ts t #[.int .i64 a, .int .i64 b]).run P w = .ok (.int .i64 (if b < a then b else a)) w := by
  simp [Builtin.min_, Builtin.min2]

/-- 'min(max(k, 0), 64)' -/
theorem run_clamp {P : Program} (k : Int) : ∃ m : Int, (∀ ts t w, (Builtin.max_ ts t #[.int .i64 k, .int .i64 0]).run P w = .ok (.int .i64 m) w) ∧ (∀ ts t w, (Builtin.min_ ts t #[.int .i64 m, .int .i64 64]).run P w = .ok (.int .i64 (clamp k : Nat)) w) := by
  refine ⟨if (0 : Int) > k then 0 else k, fun ts t w => run_max2 ts t k 0 w, fun ts t w => ?_⟩
  rw [run_min2]
  have : (if (64 : Int) < (if (0 : Int) > k then 0 else k) then 64 else (if (0 : Int) > k then 0 else k)) = ((clamp k : Nat) : Int) := by
    unfold clamp
    by_cases h1 : k < 0
    · rw [if_pos (show (0 : Int) > k from h1), if_pos h1, if_neg (by omega)]; rfl
    · rw [if_neg (show ¬ (0 : Int) > k from h1), if_neg h1]
      by_cases h2 : (64 : Int) < k
      · rw [if_pos h2, if_pos h2]; rfl
      · rw [if_neg h2, if_neg h2]; omega
  rw [this]

set_option maxRecDepth 100000 in
theorem vecNum_nil (x k : Value) (w : World) : Calls Try.prog 43 #[.pointer none, x, k] w fun e w' => e = .returned (.tuple #[]) ∧ w = w' := by
  go_enter Try.func43, Try.ntmps43
  go_wp2
  refine bodyPost_ret (v := .tuple #[]) (by simp [results, Try.results43, go_sem]) rfl ?_
  exact ⟨rfl, rfl⟩

set_option maxRecDepth 100000 in
set_option maxHeartbeats 1000000 in
theorem vecNum_any {w0 w : World} {os : List Thing} {b : Nat} {v : Value} {l : List Bool} (h : St w0 w (vecT b v l :: os)) (x : Nat) (k : Int) (hx : x < 18446744073709551616) (hn : l.length < 1099511627000) :
    Calls Try.prog 43 #[.pointer (some ⟨b, 0, none⟩), .int .u64 x, .int .i64 k] w fun e w' => e = .returned (.tuple #[]) ∧ ∃ v', St w0 w' (vecT b v' (l ++ numBits x (clamp k)) :: os) := by
  obtain ⟨m, hmax, hmin⟩ := run_clamp (P := Try.prog) k
  have hc := clamp_le k
  generalize clamp k = n at hmin hc ⊢
  have hmax' := hmax #[3, 3] 3
  have hmin' := hmin #[3, 3] 3
  have H := Lib.hid h
  clear hmax hmin h
  go_enter Try.func43, Try.ntmps43
  go_wp2_with fail
  clear hmax' hmin'
  go_loopw [12] (fun i wr => ∃ j : Nat, j ≤ n ∧ i = .int .i64 j ∧ ∃ v', St w0 wr (vecT b v' (l ++ numBits x j) :: os)) (fun i _ => n - (intOf i).toNat)
  case atStart => exact ⟨0, by omega, rfl, v, by simpa [numBits] using H.out⟩
  case round =>
    obtain ⟨j, hj, rfl, v', hS⟩ := hrel
    clear H
    by_cases hlt : j < n
    · have hlen : (l ++ numBits x j).length < 1099511627776 := by rw [List.length_append, numBits_len]; omega
      have hb := bit_u64 x j hx
      have hs := numBits_succ x j
      have HF := Lib.hid hs
      have HS := Lib.hid hS
      clear hs hS
      go_wp2_with fail
      clear hb
      refine (vecadd_any HS.out (x.testBit j) hlen).mono ?_
      rintro e w1 ⟨rfl, v1, S1⟩
      have S1 := Lib.hid S1
      go_wp2
      go_roundw
      case rel => exact ⟨j + 1, by omega, by go_num, v1, by rw [HF.out, ← List.append_assoc]; exact S1.out⟩
      case measure => simp [intOf]; omega
    · have hjn : j = n := by omega
      subst hjn
      have HS := Lib.hid hS
      clear hS
      go_wp2
      go_end0
      exact ⟨rfl, v', HS.out⟩

end Go.Proofs.Ytoipbbobkllddaa

