/- The walk of CrcSums. -/
import Derived.Test.YtgpdkobefnhfiaaAwake
import Derived.WalkLawsBesides
import Derived.Deep.OwnRows
namespace Go.Proofs.Ytgpdkobefnhfiaa
open Go.RowKit

theorem info5 : (Try.prog.info? 5).map (fun i => (i.zero, i.size, i.bytes)) = some (some (.int .u8 0), 1, 1) := by kernel_rfl

theorem run_min4 {P : Program} (ts : Array TypeId) (t : TypeId) (a b c d : Nat) (w : World) :
    (Builtin.min_ ts t #[.int .i64 a, .int .i64 b, .int .i64 c, .int .i64 d]).run P w = .ok (.int .i64 ((min (min (min a b) c) d : Nat) : Int)) w := by
  simp [Builtin.min_, Builtin.min2]
  omega

def xorAt (p q r : List Nat) (j : Nat) : Nat := p.getD j 0 ^^^ q.getD j 0 ^^^ r.getD j 0

theorem read_at {w : World} {a : Option Addr} {len cap : Nat} {l : List Nat} (h : Reads w (.slice a len cap) (bytesOf l)) (k : Nat) (hk : k < l.length) :
    ∃ b off, a = some ⟨b, off, none⟩ ∧ ∀ w', Below w.heap.size w w' → ∀ j, j < l.length → w'.cell? ⟨b, off + j, none⟩ = some (.int .u8 ((l.getD j 0 : Nat) : Int)) := by
  have h' := h
  obtain ⟨ao, c, he, hl, hm, hc⟩ := h
  simp only [Value.slice.injEq] at he
  obtain ⟨rfl, rfl, rfl⟩ := he
  rcases hc with hc | ⟨b, off, rfl, hc⟩
  · have : l = [] := by simpa [bytesOf] using hc
    subst this; simp at hk
  · refine ⟨b, off, rfl, fun w' hb j hj => ?_⟩
    have h1 := hc j _ (bytesOf_get l j hj)
    rw [hb.cell (p := ⟨b, off + j, none⟩) (World.block_lt_of_cell? w _ h1), h1]
    simp [List.getD_eq_getElem?_getD, hj]

theorem getD_lt {l : List Nat} (h : ∀ x ∈ l, x < 256) (k : Nat) : l[k]?.getD 0 < 256 := by
  cases hk : l[k]? with
  | none => simp
  | some x => exact h x (List.mem_of_getElem? hk)

theorem xorAt_lt {l0 l1 l2 : List Nat} (b0 : ∀ x ∈ l0, x < 256) (b1 : ∀ x ∈ l1, x < 256) (b2 : ∀ x ∈ l2, x < 256) (k : Nat) : xorAt l0 l1 l2 k < 256 := by
  simp only [xorAt, List.getD_eq_getElem?_getD]
  exact Nat.xor_lt_two_pow (n := 8) (Nat.xor_lt_two_pow (n := 8) (getD_lt b0 k) (getD_lt b1 k)) (getD_lt b2 k)

theorem bytesOf_take (l : List Nat) (k : Nat) : (bytesOf l).take k = bytesOf (l.take k) := by simp [bytesOf]

theorem Reads.len_le {w : World} {a : Option Addr} {len cap : Nat} {xs : List Value} (h : Reads w (.slice a len cap) xs) : len ≤ cap := by
  obtain ⟨ao, c, he, hl, hm, hc⟩ := h
  simp only [Value.slice.injEq] at he
  omega

theorem Reads.take {w : World} {a : Option Addr} {len cap : Nat} {xs : List Value} (h : Reads w (.slice a len cap) xs) (k : Nat) (hk : k ≤ len) : Reads w (.slice a k cap) (xs.take k) := by
  obtain ⟨ao, c, he, hl, hm, hc⟩ := h
  simp only [Value.slice.injEq] at he
  obtain ⟨rfl, rfl, rfl⟩ := he
  refine ⟨a, cap, by simp; omega, by simp; omega, hm, ?_⟩
  rcases hc with hc | ⟨b, off, rfl, hc⟩
  · left; simp [hc]
  · refine .inr ⟨b, off, rfl, fun j u hu => hc j u ?_⟩
    rw [List.getElem?_take] at hu
    split at hu
    · exact hu
    · cases hu

theorem Reads.of_rowIs {w : World} {b : Nat} {E : TypeId} {n : Nat} {f : Nat → Value} (h : w.rowIs b E n f) (hm : n ≤ maxLen) : Reads w (.slice (some ⟨b, 0, none⟩) n n) ((List.range n).map f) := by
  refine ⟨_, n, by simp, by simp, hm, .inr ⟨b, 0, rfl, fun j u hu => ?_⟩⟩
  simp only [List.getElem?_map, Option.map_eq_some_iff] at hu
  obtain ⟨i, hi, rfl⟩ := hu
  have hj : j < n := by
    have := (List.getElem?_eq_some_iff.1 hi).1
    simpa using this
  have : i = j := by rw [List.getElem?_range hj] at hi; simpa using hi.symm
  subst this
  rw [Nat.zero_add]
  exact h.cell hj

theorem range_take (l : List Nat) (k : Nat) (h : k ≤ l.length) : (List.range k).map (fun j => l.getD j 0) = l.take k := by
  apply List.ext_getElem
  · simp; omega
  · intro i h1 h2
    simp at h1
    simp [List.getD_eq_getElem?_getD, show i < l.length from by omega]

theorem of_xorAt (l0 l1 l2 : List Nat) (k : Nat) (h0 : k ≤ l0.length) (h1 : k ≤ l1.length) (h2 : k ≤ l2.length) :
    CrcP.of ((List.range k).map (xorAt l0 l1 l2)) = CrcP.of (l0.take k) ^^^ CrcP.of (l1.take k) ^^^ CrcP.of (l2.take k) := by
  have := CrcP.of_xor3 ((List.range k).map fun j => (l0.getD j 0, l1.getD j 0, l2.getD j 0))
  simp only [List.map_map] at this
  rw [← range_take l0 k h0, ← range_take l1 k h1, ← range_take l2 k h2]
  exact this

theorem ret_bool {b c : Bool} (h : b = c) : Ending.returned (.bool b) = .returned (.bool c) := by rw [h]

set_option maxHeartbeats 1000000 in
theorem crcSums_walk (a0 : Option Addr) (len0 cap0 : Nat) (z0 : List Int) (a1 : Option Addr) (len1 cap1 : Nat) (z1 : List Int) (a2 : Option Addr) (len2 cap2 : Nat) (z2 : List Int) (w : World) (w0 : IsRow .u8 w a0 len0 cap0 z0) (w1 : IsRow .u8 w a1 len1 cap1 z1) (w2 : IsRow .u8 w a2 len2 cap2 z2) :
    Calls Try.prog 3 #[.slice a0 len0 cap0, .slice a1 len1 cap1, .slice a2 len2 cap2] w fun e w' => e = .returned (.bool true) ∧ Below w.heap.size w w' := by
  obtain ⟨l0, e0, b0, R0, m0⟩ := w0.bytes
  obtain ⟨l1, e1, b1, R1, m1⟩ := w1.bytes
  obtain ⟨l2, e2, b2, R2, m2⟩ := w2.bytes
  unfold maxLen at m0 m1 m2
  clear w0 w1 w2
  have p0 := R0.len_le
  have p1 := R1.len_le
  have p2 := R2.len_le
  obtain ⟨n, hn, n0, n1, n2, n3⟩ : ∃ n, n = min (min (min len0 len1) len2) 60 ∧ n ≤ len0 ∧ n ≤ len1 ∧ n ≤ len2 ∧ n ≤ 60 := ⟨_, rfl, by omega, by omega, by omega, by omega⟩
  have hmin : ∀ w, (Builtin.min_ #[3, 3, 3, 3] 3 #[.int .i64 len0, .int .i64 len1, .int .i64 len2, .int .i64 60]).run Try.prog w = .ok (.int .i64 n) w := fun w => by
    have := run_min4 (P := Try.prog) #[3, 3, 3, 3] 3 len0 len1 len2 60 w
    rw [← hn] at this
    exact this
  clear hn
  have E0 := Lib.hid e0
  have E1 := Lib.hid e1
  have E2 := Lib.hid e2
  clear e0 e1 e2
  go_enter Try.func3, Try.ntmps3
  go_wp2_with fail
  refine (awake_any w).mono ?_
  rintro e w1 ⟨rfl, hb1⟩
  have hmk := run_make_row' (P := Try.prog) 22 5 (.int .u8 0) 1 Try.underlying22 info5 rfl .i64 .i64 n (by omega) (by omega)
  go_wp2_with fail
  go_loopw [9, 23] (fun x i wr => ∃ k : Nat, k ≤ n ∧ i = .int .i64 k ∧ wr.rowIs w1.heap.size 5 n (fun j => .int .u8 ((if j < k then xorAt l0 l1 l2 j else 0 : Nat) : Int)) ∧ Below w.heap.size w wr) (fun _ i _ => n - (intOf i).toNat)
  case atStart => exact ⟨0, by omega, rfl, (World.rowIs_made w1 (.int .u8 0) n 5).congr (fun j hj => by simp), hb1.alloc hb1.size _⟩
  case round =>
    obtain ⟨k, hk, rfl, hrow, hbel⟩ := hrel
    by_cases hlt : k < n
    · obtain ⟨c0, o0, rfl, r0⟩ := read_at R0 k (by rw [E0.out]; omega)
      obtain ⟨c1, o1, rfl, r1⟩ := read_at R1 k (by rw [E1.out]; omega)
      obtain ⟨c2, o2, rfl, r2⟩ := read_at R2 k (by rw [E2.out]; omega)
      have g0 := r0 wr hbel k (by rw [E0.out]; omega)
      have g1 := r1 wr hbel k (by rw [E1.out]; omega)
      have g2 := r2 wr hbel k (by rw [E2.out]; omega)
      have gx := hrow.cell hlt
      have fx := hrow.frozen k
      clear r0 r1 r2
      go_wp2
      go_region
      go_wp2
      go_roundw
      case rel =>
        have hx : bits BinOp.xor IntKind.u8 (bits BinOp.xor IntKind.u8 ((l0[k]?.getD 0 : Nat) : Int) ((l1[k]?.getD 0 : Nat) : Int)) ((l2[k]?.getD 0 : Nat) : Int) = ((xorAt l0 l1 l2 k : Nat) : Int) := by
          have y0 : l0[k]?.getD 0 < 256 := getD_lt b0 k
          have y1 : l1[k]?.getD 0 < 256 := getD_lt b1 k
          have y2 : l2[k]?.getD 0 < 256 := getD_lt b2 k
          rw [u8_xor_nat _ _ y0 y1, u8_xor_nat _ _ (Nat.xor_lt_two_pow (n := 8) y0 y1) y2]
          simp [xorAt, List.getD_eq_getElem?_getD]
        refine ⟨k + 1, by omega, by go_num, ?_, (hbel.setCell (by have := hb1.size; exact this) _).drew⟩
        rw [hx]
        refine ((hrow.set k _).drew).congr fun j hj => ?_
        by_cases hjk : j = k
        · subst hjk; simp
        · have e : (j < k + 1) = (j < k) := by apply propext; omega
          simp [hjk, e]
      case measure => simp [intOf]; omega
    · have hkn : k = n := by omega
      subst hkn
      have RX : Reads wr (.slice (some ⟨w1.heap.size, 0, none⟩) k k) (bytesOf ((List.range k).map (xorAt l0 l1 l2))) := by
        have := Reads.of_rowIs hrow (by unfold maxLen; omega)
        have e : (List.range k).map (fun j => Value.int .u8 ((if j < k then xorAt l0 l1 l2 j else 0 : Nat) : Int)) = bytesOf ((List.range k).map (xorAt l0 l1 l2)) := by
          simp only [bytesOf, List.map_map]
          refine List.map_congr_left fun j hj => ?_
          simp [List.mem_range.1 hj]
        rwa [e] at this
      have KX : ∀ w', Cls wr w' → Calls Try.prog 8 #[.slice (some ⟨w1.heap.size, 0, none⟩) k k] w' fun e w'' => e = .returned (.int .u32 (CrcP.of ((List.range k).map (xorAt l0 l1 l2)) : Nat)) ∧ Cls wr w'' := fun w' hC =>
        Calls.cls hC (crcOf_any _ _ _ (RX.below hC.below) (by
          intro x hx
          obtain ⟨j, _, rfl⟩ := List.mem_map.1 hx
          exact xorAt_lt b0 b1 b2 j) (by simp; omega))
      have KP : ∀ (a : Option Addr) (len cap : Nat) (l : List Nat), l.length = len → (∀ x ∈ l, x < 256) → Reads w (.slice a len cap) (bytesOf l) → k ≤ len → ∀ w', Cls wr w' → Calls Try.prog 8 #[.slice a k cap] w' fun e w'' => e = .returned (.int .u32 (CrcP.of (l.take k) : Nat)) ∧ Cls wr w'' := fun a len cap l e b R h w' hC =>
        Calls.cls hC (crcOf_any _ _ _ (by
          have := (((R.take k h).below hbel).below hC.below)
          rwa [bytesOf_take] at this) (fun x hx => b x (List.mem_of_mem_take hx)) (by simp; omega))
      have K0 := Lib.hid (KP a0 len0 cap0 l0 E0.out b0 R0 n0)
      have K1 := Lib.hid (KP a1 len1 cap1 l1 E1.out b1 R1 n1)
      have K2 := Lib.hid (KP a2 len2 cap2 l2 E2.out b2 R2 n2)
      have K3 := Lib.hid KX
      have p0' : k ≤ cap0 := by omega
      have p1' : k ≤ cap1 := by omega
      have p2' : k ≤ cap2 := by omega
      clear KP KX
      go_wp2
      refine wp_region_cls (by kernel_rfl) (by kernel_rfl) ?_
      repeat (go_big_quiet_step ((intro hC; with_reducible (first | rfl | exact K3.out _ hC | exact K0.out _ hC | exact K1.out _ hC | exact K2.out _ hC))))
      refine wpQuiet_nil ?_
      intro w' hC
      go_wp2
      go_ret
      refine ⟨ret_bool ?_, hbel.trans (hC.below.mono hbel.size)⟩
      have x0 : CrcP.of (l0.take k) < 4294967296 := CrcP.of_lt fun x hx => b0 x (List.mem_of_mem_take hx)
      have x1 : CrcP.of (l1.take k) < 4294967296 := CrcP.of_lt fun x hx => b1 x (List.mem_of_mem_take hx)
      have x2 : CrcP.of (l2.take k) < 4294967296 := CrcP.of_lt fun x hx => b2 x (List.mem_of_mem_take hx)
      rw [u32_xor_nat _ _ x0 x1, u32_xor_nat _ _ (Nat.xor_lt_two_pow (n := 32) x0 x1) x2, of_xorAt l0 l1 l2 k (by rw [E0.out]; exact n0) (by rw [E1.out]; exact n1) (by rw [E2.out]; exact n2)]
      exact beq_self_eq_true _
end Go.Proofs.Ytgpdkobefnhfiaa
