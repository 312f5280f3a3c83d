/- The contracts of bits.Read, Reader.Left, Reader.Num. -/
import Derived.Test.YtoipbbobkllddaaCloneMore
import Derived.Deep.RegionHeld3
namespace Go.Proofs.Ytoipbbobkllddaa
open Go.RowKit

def readerObj (c n at' : Nat) : Obj := .cells #[.pointer (some ⟨c, 0, none⟩), .int .i64 n, .int .i64 at'] 111 (0, 0)

set_option maxRecDepth 100000 in
theorem oneCell_words (l : List Bool) : ∀ u ∈ words l, u.oneCell' = true := by
  intro u hu
  obtain ⟨x, _, rfl⟩ := List.mem_map.1 hu
  rfl

set_option maxRecDepth 100000 in
theorem read_nil (w : World) : Calls Try.prog 44 #[.pointer none] w fun e w' => e = .returned (.pointer none) ∧ w = w' := by
  go_enter Try.func44, Try.ntmps44
  go_wp2
  go_ret
  exact ⟨rfl, rfl⟩

set_option maxRecDepth 100000 in
set_option maxHeartbeats 1000000 in
theorem read_any {w0 w : World} {os : List Thing} {b : Nat} {v : Value} {l : List Bool} (h : St w0 w os) (hm : vecT b v l ∈ os) (hn : l.length < 1099511627776) :
    Calls Try.prog 44 #[.pointer (some ⟨b, 0, none⟩)] w fun e w' => ∃ r c v', e = .returned (.pointer (some ⟨r, 0, none⟩)) ∧ St w0 w' (cellT r (readerObj c l.length 0) :: vecT c v' l :: os) := by
  obtain ⟨h1, h2⟩ := h.ok hm
  have hwl := words_length l
  have hcl := Lib.hid (fun (w' : World) (hr : Reads w' v (words l)) => (cloneWords_any v (words l) w' hr (oneCell_words l) (by omega)).mono (R' := fun e w'' => ∃ a' c', e = .returned (.slice a' (words l).length c') ∧ w''.ownsRow w'.heap.size 83 1 (.slice a' (words l).length c') (words l).length (words l) ∧ Keeps [] w' w'') (fun e w'' ⟨v', he, ho, hk⟩ => by
    obtain ⟨a', c', rfl, _, _⟩ := ownsRow_slice ho
    exact ⟨a', c', he, ho, hk⟩))
  obtain ⟨a, cap, rfl, _, _⟩ := ownsRow_slice h2
  have hR := Lib.hid (Reads.of_owns h2)
  have c0 : w.cell? ⟨b, 0, none⟩ = some (.slice a (words l).length cap) := by simp [World.cell?, h1, vecObj]
  have c1 : w.cell? ⟨b, 1, none⟩ = some (.int .i64 l.length) := by simp [World.cell?, h1, vecObj]
  have hbw : b < w.heap.size := (Array.getElem?_eq_some_iff.1 h1).1
  generalize (words l).length = nw at c0 hcl hR
  have H := Lib.hid h
  clear h h1 h2 hwl hm
  go_enter Try.func44, Try.ntmps44
  go_wp2_with fail
  go_region_held3 (fun w' => w'.cell? ⟨b, 0, none⟩ = some (.slice a nw cap) ∧ w'.cell? ⟨b, 1, none⟩ = some (.int .i64 l.length)) (go_keep)
    (first | (go_at_call 62; refine (hcl.out w.drew hR.out).mono ?_; rintro e w1 ⟨a1, cap1, rfl, ho, hk⟩; have k0 : w1.cell? ⟨b, 0, none⟩ = some (.slice a nw cap) := (hk.nil_below.cell (p := ⟨b, 0, none⟩) hbw).trans c0; have k1 : w1.cell? ⟨b, 1, none⟩ = some (.int .i64 l.length) := (hk.nil_below.cell (p := ⟨b, 1, none⟩) hbw).trans c1; have HO := Lib.hid ho; have HK := Lib.hid hk; clear ho hk))
  go_wp2
  go_ret
  have S1 := H.out.drew.newRow HK.out HO.out
  have S2 := (S1.newCell (vecObj (.slice a1 nw cap1) l.length)).join rfl rfl
  have S3 := S2.newCell (readerObj w1.heap.size l.length 0)
  have hsz : (w1.alloc (vecObj (.slice a1 nw cap1) l.length)).heap.size = w1.heap.size + 1 := by simp
  rw [hsz] at S3
  exact ⟨_, _, _, rfl, S3⟩

set_option maxRecDepth 100000 in
theorem readerLeft_nil (w : World) : Calls Try.prog 63 #[.pointer none] w fun e w' => e = .returned (.int .i64 0) ∧ w = w' := by
  go_enter Try.func63, Try.ntmps63
  go_wp2
  go_ret
  exact ⟨rfl, rfl⟩

set_option maxRecDepth 100000 in
theorem readerLeft_any {w0 w : World} {os : List Thing} {r c n at' : Nat} (h : St w0 w os) (hm : cellT r (readerObj c n at') ∈ os) (hle : at' ≤ n) (hn : n < 1099511627776) :
    Calls Try.prog 63 #[.pointer (some ⟨r, 0, none⟩)] w fun e w' => e = .returned (.int .i64 ((n - at' : Nat) : Int)) ∧ Keeps [] w w' := by
  have h0 := h.ok hm
  have h0' : w.heap[r]? = some (readerObj c n at') := h0
  have c1 : w.cell? ⟨r, 1, none⟩ = some (.int .i64 n) := by simp [World.cell?, h0', readerObj]
  have c2 : w.cell? ⟨r, 2, none⟩ = some (.int .i64 at') := by simp [World.cell?, h0', readerObj]
  clear h0 h0' h hm
  go_enter Try.func63, Try.ntmps63
  go_wp2_with fail
  go_quiet (fail)
  go_wp2
  go_ret
  refine ⟨ret_i64 ?_, Keeps.drewN w nq⟩
  omega

theorem num_take_succ (m : List Bool) (j : Nat) (h : j < m.length) : BitsP.num (m.take (j + 1)) = BitsP.num (m.take j) ||| ((m.getD j false).toNat <<< j) := by
  have e : m.take (j + 1) = m.take j ++ [m.getD j false] := by
    rw [List.take_succ_eq_append_getElem h]; simp [List.getD_eq_getElem?_getD, h]
  have hl : (m.take j).length = j := by simp; omega
  have hlt := BitsP.num_lt (m.take j)
  rw [e, BitsP.num_append, hl]
  rw [hl] at hlt
  have h1 : BitsP.num [m.getD j false] = (m.getD j false).toNat := by simp [BitsP.num]
  rw [h1, Nat.shiftLeft_eq, Nat.or_comm, nat_join j _ _ (by simp) hlt, Nat.add_comm, Nat.mul_comm]

set_option maxRecDepth 100000 in
theorem readerNum_nil (k : Int) (w : World) : Calls Try.prog 45 #[.pointer none, .int .i64 k] w fun e w' => e = .returned (.tuple #[.int .u64 0, .int .i64 2]) ∧ w = w' := by
  obtain ⟨m, hmax, hmin⟩ := run_clamp (P := Try.prog) k
  have hmax' := hmax #[3, 3] 3
  have hmin' := hmin #[3, 3] 3
  clear hmax hmin
  go_enter Try.func45, Try.ntmps45
  go_wp2
  go_ret2
  exact ⟨rfl, rfl⟩

set_option maxRecDepth 100000 in
set_option maxHeartbeats 1000000 in
theorem readerNum_short {w0 w : World} {os : List Thing} {r c : Nat} {v : Value} {l : List Bool} {a0 : Nat} (h : St w0 w (cellT r (readerObj c l.length a0) :: vecT c v l :: os)) (k : Int)
    (ha : a0 ≤ l.length) (hn : l.length < 1099511627776) (hk : l.length - a0 < clamp k) :
    Calls Try.prog 45 #[.pointer (some ⟨r, 0, none⟩), .int .i64 k] w fun e w' => e = .returned (.tuple #[.int .u64 0, .int .i64 3]) ∧ St w0 w' (cellT r (readerObj c l.length a0) :: vecT c v l :: os) := by
  obtain ⟨m, hmax, hmin⟩ := run_clamp (P := Try.prog) k
  have hc := clamp_le k
  generalize clamp k = n at hmin hc hk
  have hmax' := hmax #[3, 3] 3
  have hmin' := hmin #[3, 3] 3
  have H := Lib.hid h
  clear hmax hmin h
  go_enter Try.func45, Try.ntmps45
  go_wp2_with fail
  clear hmax' hmin'
  refine (readerLeft_any (c := c) H.out (by simp) ha hn).mono ?_
  rintro e w1 ⟨rfl, hk1⟩
  have hd : decide (((l.length - a0 : Nat) : Int) < (n : Int)) = true := by simp; omega
  generalize l.length - a0 = q at hk hd ⊢
  go_wp2
  go_ret2
  exact ⟨rfl, H.out.same hk1⟩

set_option maxRecDepth 100000 in
set_option maxHeartbeats 2000000 in
theorem readerNum_any {w0 w : World} {os : List Thing} {r c : Nat} {v : Value} {l : List Bool} {a0 : Nat} (h : St w0 w (cellT r (readerObj c l.length a0) :: vecT c v l :: os)) (k : Int)
    (ha : a0 ≤ l.length) (hn : l.length < 1099511627776) (hk : clamp k ≤ l.length - a0) :
    Calls Try.prog 45 #[.pointer (some ⟨r, 0, none⟩), .int .i64 k] w fun e w' => e = .returned (.tuple #[.int .u64 ((BitsP.num ((l.drop a0).take (clamp k)) : Nat) : Int), .int .i64 0]) ∧ St w0 w' (cellT r (readerObj c l.length (a0 + clamp k)) :: vecT c v l :: os) := by
  obtain ⟨m, hmax, hmin⟩ := run_clamp (P := Try.prog) k
  have hc := clamp_le k
  generalize clamp k = n at hmin hc hk ⊢
  have hmax' := hmax #[3, 3] 3
  have hmin' := hmin #[3, 3] 3
  have H := Lib.hid h
  clear hmax hmin h
  go_enter Try.func45, Try.ntmps45
  go_wp2_with fail
  clear hmax' hmin'
  refine (readerLeft_any (c := c) H.out (by simp) ha hn).mono ?_
  rintro e w1 ⟨rfl, hk1⟩
  have hd : True := trivial
  have H1 := Lib.hid (H.out.same hk1)
  have hsum : a0 + n ≤ l.length := by omega
  clear H hk1
  clear hd
  generalize l.length - a0 = q at hk ⊢
  go_wp2_with fail
  go_loopw [6, 20] (fun x i wr => ∃ j : Nat, j ≤ n ∧ i = .int .i64 j ∧ x = .int .u64 ((BitsP.num ((l.drop a0).take j) : Nat) : Int) ∧ St w0 wr (cellT r (readerObj c l.length (a0 + j)) :: vecT c v l :: os)) (fun _ i _ => n - (intOf i).toNat)
  case atStart => exact ⟨0, by omega, rfl, by simp [BitsP.num], H1.out⟩
  case round =>
    obtain ⟨j, hj, rfl, rfl, hS⟩ := hrel
    clear H1
    have hx : BitsP.num ((l.drop a0).take j) < 18446744073709551616 := by
      have := BitsP.num_lt ((l.drop a0).take j)
      have h2 : ((l.drop a0).take j).length ≤ 64 := by simp; omega
      exact Nat.lt_of_lt_of_le this (Nat.pow_le_pow_right (by decide) h2)
    by_cases hlt : j < n
    · have hs := num_take_succ (l.drop a0) j (by simp; omega)
      have hg : (l.drop a0).getD j false = l.getD (a0 + j) false := by simp [List.getD_eq_getElem?_getD]
      rw [hg] at hs
      have c0 : wr.cell? ⟨r, 0, none⟩ = some (.pointer (some ⟨c, 0, none⟩)) := hS.cellAt 0
      have c2 : wr.cell? ⟨r, 2, none⟩ = some (.int .i64 ((a0 + j : Nat) : Int)) := hS.cellAt 2
      have f2 : wr.frozen? ⟨r, 2, none⟩ = false := hS.freeAt 2
      have HA := Lib.hid (fun (nn : Nat) => (vecAt_in (hS.same (Keeps.drewN wr nn)) (b := c) (v := v) (l := l) (by simp) (a0 + j) (by omega)).mono (R' := fun e w' => e = .returned (.int .i64 ((l.getD (a0 + j) false).toNat : Nat)) ∧ w' = wr.drewN nn) (fun e w' ⟨h1, h2⟩ => ⟨h1, h2.symm⟩))
      have htb : (l.getD (a0 + j) false).toNat < 2 := by cases l.getD (a0 + j) false <;> decide
      generalize BitsP.num ((l.drop a0).take j) = x at hs hx ⊢
      generalize (l.getD (a0 + j) false).toNat = t at hs HA htb
      have hor := or_shift x t j hx htb (by omega)
      have HS := Lib.hid hs
      have HST := Lib.hid hS
      have HOR := Lib.hid hor
      have haj : a0 + j < 1099511627776 := by omega
      clear hs hS hg hor
      go_wp2_with fail
      go_quiet ((go_at_call 50; exact Calls.quiet_of_same (HA.out _)))
      have S1 : Hid (St w0 ((wr.drewN nq).setCell ⟨r, 2, none⟩ (.int .i64 ((a0 + j + 1 : Nat) : Int))) (cellT r (readerObj c l.length (a0 + (j + 1))) :: vecT c v l :: os)) :=
        (HST.out.same (Keeps.drewN wr nq)).storeCell 2 (.int .i64 ((a0 + j + 1 : Nat) : Int))
      clear HST HA
      go_wp2
      go_roundw
      case rel => exact ⟨j + 1, by omega, by go_num, by rw [HS.out, ← HOR.out], S1.out⟩
      case measure => simp [intOf]; omega
    · have hjn : j = n := by omega
      subst hjn
      have HST := Lib.hid hS
      clear hS
      go_wp2
      go_ret2
      exact ⟨rfl, HST.out⟩
end Go.Proofs.Ytoipbbobkllddaa

