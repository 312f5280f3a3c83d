/- sync.Once's Do with turn; Back, Inverse. -/
import Derived.Test.YtoipbbobkllddaaOnce
namespace Go.Proofs.Ytoipbbobkllddaa
open Go.RowKit

set_option maxRecDepth 100000 in
set_option maxHeartbeats 1600000 in
theorem slow_any {w0 w : World} {os : List Thing} (p : Nat) (v : Value) (s : Int) (f0 : Value) (xs : List Int) (h : St w0 w (cellT p (permFull v 0 0 s f0) :: os)) (hm2 : rowT 3 v (intsOf xs) ∈ os) (hp : IsPerm xs) (hl : xs.length ≤ 1000000) :
    Calls Try.prog 67 #[.pointer (some ⟨p, 1, none⟩), .func (.func 57) #[.pointer (some ⟨p, 0, none⟩)] #[]] w fun e w' => ∃ f, e = .returned (.tuple #[]) ∧ St w0 w' (cellT p (permFull v 1 0 s f) :: rowT 3 f (intsOf (invL xs)) :: os) := by
  have h1 : St w0 (w.setCell ⟨p, 2, none⟩ (.int .i32 1)) (cellT p (permFull v 0 1 s f0) :: os) := h.storeCell 2 (.int .i32 1)
  have HK := Lib.hid (lock_free ⟨p, 2, none⟩ w (h.cellAt 2) (h.freeAt 2))
  have HLD := Lib.hid (boolLoad_no ⟨p, 1, none⟩ _ (h1.cellAt 1))
  have HT := Lib.hid (turn_any p v 0 1 s f0 xs h1 hm2 hp hl)
  clear h h1
  go_enter_defers Try.func67, Try.ntmps67
  go_wp2_with fail
  refine HK.out.mono ?_
  rintro e w1 ⟨rfl, rfl⟩
  go_wp2_with fail
  refine HLD.out.mono ?_
  rintro e w1 ⟨rfl, rfl⟩
  go_wp2_with fail
  refine HT.out.mono ?_
  rintro e w2 ⟨f, rfl, h2⟩
  have H2 := Lib.hid h2
  clear h2 HT HLD HK
  go_wp2_with fail
  have c1 := H2.out.cellAt 1
  have f1 := H2.out.freeAt 1
  have S3 := H2.out.drew.storeCell 1 (.int .u32 1)
  have c2 := S3.cellAt 2
  have f2 := S3.freeAt 2
  have S4 := Lib.hid (S3.storeCell 2 (.int .i32 0))
  refine leaves_cons (f := 72) (args := #[.pointer (some ⟨p, 1, none⟩), .bool true]) (by simp) (by simp [go_sem]) ?_
  refine (store_deferred ⟨p, 1, none⟩ _ .returning _ c1 f1).mono ?_
  rintro e u' w'' ⟨rfl, rfl, rfl⟩
  refine leaves_cons (f := 71) (args := #[.pointer (some ⟨p, 2, none⟩)]) (by simp [settle]) (by simp [go_sem]) ?_
  refine (unlock_deferred ⟨p, 2, none⟩ _ _ c2 f2).mono ?_
  rintro e u' w'' ⟨rfl, rfl, rfl⟩
  simp [Leaves, settle, results, Try.results67]
  exact ⟨f, S4.out⟩

/-- a permutation's memory: not yet turned, or turned -/
def Turned (p : Nat) (v : Value) (xs : List Int) (o : List Thing) : Prop := o = [cellT p (permFull v 0 0 0 (.slice none 0 0))] ∨ ∃ f, o = [cellT p (permFull v 1 0 0 f), rowT 3 f (intsOf (invL xs))]
theorem Turned.no (p : Nat) (v : Value) (xs : List Int) : Turned p v xs [cellT p (permObj v)] := .inl rfl
theorem Turned.yes (p : Nat) (v f : Value) (xs : List Int) : Turned p v xs [cellT p (permFull v 1 0 0 f), rowT 3 f (intsOf (invL xs))] := .inr ⟨f, rfl⟩
theorem Turned.cell {w0 w : World} {os o : List Thing} {p : Nat} {v : Value} {xs : List Int} (ht : Turned p v xs o) (h : St w0 w (o ++ os)) : w.cell? ⟨p, 0, none⟩ = some v := by
  rcases ht with rfl | ⟨f, rfl⟩
  · exact St.cellAt h 0
  · exact St.cellAt h 0
theorem Turned.perm {w0 : World} {os o : List Thing} {p : Nat} {v : Value} {xs : List Int} (ht : Turned p v xs o) (hm2 : rowT 3 v (intsOf xs) ∈ os) : PermV w0 (o ++ os) p v xs := by
  intro W os' hW
  refine ⟨?_, hW.reads (List.mem_append_right _ (List.mem_append_right _ hm2))⟩
  have h2 : St w0 W (o ++ (os' ++ os)) := hW.perm (by rw [← List.append_assoc, ← List.append_assoc]; exact List.Perm.append_right _ List.perm_append_comm)
  exact ht.cell h2

set_option maxRecDepth 100000 in
theorem once_any {w0 w : World} {os o : List Thing} (p : Nat) (v : Value) (xs : List Int) (h : St w0 w (o ++ os)) (ht : Turned p v xs o) (hm2 : rowT 3 v (intsOf xs) ∈ os) (hp : IsPerm xs) (hl : xs.length ≤ 1000000) :
    Calls Try.prog 56 #[.pointer (some ⟨p, 1, none⟩), .func (.func 57) #[.pointer (some ⟨p, 0, none⟩)] #[]] w fun e w' => ∃ f, e = .returned (.tuple #[]) ∧ St w0 w' (cellT p (permFull v 1 0 0 f) :: rowT 3 f (intsOf (invL xs)) :: os) := by
  rcases ht with rfl | ⟨f, rfl⟩
  · have h' : St w0 w (cellT p (permFull v 0 0 0 (.slice none 0 0)) :: os) := h
    have HLD := Lib.hid (boolLoad_no ⟨p, 1, none⟩ w (h'.cellAt 1))
    have HSL := Lib.hid (slow_any p v 0 _ xs h' hm2 hp hl)
    clear h h'
    go_enter Try.func56, Try.ntmps56
    go_wp2_with fail
    refine HLD.out.mono ?_
    rintro e w1 ⟨rfl, rfl⟩
    go_wp2_with fail
    refine HSL.out.mono ?_
    rintro e w2 ⟨f, rfl, h2⟩
    have H2 := Lib.hid h2
    clear h2
    go_wp2_with fail
    go_end0
    exact ⟨f, rfl, H2.out⟩
  · have h' : St w0 w (cellT p (permFull v 1 0 0 f) :: rowT 3 f (intsOf (invL xs)) :: os) := h
    have HLD := Lib.hid (boolLoad_yes ⟨p, 1, none⟩ w (h'.cellAt 1))
    have H2 := Lib.hid h'
    clear h h'
    go_enter Try.func56, Try.ntmps56
    go_wp2_with fail
    refine HLD.out.mono ?_
    rintro e w1 ⟨rfl, rfl⟩
    go_wp2_with fail
    go_end0
    exact ⟨f, rfl, H2.out⟩

theorem permInverse_nil (w : World) : Calls Try.prog 32 #[.pointer none] w fun e w' => e = .returned (.pointer none) ∧ w = w' := by
  go_enter Try.func32, Try.ntmps32
  go_wp2
  go_ret
  exact ⟨rfl, rfl⟩

set_option maxRecDepth 100000 in
theorem permInverse_any {w0 w : World} {os o : List Thing} (p : Nat) (v : Value) (xs : List Int) (h : St w0 w (o ++ os)) (ht : Turned p v xs o) (hm2 : rowT 3 v (intsOf xs) ∈ os) (hp : IsPerm xs) (hl : xs.length ≤ 1000000) :
    Calls Try.prog 32 #[.pointer (some ⟨p, 0, none⟩)] w fun e w' => ∃ f q v', e = .returned (.pointer (some ⟨q, 0, none⟩)) ∧ St w0 w' (cellT q (permObj v') :: rowT 3 v' (intsOf (invL xs)) :: cellT p (permFull v 1 0 0 f) :: rowT 3 f (intsOf (invL xs)) :: os) := by
  have HO := Lib.hid (once_any p v xs h ht hm2 hp hl)
  have HIL : Hid ((invL xs).length ≤ 1000000) := by show _ ≤ _; rw [invL_len]; exact hl
  clear h ht hm2
  go_enter Try.func32, Try.ntmps32
  go_wp2_with fail
  refine HO.out.mono ?_
  rintro e w2 ⟨f, rfl, h2⟩
  have k4 : w2.cell? ⟨p, 4, none⟩ = some f := h2.cellAt 4
  have HCL := Lib.hid (cloneInts_any f (intsOf (invL xs)) w2 (h2.reads (E := 3) (List.mem_cons_of_mem _ (List.mem_cons_self ..))) (ints_oneCell _) (by rw [intsOf_len]; have := HIL.out; omega))
  have H2 := Lib.hid h2
  clear h2 HO
  go_wp2_with fail
  refine HCL.out.mono ?_
  rintro e w3 ⟨v3, rfl, ho, hk⟩
  obtain ⟨a3, c3, rfl, _, _⟩ := ownsRow_slice ho
  have H3 := Lib.hid ((H2.out.newRow hk ho).newCell (permObj (.slice a3 (intsOf (invL xs)).length c3)))
  clear ho hk HCL
  go_wp2_with fail
  go_ret
  exact ⟨f, _, _, rfl, H3.out⟩
end Go.Proofs.Ytoipbbobkllddaa

