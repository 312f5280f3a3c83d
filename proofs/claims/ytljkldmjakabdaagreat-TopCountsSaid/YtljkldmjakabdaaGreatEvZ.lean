/- TopCounts by reckoning: the functions told by hand: sync.Once's slow road, atomic.Bool's Load. -/
import Derived.Test.YtljkldmjakabdaaGreatEvJ
import Derived.Test.YtljkldmjakabdaaGreatEvU
import Derived.Test.YtljkldmjakabdaaGreatChecked
import Derived.ProofKit
import Derived.WalkKit
import Derived.Defers
import Derived.Laws.Pointers
import Derived.Laws.LoneSync
import Derived.RegionTactic
import Derived.RegionCalls
import Derived.Laws.Externs
import Derived.Lib.Hide
namespace Go.Proofs.YtljkldmjakabdaaGreat.Ev
open Go Go.Lib Go.RowKit

theorem race_disable (w : World) : (callFunc 197 #[]).run Tryz.prog w = .ok (.value (.tuple #[])) w := run_call_mark0 Tryz.func197 (by kernel_rfl) (by kernel_rfl) (by kernel_rfl) .disable (by kernel_rfl) w
theorem race_enable (w : World) : (callFunc 199 #[]).run Tryz.prog w = .ok (.value (.tuple #[])) w := run_call_mark0 Tryz.func199 (by kernel_rfl) (by kernel_rfl) (by kernel_rfl) .enable (by kernel_rfl) w
theorem race_acquire (a : Addr) (w : World) : (callFunc 200 #[.pointer (some a)]).run Tryz.prog w = .ok (.value (.tuple #[])) w := run_call_marked Tryz.func200 (by kernel_rfl) (by kernel_rfl) (by kernel_rfl) .acquire (by kernel_rfl) a w
theorem race_releaseMerge (a : Addr) (w : World) : (callFunc 202 #[.pointer (some a)]).run Tryz.prog w = .ok (.value (.tuple #[])) w := run_call_marked Tryz.func202 (by kernel_rfl) (by kernel_rfl) (by kernel_rfl) .releaseMerge (by kernel_rfl) a w

/-- '(*sync/atomic.Bool).Store(true)', entered as a deferred call: the cell holds 1. -/
theorem store_deferred (a : Addr) (x : Value) (u : FrameMode) (w : World) (hc : w.cell? a = some x) (hz : w.frozen? a = false) :
    CallsD Tryz.prog 161 #[.pointer (some a), .bool true] u w fun e u' w' => u' = u ∧ (e = .returned (.tuple #[]) ∧ w' = w.drew.setCell a (.int .u32 1)) := by
  have hc' : w.drew.cell? a = some x := by go_simp
  have hz' : w.drew.frozen? a = false := by go_simp
  have hst := run_call_store (P := Tryz.prog) Tryz.func184 (by kernel_rfl) (by kernel_rfl) (by kernel_rfl) (by kernel_rfl) (k := .u32) (y := 1) hc' hz'
  go_enter_d Tryz.func161, Tryz.ntmps161
  go_wp2
  go_region_calls
  all_goals (go_end0; exact ⟨rfl, rfl⟩)

set_option maxRecDepth 100000 in
/-- the inner mutex, let go: state 1 to 0 -/
theorem unlock_in (a : Addr) (w : World) (hc : w.cell? a = some (.int .i32 1)) (hz : w.frozen? a = false) :
    Calls Tryz.prog 183 #[.pointer (some a)] w fun e w' => e = .returned (.tuple #[]) ∧ w' = w.setCell a (.int .i32 0) := by
  have hd := race_disable
  have he := race_enable
  have hr := race_releaseMerge
  have hadd := run_call_add (P := Tryz.prog) Tryz.func203 (by kernel_rfl) (by kernel_rfl) (by kernel_rfl) .i32 (by kernel_rfl) (y := -1) (s := 0) hc hz (by simp [go_sem]; rfl)
  have hcv := run_convert_to_unsafe (P := Tryz.prog) (src := 289) (dst := 164) Tryz.underlying289 Tryz.underlying164 (by kernel_rfl) hc
  go_enter Tryz.func183, Tryz.ntmps183
  go_wp2
  go_end0
  exact ⟨rfl, rfl⟩

/-- '(*sync.Mutex).Unlock', entered as a deferred call, the lock held and nobody waiting (state 1): state 0. -/
theorem unlock_deferred (a : Addr) (u : FrameMode) (w : World) (hc : w.cell? a = some (.int .i32 1)) (hz : w.frozen? a = false) :
    CallsD Tryz.prog 160 #[.pointer (some a)] u w fun e u' w' => u' = u ∧ (e = .returned (.tuple #[]) ∧ w' = w.setCell a (.int .i32 0)) := by
  have hin := unlock_in a w hc hz
  go_enter_d Tryz.func160, Tryz.ntmps160
  go_wp2_with (go_at_call 183; refine hin.mono ?_; rintro e w' ⟨rfl, rfl⟩)
  go_end0
  exact ⟨rfl, rfl⟩

set_option maxRecDepth 100000 in
theorem lock_in (a : Addr) (w : World) (hc : w.cell? a = some (.int .i32 0)) (hz : w.frozen? a = false) :
    Calls Tryz.prog 182 #[.pointer (some a)] w fun e w' => e = .returned (.tuple #[]) ∧ w' = w.setCell a (.int .i32 1) := by
  have hd := race_disable
  have he := race_enable
  have ha := race_acquire
  have hcas := run_call_cas_hit (P := Tryz.prog) Tryz.func198 (by kernel_rfl) (by kernel_rfl) (by kernel_rfl) .i32 (by kernel_rfl) (y := 1) hc hz
  have hc' : (w.setCell a (.int .i32 1)).cell? a = some (.int .i32 1) := World.cell?_setCell_same w a _ hc
  have hcv := run_convert_to_unsafe (P := Tryz.prog) (src := 289) (dst := 164) Tryz.underlying289 Tryz.underlying164 (by kernel_rfl) hc'
  go_enter Tryz.func182, Tryz.ntmps182
  go_wp2
  first | go_end0 | (simp only [Exit.inBlock, Exit.then]; refine bodyPost_ret (results_none rfl _ _ _) rfl ?_) | refine bodyPost_ret (results_none rfl _ _ _) rfl ?_
  exact ⟨rfl, rfl⟩

/-- '(*sync.Mutex).Lock', the lock free (state 0): state 1. -/
theorem lock_free (a : Addr) (w : World) (hc : w.cell? a = some (.int .i32 0)) (hz : w.frozen? a = false) :
    Calls Tryz.prog 159 #[.pointer (some a)] w fun e w' => e = .returned (.tuple #[]) ∧ w' = w.setCell a (.int .i32 1) := by
  have hin := lock_in a w hc hz
  go_enter Tryz.func159, Tryz.ntmps159
  go_wp2_with (go_at_call 182; refine hin.mono ?_; rintro e w' ⟨rfl, rfl⟩)
  go_end0
  exact ⟨rfl, rfl⟩

theorem boolLoad_no (a : Addr) (w : World) (hc : w.cell? a = some (.int .u32 0)) :
    Calls Tryz.prog 136 #[.pointer (some a)] w fun e w' => e = .returned (.bool false) ∧ w' = w := by
  have hl := run_call_load (P := Tryz.prog) Tryz.func158 (by kernel_rfl) (by kernel_rfl) (by kernel_rfl) .u32 (by kernel_rfl) hc
  go_enter Tryz.func136, Tryz.ntmps136
  go_wp2
  go_ret
  exact ⟨rfl, rfl⟩
theorem boolLoad_yes (a : Addr) (w : World) (hc : w.cell? a = some (.int .u32 1)) :
    Calls Tryz.prog 136 #[.pointer (some a)] w fun e w' => e = .returned (.bool true) ∧ w' = w := by
  have hl := run_call_load (P := Tryz.prog) Tryz.func158 (by kernel_rfl) (by kernel_rfl) (by kernel_rfl) .u32 (by kernel_rfl) hc
  go_enter Tryz.func136, Tryz.ntmps136
  go_wp2
  go_ret
  exact ⟨rfl, rfl⟩


theorem plainly : Plainly Tryz.prog := by
  intro f fn h
  have hall : (Tryz.prog.funcs.toList.all fun fn => !(fn.name == "runtime.NumGoroutine")) = true := by kernel_rfl
  have := List.all_eq_true.1 hall fn (List.mem_of_getElem? (i := f) (by simpa using h))
  simpa using this

theorem enters {g : Nat} (hg : ∃ fn, Tryz.prog.funcs[g]? = some fn ∧ fn.body.isSome = true) (args : Array Value) (w : World) : (callFunc g args).run Tryz.prog w = .ok (.enter g args) w := by
  obtain ⟨fn, hfn, hbody⟩ := hg
  have hn := plainly g fn hfn
  have hn' : fn.name ≠ "runtime.NumGoroutine" := by simpa using hn
  have hb : fn.body ≠ none := by cases hq : fn.body <;> simp_all
  simp [callFunc, hfn, hn', hb, Result.andThen]

set_option maxRecDepth 100000 in
set_option maxHeartbeats 1600000 in
/-- The slow road, whatever is done once. -/
theorem slow_of (b o g : Nat) (x : Value) (w : World) (Q : World → Prop) (hg : ∃ fn, Tryz.prog.funcs[g]? = some fn ∧ fn.body.isSome = true)
    (c0 : w.cell? ⟨b, o, none⟩ = some (.int .u32 0)) (c1 : w.cell? ⟨b, o + 1, none⟩ = some (.int .i32 0)) (z1 : w.frozen? ⟨b, o + 1, none⟩ = false)
    (hcall : Calls Tryz.prog g #[x] (w.setCell ⟨b, o + 1, none⟩ (.int .i32 1)) fun e w2 => (∃ y, e = .returned y) ∧ (∃ y, w2.cell? ⟨b, o, none⟩ = some y) ∧ w2.frozen? ⟨b, o, none⟩ = false ∧ w2.cell? ⟨b, o + 1, none⟩ = some (.int .i32 1) ∧ w2.frozen? ⟨b, o + 1, none⟩ = false ∧
      Q ((w2.drew.setCell ⟨b, o, none⟩ (.int .u32 1)).setCell ⟨b, o + 1, none⟩ (.int .i32 0))) :
    Calls Tryz.prog 137 #[.pointer (some ⟨b, o, none⟩), .func (.func g) #[x] #[]] w fun e w' => e = .returned (.tuple #[]) ∧ Q w' := by
  have HK := Lib.hid (lock_free ⟨b, o + 1, none⟩ w c1 z1)
  have d0 : (w.setCell ⟨b, o + 1, none⟩ (.int .i32 1)).cell? ⟨b, o, none⟩ = some (.int .u32 0) := by
    rw [World.cell?_setCell_other _ _ _ _ (by simp)]; exact c0
  have HLD := Lib.hid (boolLoad_no ⟨b, o, none⟩ _ d0)
  have HT := Lib.hid hcall
  have hcf := enters hg #[x]
  clear hcall c0 c1 z1 d0 hg
  go_enter_defers Tryz.func137, Tryz.ntmps137
  go_wp2_with fail
  refine HK.out.mono ?_
  rintro e w1 ⟨rfl, rfl⟩
  go_wp2_with fail
  refine HLD.out.mono ?_
  rintro e w1 ⟨rfl, rfl⟩
  go_wp2_with fail
  refine HT.out.mono ?_
  rintro e w2 ⟨⟨y, rfl⟩, ⟨y0, k0⟩, k1, k2, k3, hQ⟩
  have HQ := Lib.hid hQ
  clear hQ HT HLD HK
  go_wp2_with fail
  refine leaves_cons (f := 161) (args := #[.pointer (some ⟨b, o, none⟩), .bool true]) (by simp) (by simp [go_sem]) ?_
  refine (store_deferred ⟨b, o, none⟩ y0 .returning _ k0 k1).mono ?_
  rintro e u' w'' ⟨rfl, rfl, rfl⟩
  refine leaves_cons (f := 160) (args := #[.pointer (some ⟨b, o + 1, none⟩)]) (by simp [settle]) (by simp [go_sem]) ?_
  refine (unlock_deferred ⟨b, o + 1, none⟩ _ _ ?_ ?_).mono ?_
  · rw [World.cell?_setCell_other _ _ _ _ (by simp), World.cell?_drew]; exact k2
  · rw [World.frozen?_setCell, World.frozen?_drew]; exact k3
  rintro e u' w'' ⟨rfl, rfl, rfl⟩
  simp [Leaves, settle, results, Tryz.results137]
  exact HQ.out

/-- What is asked of a function told by hand. -/
def PrimIs (P : Program) (f : Nat) (q : CallT → List AV → Hp → Nat → Option (AV × Hp × Nat)) : Prop := ∀ (call : CallT), CallOk P call → ∀ (args : List AV) (h : Hp) (nx : Nat) (v : AV) (h' : Hp) (nx' : Nat), q call args h nx = some (v, h', nx') →
  ∀ (c : Cx) (w : World) (vs : Array Value), R c h.get w → Bd c nx → All2 (AvR c) args vs.toList →
    Calls P f vs w fun e w' => ∃ x c', e = .returned x ∧ Mv c h.get w c' h'.get w' ∧ Gr c nx c' nx' ∧ AvR c' v x

theorem args1 {c : Cx} {a : AV} {vs : Array Value} (h : All2 (AvR c) [a] vs.toList) : ∃ x, vs = #[x] ∧ AvR c a x := by
  obtain ⟨l⟩ := vs
  cases h with
  | cons r h => cases h; exact ⟨_, rfl, r⟩
theorem args2 {c : Cx} {a b : AV} {vs : Array Value} (h : All2 (AvR c) [a, b] vs.toList) : ∃ x y, vs = #[x, y] ∧ AvR c a x ∧ AvR c b y := by
  obtain ⟨l⟩ := vs
  cases h with
  | cons r h => cases h with
    | cons r2 h => cases h; exact ⟨_, _, rfl, r, r2⟩
theorem args3 {c : Cx} {a b d : AV} {vs : Array Value} (h : All2 (AvR c) [a, b, d] vs.toList) : ∃ x y z, vs = #[x, y, z] ∧ AvR c a x ∧ AvR c b y ∧ AvR c d z := by
  obtain ⟨l⟩ := vs
  cases h with
  | cons r h => cases h with
    | cons r2 h => cases h with
      | cons r3 h => cases h; exact ⟨_, _, _, rfl, r, r2, r3⟩

theorem pLoad_ok : PrimIs Tryz.prog 136 pLoad := by
  intro call hc args h nx v h' nx' he c w vs r hbd hargs
  unfold pLoad at he
  split at he
  · rename_i b o
    obtain ⟨x, rfl, p, hp, rfl⟩ := args1 hargs
    split at he
    · rename_i hrd
      simp only [Option.some.injEq, Prod.mk.injEq] at he
      obtain ⟨rfl, rfl, rfl⟩ := he
      obtain ⟨u, hu, hr⟩ := rd_sound r hrd hp
      have : u = .int .u32 0 := hr
      subst this
      refine (boolLoad_no _ w hu).mono ?_
      rintro e w' ⟨rfl, rfl⟩
      exact ⟨_, c, rfl, Mv.refl r, .refl c nx, rfl⟩
    · rename_i hrd
      simp only [Option.some.injEq, Prod.mk.injEq] at he
      obtain ⟨rfl, rfl, rfl⟩ := he
      obtain ⟨u, hu, hr⟩ := rd_sound r hrd hp
      have : u = .int .u32 1 := hr
      subst this
      refine (boolLoad_yes _ w hu).mono ?_
      rintro e w' ⟨rfl, rfl⟩
      exact ⟨_, c, rfl, Mv.refl r, .refl c nx, rfl⟩
    · cases he
  · cases he

theorem pSlow_ok : PrimIs Tryz.prog 137 pSlow := by
  intro call hc args h nx v h' nx' he c w vs r hbd hargs
  unfold pSlow at he
  split at he
  · rename_i b o g b' o'
    obtain ⟨x, y, rfl, ⟨p, hp, rfl⟩, ⟨p', hp', rfl⟩⟩ := args2 hargs
    split at he
    · rename_i hr0 hr1
      split at he
      · rename_i h1 hw1
        split at he
        · rename_i v2 h2 nx2 hcall
          split at he
          · rename_i h3 hr2 hw2
            split at he
            · rename_i h4 hw3
              simp only [Option.some.injEq, Prod.mk.injEq] at he
              obtain ⟨rfl, rfl, rfl⟩ := he
              obtain ⟨u0, hu0, e0⟩ := rd_sound r hr0 hp
              obtain ⟨u1, hu1, e1⟩ := rd_sound r hr1 hp
              have : u0 = .int .u32 0 := e0
              subst this
              have : u1 = .int .i32 0 := e1
              subst this
              have one : ∀ (c : Cx) (k : IntKind) (n : Int), All2 (AtR c) [.int k n] [Value.int k n] := fun c k n => .cons rfl .nil
              obtain ⟨m1, _, z1⟩ := Mv.store r (one c .i32 1) hw1 hp
              have z1' := z1 0 (by simp)
              obtain ⟨hg, hsound⟩ := hc _ _ _ _ _ _ _ hcall
              refine (slow_of p.b (p.o + o) g _ w (fun w' => ∃ c2, Mv c h.get w c2 h4.get w' ∧ Gr c nx c2 nx2) hg hu0 hu1 z1' ?_).mono ?_
              · refine (hsound c (w.setCell ⟨p.b, p.o + o + 1, none⟩ (.int .i32 1)) #[.pointer (some ⟨p'.b, p'.o + o', none⟩)] m1.r hbd (.cons ⟨p', hp', rfl⟩ .nil)).mono ?_
                rintro e w2 ⟨y, c2, rfl, m2, g2, _⟩
                have hp2 := m2.le _ _ hp
                obtain ⟨u2, hu2, e2⟩ := rd_sound m2.r hr2 hp2
                have : u2 = .int .i32 1 := e2
                subst this
                have md := Mv.drew m2.r (w2.drawn + 1)
                obtain ⟨m3, c3, z3⟩ := Mv.store (w := w2.drew) md.r (one c2 .u32 1) hw2 hp2
                obtain ⟨m4, c4, z4⟩ := Mv.store m3.r (one c2 .i32 0) hw3 hp2
                have c3' := c3 0 (by simp)
                have z3' := z3 0 (by simp)
                have z4' := z4 0 (by simp)
                have z4'' : (w2.drew.setCell ⟨p.b, p.o + o, none⟩ (.int .u32 1)).frozen? ⟨p.b, p.o + o + 1, none⟩ = false := z4'
                rw [World.frozen?_setCell, World.frozen?_drew] at z4''
                refine ⟨⟨y, rfl⟩, ?_, z3', hu2, z4'', c2, ?_, g2⟩
                · exact Option.isSome_iff_exists.1 c3'
                · exact m1.trans (m2.trans (md.trans (m3.trans m4)))
              · rintro e w' ⟨rfl, c2, m, g2⟩
                exact ⟨_, c2, rfl, m, g2, ⟨#[], rfl, .nil⟩⟩
            · cases he
          · cases he
        · cases he
      · cases he
    · cases he
  · cases he

end Go.Proofs.YtljkldmjakabdaaGreat.Ev

