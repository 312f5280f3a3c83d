/- TopCounts by reckoning: the functions told by hand: strings.Builder's copyCheck and String. -/
import Derived.Test.YtljkldmjakabdaaGreatEvZ
import Derived.Lib.Builder
import Derived.Lib.UnsafeStr
import Derived.Shelf.RegionOpenPlain
namespace Go.Proofs.YtljkldmjakabdaaGreat.Ev
open Go Go.Lib Go.RowKit

set_option maxRecDepth 100000 in
theorem copyCheck_used (b : Nat) (w : World) (h0 : w.cell? ⟨b, 0, none⟩ = some (.pointer (some ⟨b, 0, none⟩))) :
    Calls Tryz.prog 55 #[.pointer (some ⟨b, 0, none⟩)] w fun e w' => e = .returned (.tuple #[]) ∧ w' = w := by
  obtain ⟨j, hj, _⟩ := Option.map_eq_some_iff.1 (show (Tryz.prog.info? 78).map (·.size) = some 2 by kernel_rfl)
  go_enter Tryz.func55, Tryz.ntmps55
  go_wp2
  rw [Lib.run_neq_ptr_same w _ Tryz.underlying76 hj]
  go_wp2
  go_end0
  exact ⟨rfl, rfl⟩

set_option maxRecDepth 100000 in
theorem copyCheck_fresh (b : Nat) (w : World) (h0 : w.cell? ⟨b, 0, none⟩ = some (.pointer none)) (hsh : w.shape? b = some (78, 2)) (hfz : w.frozen? ⟨b, 0, none⟩ = false) :
    Calls Tryz.prog 55 #[.pointer (some ⟨b, 0, none⟩)] w fun e w' => e = .returned (.tuple #[]) ∧ w' = w.setCell ⟨b, 0, none⟩ (.pointer (some ⟨b, 0, none⟩)) := by
  obtain ⟨j, hj, hjs⟩ := Option.map_eq_some_iff.1 (show (Tryz.prog.info? 78).map (·.size) = some 2 by kernel_rfl)
  go_enter Tryz.func55, Tryz.ntmps55
  go_wp2
  rw [Lib.run_to_unsafe w ⟨b, 0, none⟩ Tryz.underlying76 Tryz.underlying164 hj (by rw [hjs]; decide) hsh (Nat.zero_lt_succ 1)]
  simp only [Result.andThen]
  rw [Oper.upon_value]
  go_wp2
  rw [run_callFunc_extern Tryz.func95 (by kernel_rfl) (by kernel_rfl) (by kernel_rfl) (e := Extern.AbiNoEscape.same) (by kernel_rfl)]
  rw [Lib.run_noEscape]
  simp only [Result.andThen]
  rw [Oper.upon_value]
  go_wp2
  rw [Lib.run_from_unsafe w ⟨b, 0, none⟩ Tryz.underlying164 Tryz.underlying76 hj hsh (by kernel_rfl)]
  simp only [Result.andThen]
  rw [Oper.upon_value]
  go_wp2
  go_end0
  exact ⟨rfl, rfl⟩


set_option maxRecDepth 100000 in
set_option maxHeartbeats 2000000 in
theorem bldNil (b : Nat) (w : World) (c0 : w.cell? ⟨b, 1, none⟩ = some (.slice none 0 0)) :
    Calls Tryz.prog 27 #[.pointer (some ⟨b, 0, none⟩)] w fun e w' => e = .returned (.string .empty) ∧ w' = w.drew := by
  have hUS : ∀ W : World, (Builtin.unsafeString_ #[123, 3] 9 #[.pointer none, .int .i64 0]).run Tryz.prog W = .ok (.string .empty) W := fun W => Lib.run_unsafeString_none W _ _ _ _
  have c1 : w.drew.cell? ⟨b, 1, none⟩ = some (.slice none 0 0) := by
    rw [show w.drew.cell? ⟨b, 1, none⟩ = w.cell? ⟨b, 1, none⟩ from rfl]; exact c0
  have hSD : (Builtin.unsafeSliceData_ #[40] 123 #[.slice none 0 0]).run Tryz.prog w.drew = .ok (.pointer none) w.drew := rfl
  clear c0
  go_enter Tryz.func27, Tryz.ntmps27
  have mixed : Tryz.prog.follows Departure.mixedOrders = true := by kernel_rfl
  go_wp2
  go_region_o
  all_goals (go_wp2; go_ret; exact ⟨rfl, rfl⟩)

set_option maxRecDepth 100000 in
set_option maxHeartbeats 2000000 in
theorem bldSome (b g n cap cells : Nat) (l8 : List UInt8) (w : World) (c0 : w.cell? ⟨b, 1, none⟩ = some (.slice (some ⟨g, 0, none⟩) n cap)) (hn : l8.length = n) (h80 : l8 ≠ []) (hcap : cap ≠ 0) (hle : n ≤ cells) (hb : n < 10001)
    (hsh : w.shape? g = some (5, cells)) (hcs : ∀ (j : Nat) (x : UInt8), l8[j]? = some x → w.cell? ⟨g, j, none⟩ = some (.int .u8 x.toNat)) :
    Calls Tryz.prog 27 #[.pointer (some ⟨b, 0, none⟩)] w fun e w' => e = .returned (.string ⟨l8.toArray⟩) ∧ w' = w.drew.freeze ⟨g, 0, none⟩ n := by
  subst hn
  have c1 : w.drew.cell? ⟨b, 1, none⟩ = some (.slice (some ⟨g, 0, none⟩) l8.length cap) := by
    rw [show w.drew.cell? ⟨b, 1, none⟩ = w.cell? ⟨b, 1, none⟩ from rfl]; exact c0
  have hSD : (Builtin.unsafeSliceData_ #[40] 123 #[.slice (some ⟨g, 0, none⟩) l8.length cap]).run Tryz.prog w.drew = .ok (.pointer (some ⟨g, 0, none⟩)) w.drew :=
    Lib.run_unsafeSliceData_row _ _ _ _ _ _ hcap
  have hUS : (Builtin.unsafeString_ #[123, 3] 9 #[.pointer (some ⟨g, 0, none⟩), .int .i64 l8.length]).run Tryz.prog w.drew = .ok (.string ⟨l8.toArray⟩) (w.drew.freeze ⟨g, 0, none⟩ l8.length) :=
    Lib.run_unsafeString_row w.drew 123 3 9 5 Tryz.underlying123 (by kernel_rfl) g cells hsh l8 h80 hle (by omega) (fun j x hx => by rw [addr_add, Nat.zero_add]; exact hcs j x hx)
  clear c0 hle hb hsh hcs hcap h80
  go_enter Tryz.func27, Tryz.ntmps27
  have mixed : Tryz.prog.follows Departure.mixedOrders = true := by kernel_rfl
  go_wp2
  go_region_o
  all_goals (go_wp2; go_ret; exact ⟨rfl, rfl⟩)

/-- A block is given up. -/
theorem Mv.drop {c : Cx} {h : Hp} {w w' : World} (r : R c h.get w) {b : Nat} {B : Blk} (hb : h.get b = some B) {p : Pl} (hp : c b = some p) (hoth : ∀ x, x ≠ p.b → w'.heap[x]? = w.heap[x]?) (hsz : w.heap.size ≤ w'.heap.size) (hout : Out w w') :
    Mv c h.get w c (h.erase b).get w' := by
  refine ⟨.refl c, ⟨?_, ?_⟩, ?_, ?_, ?_, hsz, hout⟩
  · intro id b' hid
    obtain ⟨hne, h2⟩ := T.get_erase _ _ _ _ hid
    obtain ⟨q, hq, ho⟩ := r.blk id b' h2
    refine ⟨q, hq, ?_⟩
    rw [hoth q.b (r.inj id b b' B q p h2 hb hne hq hp)]
    exact ho
  · intro i j x y q s hi hj hij hq hs
    exact r.inj i j x y q s (T.get_erase _ _ _ _ hi).2 (T.get_erase _ _ _ _ hj).2 hij hq hs
  · intro id b' q hid _
    exact ⟨b', (T.get_erase _ _ _ _ hid).2⟩
  · intro id b' q _ hn hq
    rw [hn] at hq; cases hq
  · intro x hx hn
    exact hoth x fun e => hn b B p hb hp e.symm

theorem freeze_other (w : World) (g n x : Nat) (hx : x ≠ g) : (w.freeze ⟨g, 0, none⟩ n).heap[x]? = w.heap[x]? := by
  unfold World.freeze
  split
  · rfl
  · simp only [Array.getElem?_modify]
    rw [if_neg (fun e => hx e.symm)]
theorem freeze_out (w : World) (g n : Nat) : Out w (w.freeze ⟨g, 0, none⟩ n) := by
  unfold World.freeze
  split <;> exact ⟨rfl, rfl, rfl⟩
theorem freeze_size (w : World) (g n : Nat) : (w.freeze ⟨g, 0, none⟩ n).heap.size = w.heap.size := by
  unfold World.freeze
  split <;> simp

theorem pCheck_ok : PrimIs Tryz.prog 55 pCheck := by
  intro call hc args h nx v h' nx' he c w vs r hbd hargs
  unfold pCheck at he
  split at he
  case h_2 => cases he
  rename_i b
  obtain ⟨x, rfl, p, hp, rfl⟩ := args1 hargs
  split at he
  case h_2 => cases he
  rename_i t e hb
  simp only [beq_dec] at he
  by_cases h1 : e = 78
  case neg => simp [h1] at he
  subst h1
  simp only [decide_true, cond_true] at he
  obtain ⟨q, cs, el, fr, hq, g1, g2, g3, g4, g5, g6⟩ := r.cells hb
  rw [hp] at hq; cases hq
  obtain ⟨rfl, k1, k2, _⟩ := g6
  obtain ⟨pb, po, pn⟩ := p
  simp only at k1 g1 g2 g3 hp
  subst k1
  have hsh : w.shape? pb = some (78, 2) := by simp [World.shape?, g1, k2]
  split at he
  · rename_i h0
    obtain ⟨_, u, hu, hr⟩ := g5 0 _ h0
    have : u = .pointer none := hr
    subst this
    split at he
    · rename_i h2 hw
      simp only [Option.some.injEq, Prod.mk.injEq] at he
      obtain ⟨rfl, rfl, rfl⟩ := he
      obtain ⟨m, _, z⟩ := Mv.store r (show All2 (AtR c) [At.ptr b 0] [Value.pointer (some ⟨pb, 0, none⟩)] from .cons ⟨_, hp, rfl⟩ .nil) hw hp
      refine (copyCheck_fresh pb w (by rw [cell_at g1]; exact hu) hsh (z 0 (by simp))).mono ?_
      rintro e w' ⟨rfl, rfl⟩
      exact ⟨_, c, rfl, m, .refl c nx, ⟨#[], rfl, .nil⟩⟩
    · cases he
  · rename_i b' h0
    by_cases h3 : b = b'
    case neg => simp [h3] at he
    subst h3
    simp only [decide_true, cond_true, Option.some.injEq, Prod.mk.injEq] at he
    obtain ⟨rfl, rfl, rfl⟩ := he
    obtain ⟨_, u, hu, q, hq, rfl⟩ := g5 0 _ h0
    rw [hp] at hq; cases hq
    refine (copyCheck_used pb w (by rw [cell_at g1]; exact hu)).mono ?_
    rintro e w' ⟨rfl, rfl⟩
    exact ⟨_, c, rfl, Mv.refl r, .refl c nx, ⟨#[], rfl, .nil⟩⟩
  · cases he

/-- Bytes, told by their numbers. -/
theorem u8_nums : ∀ (cs : List At) (s : List Nat), bytesOfAts cs = some s → bytesOk s = true → ∃ l8 : List UInt8, l8.map UInt8.toNat = s ∧ l8.length = cs.length ∧ ∀ (j : Nat) (x : UInt8), l8[j]? = some x → cs[j]? = some (.int .u8 x.toNat) := by
  intro cs
  induction cs with
  | nil => intro s h _; simp [bytesOfAts] at h; subst h; exact ⟨[], rfl, rfl, fun j x h => (by simp at h)⟩
  | cons a cs ih =>
    intro s h hok
    unfold bytesOfAts at h
    split at h
    · cases ‹_ :: _ = []›
    · rename_i n l heq
      obtain ⟨rfl, rfl⟩ := List.cons.inj heq
      cases hr : bytesOfAts cs with
      | none => rw [hr] at h; cases h
      | some r =>
        rw [hr] at h
        simp at h; subst h
        unfold bytesOk at hok
        simp only [blt_dec] at hok
        by_cases hn : n < 256
        case neg => simp [hn] at hok
        simp only [hn, decide_true, cond_true] at hok
        obtain ⟨l8, h1, h2, h3⟩ := ih r hr hok
        have e : (UInt8.ofNat n).toNat = n := by simp [Nat.mod_eq_of_lt hn]
        refine ⟨UInt8.ofNat n :: l8, by simp [h1, e], by simp [h2], fun j x hx => ?_⟩
        cases j with
        | zero => simp at hx; subst hx; simp [e]
        | succ j => simpa using h3 j x (by simpa using hx)
    · cases h

theorem pString_ok : PrimIs Tryz.prog 27 pString := by
  intro call hc args h nx v h' nx' he c w vs r hbd hargs
  unfold pString at he
  split at he
  case h_2 => cases he
  rename_i b
  obtain ⟨x, rfl, p, hp, rfl⟩ := args1 hargs
  split at he
  case h_2 => cases he
  rename_i t m0 e hb
  simp only [beq_dec] at he
  by_cases h1 : e = 78
  case neg => simp [h1] at he
  subst h1
  simp only [decide_true, cond_true] at he
  obtain ⟨q, cs, el, fr, hq, g1, g2, g3, g4, g5, g6⟩ := r.cells hb
  rw [hp] at hq; cases hq
  obtain ⟨rfl, k1, k2, _⟩ := g6
  obtain ⟨pb, po, pn⟩ := p
  simp only at k1 g1 g2 g3 hp
  subst k1
  split at he
  · rename_i b' l cp ex h0
    split at he
    case h_2 => cases he
    rename_i t' m1 e' hb'
    by_cases h2 : e' = 5
    case neg => simp [h2] at he
    subst h2
    simp only [decide_true, cond_true] at he
    split at he
    case h_2 => cases he
    rename_i ats hats
    split at he
    case h_2 => cases he
    rename_i s hs
    cases hok : bytesOk s with
    | false => simp [hok] at he
    | true =>
      by_cases hbb : b = b'
      · simp [hok, hbb] at he
      simp only [hok, hbb, decide_false, cond_true, cond_false, blt_dec] at he
      by_cases hl : l < 10000
      case neg => simp [hl] at he
      simp only [hl, decide_true, cond_true, Option.some.injEq, Prod.mk.injEq] at he
      obtain ⟨rfl, rfl, rfl⟩ := he
      obtain ⟨_, u, hu, q, hq, o', k', rfl, j1, j2, j3, j4, j5⟩ := g5 1 _ h0
      obtain ⟨q2, cs', el', fr', hq2, f1, f2, f3, f4, f5, f6⟩ := r.cells hb'
      rw [hq] at hq2; cases hq2
      obtain ⟨rfl, k3⟩ := f6
      obtain ⟨qb, qo, qn⟩ := q
      simp only at k3 f1 f2 f3 j1 j5 hq
      subst k3
      have hk0 : k' ≠ 0 := by omega
      have ho' : o' = 0 := by have := j1 hk0; omega
      subst ho'
      obtain ⟨l8, n1, n2, n3⟩ := u8_nums ats s hs hok
      obtain ⟨r1, r2⟩ := rdTs_spec _ _ _ _ hats
      have hcell : ∀ (j : Nat) (x : UInt8), l8[j]? = some x → w.cell? ⟨qb, j, none⟩ = some (.int .u8 x.toNat) := by
        intro j x hx
        obtain ⟨_, z, hz, hzr⟩ := f5 _ _ (r2 j _ (n3 j x hx))
        have : z = .int .u8 x.toNat := hzr
        subst this
        rw [cell_at f1]
        simpa using hz
      have hlen : l8.length = l + 1 := by rw [n2]; exact r1
      refine (bldSome pb qb (l + 1) k' cs'.size l8 w ?_ hlen ?_ hk0 (by omega) (by omega) ?_ hcell).mono ?_
      · rw [cell_at g1]
        have : (0 : Nat) + 1 = 1 := rfl
        rw [this] at hu; exact hu
      · intro e; rw [e] at hlen; simp at hlen
      · simp [World.shape?, f1]
      · rintro e w' ⟨rfl, rfl⟩
        have md := Mv.drew r (w.drawn + 1)
        refine ⟨_, c, rfl, md.trans (Mv.drop (w := w.drew) md.r hb' hq (fun x hx => freeze_other _ _ _ _ hx) (by rw [freeze_size]; exact Nat.le_refl _) (freeze_out _ _ _)), .refl c nx, ⟨l8.toArray⟩, rfl, ?_⟩
        simp [strL, n1]
  · rename_i h0
    simp only [Option.some.injEq, Prod.mk.injEq] at he
    obtain ⟨rfl, rfl, rfl⟩ := he
    obtain ⟨_, u, hu, hr⟩ := g5 1 _ h0
    have : u = .slice none 0 0 := hr
    subst this
    refine (bldNil pb w (by rw [cell_at g1]; exact hu)).mono ?_
    rintro e w' ⟨rfl, rfl⟩
    exact ⟨_, c, rfl, Mv.drew r _, .refl c nx, ByteArray.empty, rfl, rfl⟩
  · cases he

end Go.Proofs.YtljkldmjakabdaaGreat.Ev

