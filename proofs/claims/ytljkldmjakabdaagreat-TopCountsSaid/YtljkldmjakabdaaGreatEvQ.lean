/- TopCounts by reckoning: addresses, slices, parts: what needs no memory, go on. -/
import Derived.Test.YtljkldmjakabdaaGreatEvP
namespace Go.Proofs.YtljkldmjakabdaaGreat.Ev
open Go

variable {P : Program}

theorem run_foldlM {α β : Type} (g : α → Sem β) (r : α → β) (w : World) : ∀ (l : List α) (acc : Array β), (∀ x, x ∈ l → (g x).run P w = .ok (r x) w) →
    (l.foldlM (fun (bs : Array β) x => bs.push <$> g x) acc).run P w = .ok (acc ++ (l.map r).toArray) w := by
  intro l
  induction l with
  | nil => intro acc _; simp
  | cons x l ih =>
    intro acc h
    have hx := h x (by simp)
    have e : ((fun (bs : Array β) x => bs.push <$> g x) acc x).run P w = .ok (acc.push (r x)) w := by
      show (acc.push <$> g x).run P w = _
      rw [map_eq_pure_bind]
      simp [hx, Result.andThen]
    rw [List.foldlM_cons, Sem.run_bind, e, Result.andThen_ok, ih _ fun y hy => h y (by simp [hy])]
    simp

theorem run_mapM {α β : Type} (g : α → Sem β) (r : α → β) (w : World) (l : Array α) (h : ∀ x, x ∈ l.toList → (g x).run P w = .ok (r x) w) :
    (l.mapM g).run P w = .ok (l.map r) w := by
  rw [Array.mapM_eq_foldlM, ← Array.foldlM_toList, run_foldlM g r w _ _ h]
  cases l; simp

/-- An operand that may lack. -/
def IsOpt (a : Act) (x : Option Operand) (d n : Nat) : Prop := match x with
  | none => n = d
  | some y => ∃ k, a.eval y = .int k n

theorem isOpt_of {c : Cx} {tm : T AV} {a : Act} (ht : TmR c tm a.tmps) {x : Option Operand} {d n : Nat} (h : optInt tm x d = some n) : IsOpt a x d n := by
  cases x with
  | none => simp [optInt] at h; exact h.symm
  | some y => exact optInt_sound ht h

theorem run_bounds {a : Act} {lo hi mx : Option Operand} {isS : Bool} {len cap L H M : Nat} (hM : IsOpt a mx cap M) (hMc : M ≤ cap) (hH : IsOpt a hi len H) (hx : hi = none → mx = none) (hL : IsOpt a lo 0 L) (h1 : H ≤ M) (h2 : L ≤ H) (w : World) :
    (Instr.sliceBounds isS len cap (lo.map a.eval) (hi.map a.eval) (mx.map a.eval)).run P w = .ok (L, H, M) w := by
  cases mx with
  | none =>
    simp only [IsOpt] at hM; subst hM
    cases hi with
    | none =>
      simp only [IsOpt] at hH; subst hH
      cases lo with
      | none => simp only [IsOpt] at hL; subst hL; simp [Instr.sliceBounds]
      | some z => obtain ⟨k, e⟩ := hL; simp [Instr.sliceBounds, e, run_sliceBound k L _ _ h2, Result.andThen]
    | some y =>
      obtain ⟨k', e'⟩ := hH
      cases lo with
      | none => simp only [IsOpt] at hL; subst hL; simp [Instr.sliceBounds, e', run_sliceBound k' H _ _ h1, Result.andThen]
      | some z => obtain ⟨k, e⟩ := hL; simp [Instr.sliceBounds, e, e', run_sliceBound k' H _ _ h1, run_sliceBound k L _ _ h2, Result.andThen]
  | some x =>
    obtain ⟨k'', e''⟩ := hM
    cases hi with
    | none => simp at hx
    | some y =>
      obtain ⟨k', e'⟩ := hH
      cases lo with
      | none => simp only [IsOpt] at hL; subst hL; simp [Instr.sliceBounds, e', e'', run_sliceBound k'' M _ _ hMc, run_sliceBound k' H _ _ h1, Result.andThen]
      | some z => obtain ⟨k, e⟩ := hL; simp [Instr.sliceBounds, e, e', e'', run_sliceBound k'' M _ _ hMc, run_sliceBound k' H _ _ h1, run_sliceBound k L _ _ h2, Result.andThen]

section pures
variable {c : Cx} {tm : T AV} {a : Act} {o : Oper} {v : AV}

theorem pure_fieldAddr (ht : TmR c tm a.tmps) {s f : Nat} {x : Operand} (ho : o.op = .fieldAddr s x f) {b off d : Nat} (hd : tField P s f = some d) (hx : opnd tm x = some (.at (.ptr b off))) : Yl P c o a (.at (.ptr b (off + d))) := by
  obtain ⟨p, hp, e⟩ : ∃ p, c b = some p ∧ a.eval x = .pointer (some ⟨p.b, p.o + off, none⟩) := opnd_sound ht hx
  unfold tField at hd
  split at hd
  · rename_i fs hu
    simp only [Option.bind_eq_some_iff] at hd
    obtain ⟨fd, hf, i, hi, hd⟩ := hd
    cases hz : Nat.beq i.size 0 with
    | true => simp [hz] at hd
    | false =>
      simp only [hz, cond_false, Option.some.injEq] at hd
      subst hd
      have hz' : ¬ i.size = 0 := Nat.ne_of_beq_eq_false hz
      refine ⟨.pointer (some ⟨p.b, p.o + (off + fd.offset), none⟩), fun w => ?_, p, hp, rfl⟩
      have hadd : Addr.add ⟨p.b, p.o + off, none⟩ fd.offset = ⟨p.b, p.o + (off + fd.offset), none⟩ := by
        unfold Addr.add
        split
        · rename_i h0; rw [h0]; rfl
        · simp; omega
      simp [execOp, ho, e, Instr.fieldAt, run_underlying hu, hf, Instr.sureAddr, fieldPlace, sizeOf, typeInfo, hi, hz', hadd]
  · cases hd

theorem addr_add (b o n : Nat) : Addr.add ⟨b, o, none⟩ n = ⟨b, o + n, none⟩ := by
  unfold Addr.add
  split
  · rename_i h0; rw [h0]; rfl
  · rfl

theorem pure_indexSlice (ht : TmR c tm a.tmps) {t e : Nat} {x ix : Operand} (ho : o.op = .indexAddr t x ix) (hu : P.underlying t = some (.slice e)) {k : IntKind} {i b off l cp z : Nat} {ex : Bool}
    (hi : opnd tm ix = some (.at (.int k (.ofNat i)))) (hx : opnd tm x = some (.at (.slc b off l cp z ex))) (hz : tSize P e = some z) (hl : i < l) : Yl P c o a (.at (.ptr b (off + i * z))) := by
  have ei : a.eval ix = .int k i := opnd_sound ht hi
  obtain ⟨p, hp, o', k', e1, e2, h3, h4, h5, h6⟩ : ∃ p, c b = some p ∧ ∃ o' k', a.eval x = .slice (some ⟨p.b, o', none⟩) l k' ∧ (k' ≠ 0 → o' = p.o + off) ∧ l ≤ cp ∧ cp ≤ k' ∧ (ex = true → k' = cp) ∧ p.o + off + k' * z ≤ p.n := opnd_sound ht hx
  obtain ⟨inf, hinf, hsz⟩ := run_sizeS hz
  have eo := e2 (by omega)
  subst eo
  refine ⟨.pointer (some ⟨p.b, p.o + (off + i * z), none⟩), fun w => ?_, p, hp, rfl⟩
  have hl' : ((i : Int) < (l : Int)) := by omega
  simp [execOp, ho, ei, e1, Instr.indexAt, asIntOf, run_underlying hu, hl, sizeOf, typeInfo, hinf, hsz, addr_add, Nat.add_assoc]

theorem pure_indexArray (ht : TmR c tm a.tmps) {t e n : Nat} {x ix : Operand} (ho : o.op = .indexAddr t x ix) (hu : P.underlying t = some (.array n e)) {k : IntKind} {i b off z : Nat}
    (hi : opnd tm ix = some (.at (.int k (.ofNat i)))) (hx : opnd tm x = some (.at (.ptr b off))) (hz : tSize P e = some z) (hl : i < n) : Yl P c o a (.at (.ptr b (off + i * z))) := by
  have ei : a.eval ix = .int k i := opnd_sound ht hi
  obtain ⟨p, hp, e1⟩ : ∃ p, c b = some p ∧ a.eval x = .pointer (some ⟨p.b, p.o + off, none⟩) := opnd_sound ht hx
  obtain ⟨inf, hinf, hsz⟩ := run_sizeS hz
  refine ⟨.pointer (some ⟨p.b, p.o + (off + i * z), none⟩), fun w => ?_, p, hp, rfl⟩
  simp [execOp, ho, ei, e1, Instr.indexAt, Instr.sureAddr, asIntOf, run_underlying hu, hl, sizeOf, typeInfo, hinf, hsz, addr_add, Nat.add_assoc]

theorem pure_index (ht : TmR c tm a.tmps) {t e n : Nat} {x ix : Operand} (ho : o.op = .index t x ix) (hu : P.underlying t = some (.array n e)) {k : IntKind} {i : Nat} {cs : List At} {r : At}
    (hi : opnd tm ix = some (.at (.int k (.ofNat i)))) (hx : opnd tm x = some (.agg cs)) (hz : tSize P e = some 1) (hg : tAgg P e = some false) (hl : i < n) (hr : cs[i]? = some r) : Yl P c o a (.at r) := by
  have ei : a.eval ix = .int k i := opnd_sound ht hi
  obtain ⟨vs, e1, h2⟩ : ∃ vs, a.eval x = .agg vs ∧ All2 (AtR c) cs vs.toList := opnd_sound ht hx
  obtain ⟨y, hy, hyr⟩ := h2.get i r hr
  obtain ⟨inf, hinf, hsz⟩ := run_sizeS hz
  have hy' : vs[i]? = some y := by simpa using hy
  refine ⟨y, fun w => ?_, hyr⟩
  simp [execOp, ho, ei, e1, Instr.index, asIntOf, run_underlying hu, hl, sizeOf, typeInfo, hinf, hsz, part, run_isAgg hg, hy', Result.andThen]

theorem pure_indexStr (ht : TmR c tm a.tmps) {t : Nat} {x ix : Operand} (ho : o.op = .index t x ix) (hu : P.underlying t = some .string) {k : IntKind} {i : Nat} {s : List Nat} {n : Nat}
    (hi : opnd tm ix = some (.at (.int k (.ofNat i)))) (hx : opnd tm x = some (.at (.str s))) (hr : s[i]? = some n) : Yl P c o a (.at (.int .u8 n)) := by
  have ei : a.eval ix = .int k i := opnd_sound ht hi
  obtain ⟨u, e1, h2⟩ : ∃ u, a.eval x = .string u ∧ strL u = s := opnd_sound ht hx
  subst h2
  simp only [strL, List.getElem?_map, Option.map_eq_some_iff] at hr
  obtain ⟨y, hy, rfl⟩ := hr
  have hy' : u[i]? = some y := by
    have : u.data[i]? = some y := by simpa using hy
    obtain ⟨hlt, he⟩ := Array.getElem?_eq_some_iff.1 this
    have hlt' : i < u.size := hlt
    rw [getElem?_pos u i hlt']
    exact congrArg some he
  refine ⟨.int .u8 y.toNat, fun w => ?_, rfl⟩
  simp [execOp, ho, ei, e1, Instr.index, asIntOf, run_underlying hu, hy']

theorem pure_slice (ht : TmR c tm a.tmps) {t e : Nat} {x : Operand} {lo hi mx : Option Operand} (ho : o.op = .slice t x lo hi mx) (hu : P.underlying t = some (.slice e)) {b off l cp z L H M : Nat} {ex ex' : Bool}
    (hx : opnd tm x = some (.at (.slc b off l cp z ex))) (hz : tSize P e = some z)
    (hm : (mx = none ∧ M = cp ∧ ex' = ex) ∨ (∃ y, mx = some y ∧ optInt tm mx 0 = some M ∧ M ≤ cp ∧ ex' = true ∧ hi ≠ none)) (hh : optInt tm hi l = some H) (hl : optInt tm lo 0 = some L) (h1 : H ≤ M) (h2 : L ≤ H) :
    Yl P c o a (.at (.slc b (off + L * z) (H - L) (M - L) z ex')) := by
  obtain ⟨p, hp, o', k', e1, e2, h3, h4, h5, h6⟩ : ∃ p, c b = some p ∧ ∃ o' k', a.eval x = .slice (some ⟨p.b, o', none⟩) l k' ∧ (k' ≠ 0 → o' = p.o + off) ∧ l ≤ cp ∧ cp ≤ k' ∧ (ex = true → k' = cp) ∧ p.o + off + k' * z ≤ p.n := opnd_sound ht hx
  obtain ⟨inf, hinf, hsz⟩ := run_sizeS hz
  obtain ⟨M', hM1, hM2, hM3, hM4, hM5⟩ : ∃ M', IsOpt a mx k' M' ∧ M' ≤ k' ∧ M ≤ M' ∧ (ex' = true → M' = M) ∧ (hi = none → mx = none) := by
    rcases hm with ⟨rfl, rfl, rfl⟩ | ⟨y, rfl, hM, hc, rfl, hn⟩
    · exact ⟨k', rfl, Nat.le_refl _, h4, h5, fun _ => rfl⟩
    · exact ⟨M, isOpt_of ht (x := some y) (d := k') hM, Nat.le_trans hc h4, Nat.le_refl _, fun _ => rfl, fun h => absurd h hn⟩
  have hb := fun w => run_bounds (P := P) (isS := true) hM1 hM2 (isOpt_of ht hh) hM5 (isOpt_of ht hl) (Nat.le_trans h1 hM3) h2 w
  refine ⟨.slice (some (if M' = L then ⟨p.b, o', none⟩ else Addr.add ⟨p.b, o', none⟩ (L * z))) (H - L) (M' - L), fun w => ?_, p, hp, (if M' = L then o' else o' + L * z), M' - L, ?_, ?_, by omega, by omega, ?_, ?_⟩
  · simp only [execOp, ho, Instr.sliceAt, Sem.run_bind, run_underlying hu, Result.andThen_ok, Instr.slice, e1, hb w, sizeOf, typeInfo, run_program, hinf, Sem.run_pure, hsz]
    congr 3
    split <;> rfl
  · split
    · rfl
    · rw [addr_add]
  · intro hk
    rw [if_neg (by omega), e2 (by omega)]
    omega
  · intro he; have := hM4 he; omega
  · have e3 : L * z + (M' - L) * z = M' * z := by rw [← Nat.add_mul]; congr 1; omega
    have e4 : M' * z ≤ k' * z := Nat.mul_le_mul_right _ hM2
    omega

theorem pure_sliceNil (ht : TmR c tm a.tmps) {t e : Nat} {x : Operand} {lo hi : Option Operand} (ho : o.op = .slice t x lo hi none) (hu : P.underlying t = some (.slice e)) (hx : opnd tm x = some (.at .nils))
    (hz : ∃ z, tSize P e = some z) (hh : optInt tm hi 0 = some 0) (hl : optInt tm lo 0 = some 0) : Yl P c o a (.at .nils) := by
  have e1 : a.eval x = .slice none 0 0 := opnd_sound ht hx
  obtain ⟨z, hz⟩ := hz
  obtain ⟨inf, hinf, hsz⟩ := run_sizeS hz
  have hb := fun w => run_bounds (P := P) (a := a) (mx := none) (isS := true) (cap := 0) (M := 0) rfl (Nat.le_refl _) (isOpt_of ht hh) (fun _ => rfl) (isOpt_of ht hl) (Nat.le_refl _) (Nat.le_refl _) w
  refine ⟨.slice none 0 0, fun w => ?_, rfl⟩
  simp only [execOp, ho, Instr.sliceAt, Sem.run_bind, run_underlying hu, Result.andThen_ok, Instr.slice, e1, hb w, sizeOf, typeInfo, run_program, hinf, Sem.run_pure, hsz]
  rfl

theorem pure_sliceArray (ht : TmR c tm a.tmps) {t e n : Nat} {x : Operand} {lo hi : Option Operand} (ho : o.op = .slice t x lo hi none) (hu : P.underlying t = some (.array n e)) {b off z L H : Nat}
    (hx : opnd tm x = some (.at (.ptr b off))) (hz : tSize P e = some z) (hh : optInt tm hi n = some H) (hl : optInt tm lo 0 = some L) (h1 : H ≤ n) (h2 : L ≤ H) (hfit : ∀ p, c b = some p → p.o + off + n * z ≤ p.n) :
    Yl P c o a (.at (.slc b (off + L * z) (H - L) (n - L) z true)) := by
  obtain ⟨p, hp, e1⟩ : ∃ p, c b = some p ∧ a.eval x = .pointer (some ⟨p.b, p.o + off, none⟩) := opnd_sound ht hx
  obtain ⟨inf, hinf, hsz⟩ := run_sizeS hz
  have hb := fun w => run_bounds (P := P) (a := a) (mx := none) (isS := false) (cap := n) (M := n) rfl (Nat.le_refl _) (isOpt_of ht hh) (fun _ => rfl) (isOpt_of ht hl) h1 h2 w
  refine ⟨.slice (some (if n = L then ⟨p.b, p.o + off, none⟩ else Addr.add ⟨p.b, p.o + off, none⟩ (L * z))) (H - L) (n - L), fun w => ?_, p, hp, (if n = L then p.o + off else p.o + off + L * z), n - L, ?_, ?_, by omega, by omega, fun _ => rfl, ?_⟩
  · simp only [execOp, ho, Instr.sliceAt, Sem.run_bind, run_underlying hu, Result.andThen_ok, e1, Instr.sureAddr, hb w, sizeOf, typeInfo, run_program, hinf, Sem.run_pure, hsz]
  · split
    · rfl
    · rw [addr_add]
  · intro hk
    rw [if_neg (by omega)]
    omega
  · have e3 : L * z + (n - L) * z = n * z := by rw [← Nat.add_mul]; congr 1; omega
    have := hfit p hp
    omega

theorem pure_build (ht : TmR c tm a.tmps) {t : Nat} {parts : Array (Nat × Operand)} (ho : o.op = .build t parts) {z l : List At} {f : T At} (hk : tOk P t = true) (hz : tZero P t = some z)
    (hf : fillA (tFieldSize P t) z.length tm parts.toList (T.ofList z 0 .leaf) = some f) (hl : rdTs f 0 z.length = some l) : Yl P c o a (.agg l) := by
  obtain ⟨i, v0, hi, hv0, hr⟩ := tZero_sound hz
  have hlen := (hr c).length
  simp only [Array.length_toList] at hlen
  rw [hlen] at hf hl
  have hparts : (parts.map fun (i, x) => (i, a.eval x)).toList = parts.toList.map fun p => (p.1, a.eval p.2) := by simp
  have hcl := ClR.list (hr c)
  unfold tOk at hk
  split at hk
  · rename_i fs hu
    have hsz : ∀ x, x ∈ fs.toList → ∃ i, P.info? x.type = some i := by
      intro x hx
      have := List.all_eq_true.1 hk x hx
      exact Option.isSome_iff_exists.1 this
    obtain ⟨cs', g1, g2, g3⟩ := fillA_sound ht (tFieldSize P t) ((fs.map fun f => (f.offset, P.cellsOf f.type))[·]?) (by
      intro j x hx
      simp only [tFieldSize, hu, Option.bind_eq_some_iff, Option.map_eq_some_iff] at hx
      obtain ⟨fd, h1, i', h2, rfl⟩ := hx
      simp [h1, Program.cellsOf, h2]) parts.toList _ f _ hcl hf
    refine ⟨.agg cs', fun w => ?_, cs', rfl, ?_⟩
    · have hm := run_mapM (P := P) (fun f : Field => do pure (f.offset, ← sizeOf f.type)) (fun f => (f.offset, P.cellsOf f.type)) w fs (by
        intro x hx
        obtain ⟨i', hi'⟩ := hsz x hx
        simp [sizeOf, typeInfo, hi', Program.cellsOf])
      simp only [execOp, ho, Instr.build]
      simp only [Sem.run_bind, run_zero hi hv0, run_underlying hu, Result.andThen_ok, hm, hparts, g1]
      rfl
    · rw [← g3] at hl
      exact g2.all hl
  · rename_i n e hu
    obtain ⟨i', hi'⟩ := Option.isSome_iff_exists.1 hk
    obtain ⟨cs', g1, g2, g3⟩ := fillA_sound ht (tFieldSize P t) (fun j => some (j * i'.size, i'.size)) (by
      intro j x hx
      simp only [tFieldSize, hu, hi', Option.map_some, Option.some.injEq] at hx
      rw [← hx]) parts.toList _ f _ hcl hf
    refine ⟨.agg cs', fun w => ?_, cs', rfl, ?_⟩
    · simp only [execOp, ho, Instr.build]
      simp only [Sem.run_bind, run_zero hi hv0, run_underlying hu, Result.andThen_ok, sizeOf, typeInfo, run_program, hi', Sem.run_pure, hparts, g1]
    · rw [← g3] at hl
      exact g2.all hl
  · cases hk

theorem pure_lenSlice (ht : TmR c tm a.tmps) {x : Operand} {t e : Nat} {args : Array Operand} {ats : Array Nat} (ho : o.op = .call { callee := .builtin .len, args := args, argTypes := ats }) (h1 : args.toList = [x]) (h2 : ats[0]? = some t)
    (hu : P.underlying t = some (.slice e)) {b off l k z : Nat} {ex : Bool} (hx : opnd tm x = some (.at (.slc b off l k z ex))) : Yl P c o a (.at (.int .i64 l)) := by
  have e1 : args = #[x] := by cases args; simpa using h1
  subst e1
  obtain ⟨p, hp, o', k', e1, _⟩ : ∃ p, c b = some p ∧ ∃ o' k', a.eval x = .slice (some ⟨p.b, o', none⟩) l k' ∧ (k' ≠ 0 → o' = p.o + off) ∧ l ≤ k ∧ k ≤ k' ∧ (ex = true → k' = k) ∧ p.o + off + k' * z ≤ p.n := opnd_sound ht hx
  exact ⟨.int .i64 l, fun w => by simp [execOp, ho, resolve, invoke, builtin, Builtin.len_, h2, run_underlying hu, e1, goInt, Result.andThen], rfl⟩

theorem pure_lenNil (ht : TmR c tm a.tmps) {x : Operand} {t e : Nat} {args : Array Operand} {ats : Array Nat} (ho : o.op = .call { callee := .builtin .len, args := args, argTypes := ats }) (h1 : args.toList = [x]) (h2 : ats[0]? = some t)
    (hu : P.underlying t = some (.slice e)) (hx : opnd tm x = some (.at .nils)) : Yl P c o a (.at (.int .i64 0)) := by
  have e1 : args = #[x] := by cases args; simpa using h1
  subst e1
  have e1 : a.eval x = .slice none 0 0 := opnd_sound ht hx
  exact ⟨.int .i64 0, fun w => by simp [execOp, ho, resolve, invoke, builtin, Builtin.len_, h2, run_underlying hu, e1, goInt, Result.andThen], rfl⟩

theorem pure_lenStr (ht : TmR c tm a.tmps) {x : Operand} {t : Nat} {args : Array Operand} {ats : Array Nat} (ho : o.op = .call { callee := .builtin .len, args := args, argTypes := ats }) (h1 : args.toList = [x]) (h2 : ats[0]? = some t)
    (hu : P.underlying t = some .string) {s : List Nat} (hx : opnd tm x = some (.at (.str s))) : Yl P c o a (.at (.int .i64 s.length)) := by
  have e1 : args = #[x] := by cases args; simpa using h1
  subst e1
  obtain ⟨u, e1, h3⟩ : ∃ u, a.eval x = .string u ∧ strL u = s := opnd_sound ht hx
  subst h3
  exact ⟨.int .i64 u.size, fun w => by simp [execOp, ho, resolve, invoke, builtin, Builtin.len_, h2, run_underlying hu, e1, goInt, Result.andThen], by simp [AvR, AtR, strL]⟩

theorem pure_cap (ht : TmR c tm a.tmps) {x : Operand} {t e : Nat} {args : Array Operand} {ats : Array Nat} (ho : o.op = .call { callee := .builtin .cap, args := args, argTypes := ats }) (h1 : args.toList = [x]) (h2 : ats[0]? = some t)
    (hu : P.underlying t = some (.slice e)) {b off l k z : Nat} (hx : opnd tm x = some (.at (.slc b off l k z true))) : Yl P c o a (.at (.int .i64 k)) := by
  have e1 : args = #[x] := by cases args; simpa using h1
  subst e1
  obtain ⟨p, hp, o', k', e1, _, _, _, e2, _⟩ : ∃ p, c b = some p ∧ ∃ o' k', a.eval x = .slice (some ⟨p.b, o', none⟩) l k' ∧ (k' ≠ 0 → o' = p.o + off) ∧ l ≤ k ∧ k ≤ k' ∧ (true = true → k' = k) ∧ p.o + off + k' * z ≤ p.n := opnd_sound ht hx
  have := e2 rfl; subst this
  exact ⟨.int .i64 k', fun w => by simp [execOp, ho, resolve, invoke, builtin, Builtin.cap_, h2, run_underlying hu, e1, goInt, Result.andThen], rfl⟩

theorem pure_capNil (ht : TmR c tm a.tmps) {x : Operand} {t e : Nat} {args : Array Operand} {ats : Array Nat} (ho : o.op = .call { callee := .builtin .cap, args := args, argTypes := ats }) (h1 : args.toList = [x]) (h2 : ats[0]? = some t)
    (hu : P.underlying t = some (.slice e)) (hx : opnd tm x = some (.at .nils)) : Yl P c o a (.at (.int .i64 0)) := by
  have e1 : args = #[x] := by cases args; simpa using h1
  subst e1
  have e1 : a.eval x = .slice none 0 0 := opnd_sound ht hx
  exact ⟨.int .i64 0, fun w => by simp [execOp, ho, resolve, invoke, builtin, Builtin.cap_, h2, run_underlying hu, e1, goInt, Result.andThen], rfl⟩

theorem pure_min (ht : TmR c tm a.tmps) {x y : Operand} {args : Array Operand} {ats : Array Nat} (ho : o.op = .call { callee := .builtin .min, args := args, argTypes := ats }) (h1 : args.toList = [x, y])
    {k k' : IntKind} {m n : Int} (hx : opnd tm x = some (.at (.int k m))) (hy : opnd tm y = some (.at (.int k' n))) : Yl P c o a (.at (.int k (bif iLt n m then n else m))) := by
  have e1 : args = #[x, y] := by cases args; simpa using h1
  subst e1
  have e1 : a.eval x = .int k m := opnd_sound ht hx
  have e2 : a.eval y = .int k' n := opnd_sound ht hy
  refine ⟨.int k (if n < m then n else m), fun w => by simp [execOp, ho, resolve, invoke, builtin, Builtin.min_, e1, e2, Builtin.min2, Result.andThen], ?_⟩
  show _ = _
  rw [iLt_eq]; by_cases h : n < m <;> simp [h]

theorem pure_max (ht : TmR c tm a.tmps) {x y : Operand} {args : Array Operand} {ats : Array Nat} (ho : o.op = .call { callee := .builtin .max, args := args, argTypes := ats }) (h1 : args.toList = [x, y])
    {k k' : IntKind} {m n : Int} (hx : opnd tm x = some (.at (.int k m))) (hy : opnd tm y = some (.at (.int k' n))) : Yl P c o a (.at (.int k (bif iLt m n then n else m))) := by
  have e1 : args = #[x, y] := by cases args; simpa using h1
  subst e1
  have e1 : a.eval x = .int k m := opnd_sound ht hx
  have e2 : a.eval y = .int k' n := opnd_sound ht hy
  refine ⟨.int k (if n > m then n else m), fun w => by simp [execOp, ho, resolve, invoke, builtin, Builtin.max_, e1, e2, Builtin.max2, Result.andThen], ?_⟩
  show _ = _
  rw [iLt_eq]; by_cases h : m < n <;> simp [h]

theorem szIs_eq {e z : Nat} (h : szIs P e z = true) : tSize P e = some z := by
  unfold szIs at h
  split at h
  · rename_i s hs; rw [hs, Nat.eq_of_beq_eq_true h]
  · cases h

theorem slcA_eq {b off m z : Nat} {ex : Bool} {H L : Option Nat} {v : AV} (h : slcA b off m z ex H L = some v) : ∃ h' l', H = some h' ∧ L = some l' ∧ h' ≤ m ∧ l' ≤ h' ∧ v = .at (.slc b (off + l' * z) (h' - l') (m - l') z ex) := by
  unfold slcA at h
  split at h
  · rename_i h' l'
    simp only [ble_dec] at h
    by_cases h1 : h' ≤ m
    · by_cases h2 : l' ≤ h'
      · simp only [h1, h2, decide_true, cond_true, Option.some.injEq] at h
        exact ⟨h', l', rfl, rfl, h1, h2, h.symm⟩
      · simp [h1, h2] at h
    · simp [h1] at h
  · cases h

theorem pure_sound (ht : TmR c tm a.tmps) (h : pureOp P o tm = some v) : Yl P c o a v := by
  unfold pureOp at h
  split at h
  case h_1 x ho => exact pure_move ht (.inl ho) h
  case h_2 x ho => exact pure_move ht (.inr ho) h
  case h_3 q x y ho =>
    split at h
    · rename_i t hq; exact pure_pick ht ho hq h
    · cases h
  case h_4 t parts ho =>
    cases hk : tOk P t with
    | false => simp [hk] at h
    | true =>
      simp only [hk, cond_true] at h
      split at h
      · rename_i z hz
        split at h
        · rename_i f hf
          split at h
          · rename_i l hl
            simp at h; subst h
            exact pure_build ht ho hk hz hf hl
          · cases h
        · cases h
      · cases h
  case h_5 x ho =>
    split at h
    · rename_i b off hx
      simp at h; subst h
      exact pure_nilCheck ht ho hx
    · cases h
  case h_6 op t x y t' ho =>
    split at h
    · rename_i p q hx hy
      split at h
      · rename_i r hr
        simp at h; subst h
        exact pure_bin ht ho hx hy hr
      · cases h
    · cases h
  case h_7 op t x ho =>
    split at h
    · rename_i b hx; simp at h; subst h; exact pure_un ht ho hx (.inl ⟨b, rfl, rfl, rfl⟩)
    · rename_i k n hx; simp at h; subst h; exact pure_un ht ho hx (.inr (.inl ⟨k, n, rfl, rfl, by simp⟩))
    · rename_i k n hx; simp only [Option.some.injEq] at h; subst h; exact pure_un ht ho hx (.inr (.inr ⟨k, n, rfl, rfl, rfl⟩))
    · cases h
  case h_8 s d x ho =>
    split at h
    · rename_i k'' k k' n hs hd hx; simp at h; subst h; exact pure_convert ht ho hs hd hx
    · cases h
  case h_9 f first captured ho =>
    split at h
    · rename_i x h1 h2
      split at h
      · rename_i b off hx; simp at h; subst h; exact pure_makeFunc ht ho h1 h2 hx
      · cases h
    · cases h
  case h_10 s x f ho =>
    split at h
    · rename_i d b off hd hx; simp at h; subst h; exact pure_fieldAddr ht ho hd hx
    · cases h
  case h_11 t x ix ho =>
    split at h
    · rename_i k i e b off l cp z ex hi hu hx
      cases hz : szIs P e z with
      | false => simp [hz] at h
      | true =>
        simp only [hz, cond_true, blt_dec] at h
        by_cases hl : i < l
        · simp [hl] at h; subst h; exact pure_indexSlice ht ho hu hi hx (szIs_eq hz) hl
        · simp [hl] at h
    · rename_i k i l e b off hi hu hx
      split at h
      · rename_i z hz
        simp only [blt_dec] at h
        by_cases hl : i < l
        · simp [hl] at h; subst h; exact pure_indexArray ht ho hu hi hx hz hl
        · simp [hl] at h
      · cases h
    · cases h
  case h_12 t x ix ho =>
    split at h
    · rename_i k i l e cs hi hu hx
      split at h
      · rename_i hg
        cases hz : szIs P e 1 with
        | false => simp [hz] at h
        | true =>
          simp only [hz, cond_true, blt_dec] at h
          by_cases hl : i < l
          · simp only [hl, decide_true, cond_true] at h
            split at h
            · rename_i r hr; simp at h; subst h; exact pure_index ht ho hu hi hx (szIs_eq hz) hg hl hr
            · cases h
          · simp [hl] at h
      · cases h
    · rename_i k i s hi hu hx
      split at h
      · rename_i n hn; simp at h; subst h; exact pure_indexStr ht ho hu hi hx hn
      · cases h
    · cases h
  case h_13 t x lo hi mx ho =>
    split at h
    · rename_i e b off l cp z ex hu hx
      cases hz : szIs P e z with
      | false => simp [hz] at h
      | true =>
        simp only [hz, cond_true] at h
        split at h
        · obtain ⟨H, L, h1, h2, h3, h4, rfl⟩ := slcA_eq h
          exact pure_slice ht ho hu hx (szIs_eq hz) (.inl ⟨rfl, rfl, rfl⟩) h1 h2 h3 h4
        · split at h
          · rename_i m hm
            simp only [ble_dec] at h
            by_cases hc : m ≤ cp
            · simp only [hc, decide_true, cond_true] at h
              obtain ⟨H, L, h1, h2, h3, h4, rfl⟩ := slcA_eq h
              exact pure_slice ht ho hu hx (szIs_eq hz) (.inr ⟨_, rfl, hm, hc, rfl, by simp⟩) h1 h2 h3 h4
            · simp [hc] at h
          · cases h
        · cases h
    · rename_i e hu hx
      split at h
      · rename_i z hz hh hl
        simp at h; subst h
        exact pure_sliceNil ht ho hu hx ⟨z, hz⟩ hh hl
      · cases h
    · cases h
  case h_14 t i ho =>
    split at h
    · rename_i l hx
      split at h
      · rename_i cs g hi; exact pure_extract ht ho hx hi h
      · cases h
    · cases h
  case h_15 b args ats ho =>
    split at h
    · rename_i x h1
      split at h
      · rename_i e b off l k z ex hu hx
        simp only [Option.bind_eq_some_iff] at hu
        obtain ⟨t, ht', hu⟩ := hu
        simp at h; subst h
        exact pure_lenSlice ht ho h1 ht' hu hx
      · rename_i e hu hx
        simp only [Option.bind_eq_some_iff] at hu
        obtain ⟨t, ht', hu⟩ := hu
        simp at h; subst h
        exact pure_lenNil ht ho h1 ht' hu hx
      · rename_i s hu hx
        simp only [Option.bind_eq_some_iff] at hu
        obtain ⟨t, ht', hu⟩ := hu
        simp at h; subst h
        exact pure_lenStr ht ho h1 ht' hu hx
      · cases h
    · rename_i x h1
      split at h
      · rename_i e b off l k z hu hx
        simp only [Option.bind_eq_some_iff] at hu
        obtain ⟨t, ht', hu⟩ := hu
        simp at h; subst h
        exact pure_cap ht ho h1 ht' hu hx
      · rename_i e hu hx
        simp only [Option.bind_eq_some_iff] at hu
        obtain ⟨t, ht', hu⟩ := hu
        simp at h; subst h
        exact pure_capNil ht ho h1 ht' hu hx
      · cases h
    · rename_i x y h1
      split at h
      · rename_i k m k' n hx hy
        simp only [Option.some.injEq] at h; subst h
        exact pure_min ht ho h1 hx hy
      · cases h
    · rename_i x y h1
      split at h
      · rename_i k m k' n hx hy
        simp only [Option.some.injEq] at h; subst h
        exact pure_max ht ho h1 hx hy
      · cases h
    · cases h
  case h_16 => cases h

end pures

end Go.Proofs.YtljkldmjakabdaaGreat.Ev

