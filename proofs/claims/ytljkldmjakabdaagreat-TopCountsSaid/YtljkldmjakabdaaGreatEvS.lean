/- TopCounts by reckoning: reads and new blocks do as reckoned. -/
import Derived.Test.YtljkldmjakabdaaGreatEvR
namespace Go.Proofs.YtljkldmjakabdaaGreat.Ev
open Go

variable {P : Program}

/-- An operation yields, in this memory, and leaves it. -/
def YlW (P : Program) (c : Cx) (o : Oper) (a : Act) (v : AV) (w : World) : Prop := ∃ x, (execOp a.eval o).run P w = .ok (.value x) w ∧ AvR c v x

section reads
variable {c : Cx} {tm : T AV} {a : Act} {o : Oper} {v : AV} {h : Hp} {w : World}

theorem read_load1 (ht : TmR c tm a.tmps) (r : R c h.get w) {t : Nat} {x : Operand} (ho : o.op = .load t x) {b off : Nat} (hx : opnd tm x = some (.at (.ptr b off))) (hg : tAgg P t = some false) {y : At} (hy : rd h b off = some y) : YlW P c o a (.at y) w := by
  obtain ⟨p, hp, e⟩ : ∃ p, c b = some p ∧ a.eval x = .pointer (some ⟨p.b, p.o + off, none⟩) := opnd_sound ht hx
  obtain ⟨z, hz, hr⟩ := rd_sound r hy hp
  refine ⟨z, ?_, hr⟩
  simp [execOp, ho, e, Instr.loadAt, Instr.sureAddr, loadVar, run_isAgg hg, hz, Result.andThen]

theorem read_loadN (ht : TmR c tm a.tmps) (r : R c h.get w) {t n : Nat} {x : Operand} (ho : o.op = .load t x) {b off : Nat} (hx : opnd tm x = some (.at (.ptr b off))) (hg : tAgg P t = some true) (hn : tSize P t = some n) {l : List At} (hl : rdN h b off n = some l) : YlW P c o a (.agg l) w := by
  obtain ⟨p, hp, e⟩ : ∃ p, c b = some p ∧ a.eval x = .pointer (some ⟨p.b, p.o + off, none⟩) := opnd_sound ht hx
  obtain ⟨vs, h1, h2, h3⟩ := rdN_sound r hl hp
  have h4 := run_loadCells_list (P := P) (w := w) ⟨p.b, p.o + off, none⟩ vs h2
  rw [h1] at h4
  refine ⟨.agg vs.toArray, ?_, vs.toArray, rfl, by simpa using h3⟩
  simp [execOp, ho, e, Instr.loadAt, Instr.sureAddr, loadVar, run_isAgg hg, run_size hn, h4, Result.andThen]

theorem bytesOfAts_sound : ∀ (l : List At) (s : List Nat) (vs : List Value), bytesOfAts l = some s → All2 (AtR c) l vs → vs = s.map fun n : Nat => Value.int .u8 (n : Int) := by
  intro l
  induction l with
  | nil => intro s vs hs hv; simp [bytesOfAts] at hs; subst hs; cases hv; rfl
  | cons x l ih =>
    intro s vs hs hv
    cases x with
    | int k n =>
      cases n with
      | ofNat n =>
        cases k <;> simp only [bytesOfAts, reduceCtorEq, Option.map_eq_some_iff] at hs
        obtain ⟨s', hs', rfl⟩ := hs
        cases hv with
        | cons r hv =>
          simp only [AtR] at r; subst r
          rw [ih _ _ hs' hv]; rfl
      | negSucc n => simp [bytesOfAts] at hs
    | _ => simp [bytesOfAts] at hs

theorem push_list : ∀ (ns : List Nat) (acc : ByteArray), (∀ n ∈ ns, n < 256) → strL (ns.foldl (fun r n => r.push (UInt8.ofNat n)) acc) = strL acc ++ ns := by
  intro ns
  induction ns with
  | nil => intro acc _; simp
  | cons n ns ih =>
    intro acc hn
    rw [List.foldl_cons, ih _ fun m hm => hn m (by simp [hm])]
    have : n < 256 := hn n (by simp)
    simp [strL, ByteArray.push, UInt8.toNat_ofNat', Nat.mod_eq_of_lt this]

theorem read_bytes (ht : TmR c tm a.tmps) (r : R c h.get w) {s d e : Nat} {x : Operand} (ho : o.op = .convert s d x) (hs : P.underlying s = some (.slice e)) (he : P.underlying e = some (.int .u8)) (hd : P.underlying d = some .string) {b off l k z : Nat} {ex : Bool}
    (hx : opnd tm x = some (.at (.slc b off l k z ex))) {cs : List At} (hl : rdN h b off l = some cs) {t : List Nat} (hb : bytesOfAts cs = some t) (h256 : ∀ n ∈ t, n < 256) : YlW P c o a (.at (.str t)) w := by
  obtain ⟨p, hp, o', k', e1, e2, h3, h4, h5, h6⟩ : ∃ p, c b = some p ∧ ∃ o' k', a.eval x = .slice (some ⟨p.b, o', none⟩) l k' ∧ (k' ≠ 0 → o' = p.o + off) ∧ l ≤ k ∧ k ≤ k' ∧ (ex = true → k' = k) ∧ p.o + off + k' * z ≤ p.n := opnd_sound ht hx
  obtain ⟨vs, g1, g2, g3⟩ := rdN_sound r hl hp
  have hv := bytesOfAts_sound _ _ _ hb g3
  have hld : (loadCells ⟨p.b, o', none⟩ l).run P w = .ok (t.map fun n : Nat => Value.int .u8 (n : Int)).toArray w := by
    by_cases hk : k' = 0
    · have hl0 : l = 0 := by omega
      subst hl0
      have : vs = [] := List.eq_nil_of_length_eq_zero g1
      rw [this] at hv
      rw [← hv]
      rfl
    · rw [e2 hk]
      have h4 := run_loadCells_list (P := P) (w := w) ⟨p.b, p.o + off, none⟩ vs g2
      rw [g1, hv] at h4
      exact h4
  have hrun := run_bytesToString (P := P) w ⟨p.b, o', none⟩ l k' (t.map fun n : Nat => (n : Int)) (by rw [hld]; simp)
  refine ⟨.string ((t.map fun n : Nat => (n : Int)).foldl (fun r n => r.push (UInt8.ofNat n.toNat)) ByteArray.empty), ?_, ⟨_, rfl, ?_⟩⟩
  · simp only [execOp, ho, e1, convert, Sem.run_bind, run_underlying hs, run_underlying hd, run_underlying he, Result.andThen_ok, hrun]
    rfl
  · rw [List.foldl_map]
    simp only [Int.toNat_natCast]
    rw [push_list _ _ h256]
    rfl

theorem read_bytesNil (ht : TmR c tm a.tmps) {s d e : Nat} {x : Operand} (ho : o.op = .convert s d x) (hs : P.underlying s = some (.slice e)) (he : P.underlying e = some (.int .u8)) (hd : P.underlying d = some .string) (hx : opnd tm x = some (.at .nils)) : YlW P c o a (.at (.str [])) w := by
  have e1 : a.eval x = .slice none 0 0 := opnd_sound ht hx
  refine ⟨.string .empty, ?_, ⟨_, rfl, rfl⟩⟩
  simp only [execOp, ho, e1, convert, Sem.run_bind, run_underlying hs, run_underlying hd, run_underlying he, Result.andThen_ok]
  rfl

end reads

section allocs
variable {c : Cx} {tm : T AV} {a : Act} {o : Oper} {h : Hp} {w : World}

/-- A new block is made, in whatever memory. -/
def Alc (P : Program) (c : Cx) (o : Oper) (a : Act) (i : Nat) (v : AV) (B : Blk) : Prop :=
  ∀ w, ∃ x ob n, (execOp a.eval o).run P w = .ok (.value x) (w.alloc ob) ∧ ObjR (c.put i ⟨w.heap.size, 0, n⟩) ⟨w.heap.size, 0, n⟩ B (some ob) ∧ AvR (c.put i ⟨w.heap.size, 0, n⟩) v x

theorem obj_cells {c : Cx} {b : Nat} {t : T At} {cs : Array Value} {e n : Nat} (hcl : ClR c t cs) (hn : n = cs.size) : ObjR c ⟨b, 0, cs.size⟩ (.cells t n (.var e)) (some (.cells cs e (0, 0))) := by
  subst hn
  refine ⟨cs, e, (0, 0), rfl, rfl, by simp, .inl rfl, fun i a hi => ?_, rfl, rfl, rfl, rfl⟩
  obtain ⟨v, hv, hr⟩ := hcl i a hi
  exact ⟨(Array.getElem?_eq_some_iff.1 hv).1, v, by simpa using hv, hr⟩

theorem ClR.mono {c c' : Cx} (hl : c.le c') {t : T At} {cs : Array Value} (h : ClR c t cs) : ClR c' t cs := fun i a hi => let ⟨v, h1, h2⟩ := h i a hi; ⟨v, h1, h2.mono hl⟩

theorem alc_alloc {i t : Nat} (hi : c i = none) (ho : o.op = .alloc t) {z : List At} (hz : tZero P t = some z) : Alc P c o a i (.at (.ptr i 0)) (.cells (T.ofList z 0 .leaf) z.length (.var t)) := by
  intro w
  obtain ⟨inf, v, h1, h2, h3⟩ := tZero_sound hz
  refine ⟨.pointer (some ⟨w.heap.size, 0, none⟩), .cells v.cells t (0, 0), v.cells.size, ?_, ?_, ⟨_, Cx.put_same _ _ _, rfl⟩⟩
  · simp [execOp, ho, Instr.alloc, run_zero h1 h2, newVar, newRow, Result.andThen]
  · exact obj_cells (ClR.list (h3 _)) (by have := (h3 c).length; simpa using this)

theorem alc_box {i t : Nat} (hi : c i = none) (ht : TmR c tm a.tmps) {x : Operand} (ho : o.op = .box t x) {v : AV} (hx : opnd tm x = some v) {l : List At} (hl : cellsOf v = some l) : Alc P c o a i (.at (.ptr i 0)) (.cells (T.ofList l 0 .leaf) l.length (.var t)) := by
  intro w
  have h3 := cellsOf_sound (opnd_sound ht hx) hl
  refine ⟨.pointer (some ⟨w.heap.size, 0, none⟩), .cells (a.eval x).cells t (0, 0), (a.eval x).cells.size, ?_, ?_, ⟨_, Cx.put_same _ _ _, rfl⟩⟩
  · simp [execOp, ho, Instr.box, newVar, newRow, Result.andThen]
  · exact obj_cells (ClR.list (h3.mono fun _ _ => AtR.mono (Cx.le_put hi _))) (by have := h3.length; simpa using this)

theorem reps_get (z : List At) : ∀ (n i : Nat) (x : At), (reps z n)[i]? = some x → i < n * z.length ∧ z[i % z.length]? = some x := by
  intro n
  induction n with
  | zero => intro i x h; simp [reps] at h
  | succ n ih =>
    intro i x h
    simp only [reps] at h
    by_cases hi : i < z.length
    · rw [List.getElem?_append_left hi] at h
      refine ⟨by rw [Nat.add_mul]; omega, by rw [Nat.mod_eq_of_lt hi]; exact h⟩
    · rw [List.getElem?_append_right (by omega)] at h
      obtain ⟨h1, h2⟩ := ih _ _ h
      refine ⟨by rw [Nat.add_mul]; omega, ?_⟩
      rw [Nat.mod_eq_sub_mod (by omega)]
      exact h2

theorem reps_length (z : List At) : ∀ n, (reps z n).length = n * z.length := by
  intro n
  induction n with
  | zero => simp [reps]
  | succ n ih => simp [reps, ih, Nat.add_mul]; omega

/-- A row of noughts. -/
theorem ClR.reps {c : Cx} {z : List At} {v : Value} (h : All2 (AtR c) z v.cells.toList) (n : Nat) : ClR c (T.ofList (reps z n) 0 .leaf) ((Array.range (n * z.length)).map fun j => v.cells[j % v.cells.size]!) := by
  intro i x hi
  rcases T.get_ofList _ _ _ _ _ hi with ⟨_, h2⟩ | ⟨_, h2⟩
  · obtain ⟨h3, h4⟩ := reps_get _ _ _ _ (by simpa using h2)
    obtain ⟨y, hy, hr⟩ := h.get _ _ h4
    have hlen := h.length
    simp only [Array.length_toList] at hlen
    refine ⟨y, ?_, hr⟩
    rw [Array.getElem?_map, Array.getElem?_range]
    simp only [h3, if_true, Option.map_some]
    rw [← hlen]
    have hy' : v.cells[i % z.length]? = some y := by simpa using hy
    rw [getElem!_def, hy']
  · cases h2

theorem alc_buildSlice {i t len e s : Nat} (hi : c i = none) (ht : TmR c tm a.tmps) {parts : Array (Nat × Operand)} (ho : o.op = .buildSlice t len parts) (he : P.underlying t = some (.slice e)) (hs : tSize P e = some s) {z : List At} (hz : tZero P e = some z) (hzs : z.length = s)
    {f : T At} (hf : fillA (fun i => some (i * s, s)) (len * s) tm parts.toList (T.ofList (reps z len) 0 .leaf) = some f) (hb : len * s < 10000) : Alc P c o a i (.at (.slc i 0 len len s true)) (.cells f (len * s) (.var e)) := by
  intro w
  obtain ⟨inf, v, h1, h2, h3⟩ := tZero_sound hz
  have hcl := ClR.reps (h3 c) len
  have hsz : ((Array.range (len * z.length)).map fun j => v.cells[j % v.cells.size]!).size = len * s := by simp [hzs]
  rw [← hsz] at hf
  obtain ⟨cs', g1, g2, g3⟩ := fillA_sound ht (fun i => some (i * s, s)) (fun i => some (i * s, s)) (fun _ _ h => h) parts.toList _ f _ hcl hf
  have hparts : (parts.map fun (i, x) => (i, a.eval x)).toList = parts.toList.map fun p => (p.1, a.eval p.2) := by simp
  rw [hsz] at g3
  refine ⟨.slice (some ⟨w.heap.size, 0, none⟩) len len, .cells cs' e (0, 0), cs'.size, ?_, obj_cells (g2.mono (Cx.le_put hi _)) g3.symm, ⟨_, Cx.put_same _ _ _, 0, len, rfl, fun _ => rfl, Nat.le_refl _, Nat.le_refl _, fun _ => rfl, by simp [g3]⟩⟩
  have hb' : ¬ (len * s > 2 ^ 24) := by omega
  by_cases h0 : len * s = 0
  · have e0 : ((Array.range (len * z.length)).map fun j => v.cells[j % v.cells.size]!) = #[] := by apply Array.eq_empty_of_size_eq_zero; rw [hsz, h0]
    rw [e0] at g1
    simp only [execOp, ho, Instr.buildSlice, Sem.run_bind, run_underlying he, run_size hs, Result.andThen_ok, hb', if_false, h0, if_true, Sem.run_pure]
    have hr : (Array.map (fun _ => (default : Value)) (Array.range 0)) = #[] := by simp
    simp [hparts, hr, g1, newRow, Result.andThen]
  · rw [hzs] at g1
    simp only [execOp, ho, Instr.buildSlice, Sem.run_bind, run_underlying he, run_size hs, Result.andThen_ok, hb', if_false, h0, run_zero h1 h2, Sem.run_pure]
    simp [hparts, g1, newRow, Result.andThen]

theorem alc_makeMap {i t : Nat} (ho : o.op = .makeMap t none) : Alc P c o a i (.at (.mp i)) (.map []) := by
  intro w
  refine ⟨.map (some w.heap.size), .map #[] 0, 0, ?_, ⟨#[], 0, rfl, .nil, rfl, fun i x hx => by simp at hx⟩, ⟨_, Cx.put_same _ _ _, rfl⟩⟩
  simp [execOp, ho, Instr.makeMap, Result.andThen]

theorem alc_makeSlice {i t e s l k : Nat} (hi : c i = none) (ht : TmR c tm a.tmps) {lo ko : Operand} (ho : o.op = .makeSlice t lo ko) (he : P.underlying t = some (.slice e)) (hs : tSize P e = some s) {z : List At} (hz : tZero P e = some z) (hzs : z.length = s) {by_ : Nat} (hby : tBytes P e = some by_)
    (hl : opnd tm lo = some (.at (.int .i64 l))) (hk : opnd tm ko = some (.at (.int .i64 k))) (hlk : l ≤ k) (hk4 : k < 10000) (hb : by_ ≤ 1000) : Alc P c o a i (.at (.slc i 0 l k s true)) (.cells (T.ofList (reps z k) 0 .leaf) (k * s) (.var e)) := by
  intro w
  obtain ⟨inf, v, h1, h2, h3⟩ := tZero_sound hz
  have e1 : a.eval lo = .int .i64 l := opnd_sound ht hl
  have e2 : a.eval ko = .int .i64 k := opnd_sound ht hk
  have hcl := ClR.reps (h3 (c.put i ⟨w.heap.size, 0, k * s⟩)) k
  have hsz : ((Array.range (k * z.length)).map fun j => v.cells[j % v.cells.size]!).size = k * s := by simp [hzs]
  have hbytes : inf.bytes = by_ := by simp only [tBytes, h1, Option.map_some, Option.some.injEq] at hby; exact hby
  have hsize : inf.size = s := by simp only [tSize, h1, Option.map_some, Option.some.injEq] at hs; exact hs
  refine ⟨.slice (some ⟨w.heap.size, 0, none⟩) l k, .cells ((Array.range (k * z.length)).map fun j => v.cells[j % v.cells.size]!) e (0, 0), k * s, ?_, ?_, ⟨_, Cx.put_same _ _ _, 0, k, rfl, fun _ => rfl, hlk, Nat.le_refl _, fun _ => rfl, by simp⟩⟩
  · have hbb : (inf.bytes : Int) * (k : Int) ≤ 281474976710656 := by
      have : by_ * k ≤ 1000 * 10000 := Nat.mul_le_mul hb (by omega)
      have : ((by_ * k : Nat) : Int) ≤ 10000000 := by omega
      rw [Int.natCast_mul] at this
      rw [hbytes]; omega
    have hr := run_make (P := P) w t e inf v he h1 h2 .i64 .i64 l k (by omega) (by omega) hbb (by omega)
    simp only [Int.toNat_natCast, hsize] at hr
    rw [hzs]
    simp only [execOp, ho, e1, e2, hr, Sem.run_bind, Result.andThen_ok]
    rfl
  · have := obj_cells (e := e) (b := w.heap.size) hcl hsz.symm
    rw [hsz] at this
    exact this

theorem alloc_sound {i : Nat} (hi : c i = none) (ht : TmR c tm a.tmps) {v : AV} {B : Blk} (hv : allocOp P o tm i = some (v, B)) : Alc P c o a i v B := by
  unfold allocOp at hv
  split at hv
  case h_1 t ho =>
    split at hv
    · rename_i z hz; simp at hv; obtain ⟨rfl, rfl⟩ := hv; exact alc_alloc hi ho hz
    · cases hv
  case h_2 t x ho =>
    split at hv
    · rename_i u hu
      split at hv
      · rename_i l hl; simp at hv; obtain ⟨rfl, rfl⟩ := hv; exact alc_box hi ht ho hu hl
      · cases hv
    · cases hv
  case h_3 t len parts ho =>
    split at hv
    · rename_i e he
      split at hv
      · rename_i s z hs hz
        simp only [beq_dec, blt_dec] at hv
        by_cases h1 : z.length = s
        case neg => simp [h1] at hv
        by_cases h2 : len * s < 10000
        case neg => simp [h1, h2] at hv
        simp only [h1, h2, decide_true, cond_true] at hv
        split at hv
        · rename_i f hf; simp at hv; obtain ⟨rfl, rfl⟩ := hv; exact alc_buildSlice hi ht ho he hs hz h1 hf h2
        · cases hv
      · cases hv
    · cases hv
  case h_4 t ho => simp at hv; obtain ⟨rfl, rfl⟩ := hv; exact alc_makeMap ho
  case h_5 t lo ko ho =>
    split at hv
    · rename_i e l k he hl hk
      split at hv
      · rename_i s z y hs hz hy
        simp only [beq_dec, ble_dec, blt_dec] at hv
        by_cases h1 : z.length = s
        case neg => simp [h1] at hv
        by_cases h2 : l ≤ k
        case neg => simp [h1, h2] at hv
        by_cases h3 : k < 10000
        case neg => simp [h1, h2, h3] at hv
        by_cases h4 : y ≤ 1000
        case neg => simp [h1, h2, h3, h4] at hv
        simp [h1, h2, h3, h4] at hv
        obtain ⟨rfl, rfl⟩ := hv
        exact alc_makeSlice hi ht ho he hs hz h1 hy hl hk h2 h3 h4
      · cases hv
    · cases hv
  case h_6 => cases hv

end allocs

end Go.Proofs.YtljkldmjakabdaaGreat.Ev

