/- The state of a law's own memory: things apart from one another, all else as it was. -/
import Derived.Test.YtljkldmjakabdaaGreatOpen
namespace Go.Proofs.YtljkldmjakabdaaGreat
open Go.RowKit

theorem Keeps.drewN (w : World) (n : Nat) : Keeps [] w (w.drewN n) := ⟨rfl, rfl, rfl, Nat.le_refl _, fun _ _ _ => rfl⟩

theorem ownsRow_heap {w w' : World} {B : Nat} {E : TypeId} {v : Value} {n : Nat} {xs : List Value} (hh : ∀ g ∈ v.ownBlock.toList, w'.heap[g]? = w.heap[g]?) (h : w.ownsRow B E 1 v n xs) : w'.ownsRow B E 1 v n xs := by
  obtain ⟨h1, h2⟩ := h
  refine ⟨h1, ?_⟩
  rcases h2 with h2 | ⟨g, cap, cur, rfl, hB, hg, rest⟩
  · exact .inl h2
  · exact .inr ⟨g, cap, cur, rfl, hB, by rw [hh g (by simp [Value.ownBlock])]; exact hg, rest⟩

theorem ownsRow_base {w : World} {B B' : Nat} {E : TypeId} {v : Value} {n : Nat} {xs : List Value} (h : w.ownsRow B E 1 v n xs) (hB : B' ≤ B) : w.ownsRow B' E 1 v n xs := by
  obtain ⟨h1, h2⟩ := h
  refine ⟨h1, ?_⟩
  rcases h2 with h2 | ⟨g, cap, cur, rfl, hB', rest⟩
  · exact .inl h2
  · exact .inr ⟨g, cap, cur, rfl, by omega, rest⟩

theorem ownsRow_shape {w : World} {B : Nat} {E : TypeId} {v : Value} {n : Nat} {xs : List Value} (h : w.ownsRow B E 1 v n xs) (hn : 0 < n) : ∃ g cap, v = .slice (some ⟨g, 0, none⟩) n cap ∧ n ≤ cap ∧ cap ≤ maxLen := by
  rcases h.2 with ⟨_, h0⟩ | ⟨g, cap, cur, rfl, _, _, h1, h2, _⟩
  · omega
  · exact ⟨g, cap, rfl, h1, h2⟩

/-- Whatever it is, it is a slice of that length. -/
theorem ownsRow_slice {w : World} {B : Nat} {E : TypeId} {v : Value} {n : Nat} {xs : List Value} (h : w.ownsRow B E 1 v n xs) : ∃ a cap, v = .slice a n cap ∧ n ≤ cap ∧ cap ≤ maxLen := by
  rcases h.2 with ⟨rfl, h0⟩ | ⟨g, cap, cur, rfl, _, _, h1, h2, _⟩
  · subst h0; exact ⟨none, 0, rfl, Nat.le_refl _, by decide⟩
  · exact ⟨_, cap, rfl, h1, h2⟩

/-- A slice of the call's own. -/
def rowT (E : TypeId) (v : Value) (xs : List Value) : Thing where
  foot := v.ownBlock.toList
  ok := fun w => w.ownsRow 0 E 1 v xs.length xs
  loc := fun _ _ hh h => ownsRow_heap hh h
  lt := fun w h g hg => (h.lt g (by simpa using hg)).2

/-- The state: these things of the call's own, apart; nothing that was there has turned. -/
structure St (w0 w : World) (os : List Thing) : Prop where
  sep : Sep w0.heap.size w os
  bel : Below w0.heap.size w0 w

namespace St
variable {w0 w w' : World} {os : List Thing}

theorem start (w0 : World) : St w0 w0 [] := ⟨trivial, Below.refl _ _⟩

theorem size (h : St w0 w os) : w0.heap.size ≤ w.heap.size := h.bel.size

theorem same (h : St w0 w os) (hk : Keeps [] w w') : St w0 w' os :=
  ⟨h.sep.keep hk (by simp), h.bel.trans (hk.below h.size (by simp))⟩

theorem below (h : St w0 w os) (hb : Below w.heap.size w w') : St w0 w' os := h.same (Keeps.of_below hb)

theorem new {o : Thing} (h : St w0 w os) (hk : Keeps [] w w') (ho : o.ok w') (hf : ∀ g ∈ o.foot, w.heap.size ≤ g) : St w0 w' (o :: os) :=
  ⟨h.sep.new hk ho hf h.size, h.bel.trans (hk.below h.size (by simp))⟩

theorem turn {o o' : Thing} (h : St w0 w (o :: os)) (hk : Keeps o.foot w w') (ho : o'.ok w') (hf : ∀ g ∈ o'.foot, g ∈ o.foot ∨ w.heap.size ≤ g) : St w0 w' (o' :: os) :=
  ⟨h.sep.turn hk ho hf h.size, h.bel.trans (hk.below h.size (fun g hg => h.sep.2.1 g hg))⟩

theorem swap {o p : Thing} (h : St w0 w (o :: p :: os)) : St w0 w (p :: o :: os) := ⟨h.sep.swap, h.bel⟩
theorem tail {o : Thing} (h : St w0 w (o :: os)) : St w0 w os := ⟨h.sep.tail, h.bel⟩
theorem perm {ps : List Thing} (h : St w0 w os) (hp : os.Perm ps) : St w0 w ps := ⟨h.sep.perm hp, h.bel⟩
/-- The third to the head. -/
theorem rot3 {a b c : Thing} (h : St w0 w (a :: b :: c :: os)) : St w0 w (c :: a :: b :: os) :=
  h.perm ((List.Perm.cons a (List.Perm.swap c b os)).trans (List.Perm.swap c a (b :: os)))

theorem rot4 {a b c d : Thing} (h : St w0 w (a :: b :: c :: d :: os)) : St w0 w (d :: a :: b :: c :: os) := h.perm (List.perm_middle (l₁ := [a, b, c]))
theorem rot5 {a b c d e : Thing} (h : St w0 w (a :: b :: c :: d :: e :: os)) : St w0 w (e :: a :: b :: c :: d :: os) := h.perm (List.perm_middle (l₁ := [a, b, c, d]))

theorem ok {o : Thing} (h : St w0 w os) (ho : o ∈ os) : o.ok w := h.sep.ok o ho

theorem arg {v : Value} {xs : List Value} (h : St w0 w os) (hr : Reads w0 v xs) : Reads w v xs := hr.below h.bel

/-- A new slice. -/
theorem newRow {E : TypeId} {v : Value} {n : Nat} {xs : List Value} (h : St w0 w os) (hk : Keeps [] w w') (ho : w'.ownsRow w.heap.size E 1 v n xs) : St w0 w' (rowT E v xs :: os) := by
  have hn : xs.length = n := by simpa using ho.1
  subst hn
  exact h.new hk (ownsRow_base ho (Nat.zero_le _)) (fun g hg => (ho.lt g (by simpa [rowT] using hg)).1)

theorem reads {E : TypeId} {v : Value} {xs : List Value} (h : St w0 w os) (ho : rowT E v xs ∈ os) : Reads w v xs := Reads.of_owns (h.ok ho)

theorem row {E : TypeId} {v : Value} {xs : List Value} (h : St w0 w (rowT E v xs :: os)) : w.ownsRow 0 E 1 v xs.length xs := h.sep.1

theorem rowN {E : TypeId} {v : Value} {n : Nat} {xs : List Value} (h : St w0 w (rowT E v xs :: os)) (hn : xs.length = n) : w.ownsRow 0 E 1 v n xs := by
  subst hn; exact h.row

theorem row' {E : TypeId} {v : Value} {xs : List Value} (h : St w0 w (rowT E v xs :: os)) : w.ownsRow w0.heap.size E 1 v xs.length xs := by
  have h1 := h.row
  refine ⟨h1.1, ?_⟩
  rcases h1.2 with h2 | ⟨g, cap, cur, rfl, hB, hg, rest⟩
  · exact .inl h2
  · exact .inr ⟨g, cap, cur, rfl, h.sep.2.1 g (by simp [rowT, Value.ownBlock]), hg, rest⟩

/-- A store into the first slice. -/
theorem store {E : TypeId} {g n cap : Nat} {xs : List Value} (h : St w0 w (rowT E (.slice (some ⟨g, 0, none⟩) n cap) xs :: os)) (hn : xs.length = n) (j : Nat) (u : Value) :
    St w0 (w.setCell ⟨g, j, none⟩ u) (rowT E (.slice (some ⟨g, 0, none⟩) n cap) (xs.set j u) :: os) := by
  have h1 := h.row
  rw [hn] at h1
  have h2 := h1.stored j u
  refine h.turn (o' := rowT E (.slice (some ⟨g, 0, none⟩) n cap) (xs.set j u)) ((Keeps.refl _ _).setCell (.inl (by simp [rowT, Value.ownBlock])) u) ?_ (fun x hx => .inl hx)
  show World.ownsRow _ _ _ _ _ _ _
  rw [List.length_set, hn]
  exact h2.1

/-- A slice that is appended to: as the law on append leaves it. -/
theorem grown {E : TypeId} {v v' : Value} {n : Nat} {xs ys : List Value} {w1 : World} (h : St w0 w (rowT E v xs :: os)) (hw : Keeps [] w w1) (ho : w'.ownsRow w0.heap.size E 1 v' n ys) (hg : w1.grownBy w' v.ownBlock)
    (hf : ∀ g, v'.ownBlock = some g → v.ownBlock = some g ∨ w.heap.size ≤ g) : St w0 w' (rowT E v' ys :: os) := by
  have hn : ys.length = n := by simpa using ho.1
  subst hn
  refine h.turn (o' := rowT E v' ys) ?_ (ownsRow_base ho (Nat.zero_le _)) (fun g hg' => ?_)
  · exact (hw.mono (by simp)).grown hg (fun k hk => .inl (by simp [rowT, hk]))
  · rcases hf g (by simpa [rowT] using hg') with h1 | h1
    · left; simp [rowT, h1]
    · exact .inr h1

theorem drew (h : St w0 w os) : St w0 w.drew os := h.same ((Keeps.refl _ _).drew)
theorem alloc (h : St w0 w os) (o : Obj) : St w0 (w.alloc o) os := h.same ((Keeps.refl _ _).alloc _)
end St

section
variable {P : Program} {w0 w : World} {os : List Thing}

/-- 'append(x, s...)' onto a slice of the call's own, one cell an element. -/
theorem run_append_st (t ty e : TypeId) (i : TypeInfo) (z : Value) (bytes : Nat) (ht : P.underlying t = some (.slice e)) (hi : P.info? e = some i) (hz : i.zero = some z)
    (hsize : i.size = 1) (hby : i.bytes = bytes) (hzs : z.cells.size = 1) (v sv : Value) (xs news : List Value) (h : St w0 w (rowT e v xs :: os)) (hs : Reads w sv news) (h1 : ∀ u ∈ news, u.oneCell' = true)
    (h63 : xs.length + news.length ≤ maxLen) (hbytes : (xs.length + news.length) * bytes ≤ 140737488355328) :
    ∃ v' w', (Builtin.append_ #[t, t] ty #[v, sv]).run P w = .ok v' w' ∧ St w0 w' (rowT e v' (xs ++ news) :: os) := by
  obtain ⟨ao, c, rfl, hl, hm, hn, hc⟩ := hs
  have hrow := h.row'
  cases ao with
  | none =>
    have hx : news = [] := by
      rcases hc with hc | ⟨b, off, h', _⟩
      · exact hc
      · cases h'
    subst hx
    obtain rfl := hn rfl
    refine ⟨v, w, run_append_owned_none (P := P) w w0.heap.size t ty e i 1 ht hi v _ xs hrow, ?_⟩
    rw [List.append_nil]
    exact h
  | some ad =>
    have hnews : ∀ j u, news[j]? = some u → w.cell? (ad.add j) = some u := by
      intro j u hu
      rcases hc with hc | ⟨b, off, h', hc⟩
      · subst hc; simp at hu
      · cases h'
        have ha : (⟨b, off, none⟩ : Addr).add j = ⟨b, off + j, none⟩ := by unfold Addr.add; split <;> simp_all
        rw [ha]
        exact hc j u hu
    obtain ⟨v', w', hrun, hown', hgrow, _⟩ := run_append_own (P := P) w w0.heap.size t ty e i z 1 bytes ht hi hz hsize hby hzs (by decide) v xs.length xs hrow ad news.length c news (by simp) hnews h1 h63 hbytes h.size
    refine ⟨v', w', hrun, h.grown (Keeps.refl _ _) hown' hgrow ?_⟩
    intro g hg
    have hsmall : xs.length + news.length ≤ 9223372036854775807 := by simp only [maxLen] at h63; omega
    rcases hrow.2 with ⟨rfl, h0⟩ | ⟨g0, cap, cur, rfl, hB, hg0, hnc, hcm, hcs, htake⟩
    · have hx0 : xs = [] := List.eq_nil_of_length_eq_zero h0
      subst hx0
      by_cases hm0 : news.length = 0
      · have hnn : news = [] := List.eq_nil_of_length_eq_zero hm0
        subst hnn
        have hr : (Builtin.append_ #[t, t] ty #[.slice none 0 0, .slice (some ad) 0 c]).run P w = .ok (.slice none 0 0) w := by
          simp [Builtin.append_, run_underlying ht, sizeOf, typeInfo, hi, Builtin.lenOf, Builtin.firstCells, loadCells, loadCellsFrom]
        have hrun' : (Builtin.append_ #[t, t] ty #[.slice none 0 0, .slice (some ad) 0 c]).run P w = .ok v' w' := hrun
        rw [hr] at hrun'
        simp only [Result.ok.injEq] at hrun'
        rw [← hrun'.1] at hg
        simp [Value.ownBlock] at hg
      · have hr := run_append_nil (P := P) w t ty e i z ht hi hz ad news.length c news (by simp [hsize]) hnews (by omega) (by simp at hsmall; omega) (by rw [hby]; simp at hbytes; omega)
        rw [hr] at hrun
        simp only [Result.ok.injEq] at hrun
        rw [← hrun.1] at hg
        simp [Value.ownBlock] at hg
        right; omega
    · by_cases hroom : xs.length + news.length ≤ cap
      · have hr := run_append_room (P := P) w t ty e i ht hi g0 xs.length cap cur hg0 ad news.length c news (by simp [hsize]) hnews h1 hroom (by rw [hsize, hcs]; omega)
        rw [hr] at hrun
        simp only [Result.ok.injEq] at hrun
        rw [← hrun.1] at hg
        left
        simpa [Value.ownBlock] using hg
      · have holds : ∀ j u, xs[j]? = some u → w.cell? ((⟨g0, 0, none⟩ : Addr).add j) = some u := hrow.cells (g := g0) rfl
        have hr := run_append_grow (P := P) w t ty e i z ht hi hz ⟨g0, 0, none⟩ xs.length cap xs (by simp [hsize]) holds ad news.length c news (by simp [hsize]) hnews (by omega) (by omega) (growslice_fits (by omega) (by rw [hby]; exact hbytes))
        rw [hr] at hrun
        simp only [Result.ok.injEq] at hrun
        rw [← hrun.1] at hg
        simp [Value.ownBlock] at hg
        right; omega

theorem wpList_append_st {ops : Array Oper} {rest : List Oper} {o : Oper} {a : Act} {Q : Exit → Act → World → Prop} (hgd : Region.wanted o (yielded ops a.tmps) = true) (s x : Operand) (t : TypeId)
    (ho : o.op = .call { callee := .builtin .append, args := #[s, x], argTypes := #[t, t] })
    (e : TypeId) (i : TypeInfo) (z : Value) (bytes : Nat) (ht : P.underlying t = some (.slice e)) (hi : P.info? e = some i) (hz : i.zero = some z)
    (hsize : i.size = 1) (hby : i.bytes = bytes) (hzs : z.cells.size = 1) (v sv : Value) (xs news : List Value) (hs : a.eval s = v) (hx : a.eval x = sv)
    (h : St w0 w (rowT e v xs :: os)) (hr : Reads w sv news) (h1 : ∀ u ∈ news, u.oneCell' = true)
    (h63 : xs.length + news.length ≤ maxLen) (hbytes : (xs.length + news.length) * bytes ≤ 140737488355328)
    (next : ∀ v' w', St w0 w' (rowT e v' (xs ++ news) :: os) → wpList P ops Q rest (a.put o.dst v') w') : wpList P ops Q (o :: rest) a w := by
  refine BigFrame.wpList_want hgd fun K hK => ?_
  obtain ⟨v', w', hrun, hst⟩ := run_append_st (P := P) t o.type e i z bytes ht hi hz hsize hby hzs v sv xs news h hr h1 h63 hbytes
  unfold Oper.wp execOp
  simp only [ho, resolve, invoke, builtin, Sem.run_bind, Sem.run_pure, Result.andThen_ok, List.map_toArray, List.map_cons, List.map_nil, hs, hx, hrun]
  exact hK _ _ (next v' w' hst)

/-- What a grown row owns. -/
theorem owns_new (e : TypeId) (z : Value) (hzs : z.cells.size = 1) (xs : List Value) (c : Nat) (hc : xs.length ≤ c) (hm : c ≤ maxLen) :
    (w.drew.alloc (.cells (xs.toArray ++ Builtin.zeroCells z.cells (c - xs.length)) e)).ownsRow w.heap.size e 1 (.slice (some ⟨w.heap.size, 0, none⟩) xs.length c) xs.length xs := by
  refine ⟨by simp, .inr ⟨w.heap.size, c, _, rfl, Nat.le_refl _, heap_alloc_new w.drew _, hc, hm, ?_, ?_⟩⟩
  · simp only [Array.size_append, List.size_toArray, size_zeroCells, hzs]
    omega
  · simp only [Array.toList_append, Nat.mul_one]
    exact List.take_left

/-- 'append(x[:n:n], s...)': what is behind x is not touched: a new slice. -/
theorem run_append_fresh (t ty e : TypeId) (i : TypeInfo) (z : Value) (bytes : Nat) (ht : P.underlying t = some (.slice e)) (hi : P.info? e = some i) (hz : i.zero = some z)
    (hsize : i.size = 1) (hby : i.bytes = bytes) (hzs : z.cells.size = 1) (a : Option Addr) (n : Nat) (sv : Value) (xs news : List Value) (hx : Reads w (.slice a n n) xs) (hs : Reads w sv news)
    (h0 : 0 < news.length) (h63 : n + news.length ≤ maxLen) (hbytes : (n + news.length) * bytes ≤ 140737488355328) :
    ∃ v' w', (Builtin.append_ #[t, t] ty #[.slice a n n, sv]).run P w = .ok v' w' ∧ w'.ownsRow w.heap.size e 1 v' (n + news.length) (xs ++ news) ∧ Keeps [] w w' := by
  obtain ⟨ao, c, rfl, hl, hm, hn, hc⟩ := hs
  obtain ⟨a', c', he, hl', hm', hn', hc'⟩ := hx
  simp only [Value.slice.injEq] at he
  obtain ⟨rfl, rfl, rfl⟩ := he
  have hsmall : xs.length + news.length ≤ 9223372036854775807 := by simp only [maxLen] at h63; omega
  have hkeep : ∀ o : Obj, Keeps [] w (w.drew.alloc o) := fun o => ((Keeps.refl [] w).drew).alloc o
  cases ao with
  | none =>
    exfalso
    rcases hc with hc | ⟨b, off, h', _⟩
    · subst hc; simp at h0
    · cases h'
  | some ad =>
    have hnews : ∀ j u, news[j]? = some u → w.cell? (ad.add j) = some u := by
      intro j u hu
      rcases hc with hc | ⟨b, off, h', hc⟩
      · subst hc; simp at hu
      · cases h'
        have ha : (⟨b, off, none⟩ : Addr).add j = ⟨b, off + j, none⟩ := by unfold Addr.add; split <;> simp_all
        rw [ha]
        exact hc j u hu
    cases a with
    | none =>
      have hx0 : xs = [] := by
        rcases hc' with h | ⟨b, off, h', _⟩
        · exact h
        · cases h'
      subst hx0
      have hr := run_append_nil (P := P) w t ty e i z ht hi hz ad news.length c news (by simp [hsize]) hnews h0 (by simp at hsmall; omega) (by rw [hby]; simp at hbytes; omega)
      have hge := grownCap_ge w news.length 0 e
      have hcm := grownCap_le_maxLen w news.length 0 e (by simpa using h63)
      have hown := owns_new (w := w) e z hzs news _ hge hcm
      refine ⟨_, _, hr, ?_, hkeep _⟩
      simpa using hown
    | some b =>
      have holds : ∀ j u, xs[j]? = some u → w.cell? (b.add j) = some u := by
        intro j u hu
        rcases hc' with h | ⟨b', off, h', hc'⟩
        · subst h; simp at hu
        · cases h'
          have ha : (⟨b', off, none⟩ : Addr).add j = ⟨b', off + j, none⟩ := by unfold Addr.add; split <;> simp_all
          rw [ha]
          exact hc' j u hu
      have hr := run_append_grow (P := P) w t ty e i z ht hi hz b xs.length xs.length xs (by simp [hsize]) holds ad news.length c news (by simp [hsize]) hnews (by omega) (by omega) (growslice_fits (by omega) (by rw [hby]; exact hbytes))
      have hge := grownCap_ge w (xs.length + news.length) xs.length e
      have hcm := grownCap_le_maxLen w (xs.length + news.length) xs.length e h63
      have hown := owns_new (w := w) e z hzs (xs ++ news) (grownCap w (xs.length + news.length) xs.length e) (by simpa using hge) hcm
      refine ⟨_, _, hr, ?_, hkeep _⟩
      simpa using hown

theorem wpList_append_fresh {ops : Array Oper} {rest : List Oper} {o : Oper} {a : Act} {Q : Exit → Act → World → Prop} (hgd : Region.wanted o (yielded ops a.tmps) = true) (s x : Operand) (t : TypeId)
    (ho : o.op = .call { callee := .builtin .append, args := #[s, x], argTypes := #[t, t] })
    (e : TypeId) (i : TypeInfo) (z : Value) (bytes : Nat) (ht : P.underlying t = some (.slice e)) (hi : P.info? e = some i) (hz : i.zero = some z)
    (hsize : i.size = 1) (hby : i.bytes = bytes) (hzs : z.cells.size = 1) (ad : Option Addr) (n : Nat) (sv : Value) (xs news : List Value) (hs : a.eval s = .slice ad n n) (hx : a.eval x = sv)
    (h : Reads w (.slice ad n n) xs) (hr : Reads w sv news) (h0 : 0 < news.length)
    (h63 : n + news.length ≤ maxLen) (hbytes : (n + news.length) * bytes ≤ 140737488355328)
    (next : ∀ v' w', w'.ownsRow w.heap.size e 1 v' (n + news.length) (xs ++ news) → Keeps [] w w' → wpList P ops Q rest (a.put o.dst v') w') : wpList P ops Q (o :: rest) a w := by
  refine BigFrame.wpList_want hgd fun K hK => ?_
  obtain ⟨v', w', hrun, hown, hk⟩ := run_append_fresh (P := P) t o.type e i z bytes ht hi hz hsize hby hzs ad n sv xs news h hr h0 h63 hbytes
  unfold Oper.wp execOp
  simp only [ho, resolve, invoke, builtin, Sem.run_bind, Sem.run_pure, Result.andThen_ok, List.map_toArray, List.map_cons, List.map_nil, hs, hx, hrun]
  exact hK _ _ (next v' w' hown hk)
end
end Go.Proofs.YtljkldmjakabdaaGreat

