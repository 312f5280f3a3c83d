/- Things in memory, apart from one another. No program in sight. -/
import Derived.WalkKit
namespace Go.Proofs.YtljkldmjakabdaaGreat
open Go.RowKit

/-- A thing in memory: the blocks that it takes, and what is known of them. -/
structure Thing where
  foot : List Nat
  ok : World → Prop
  loc : ∀ w w' : World, (∀ g ∈ foot, w'.heap[g]? = w.heap[g]?) → ok w → ok w'
  lt : ∀ w : World, ok w → ∀ g ∈ foot, g < w.heap.size

/-- All these things lie in w, from block B on, apart from one another. -/
def Sep (B : Nat) (w : World) : List Thing → Prop
  | [] => True
  | o :: os => o.ok w ∧ (∀ g ∈ o.foot, B ≤ g) ∧ (∀ p ∈ os, ∀ g ∈ o.foot, g ∉ p.foot) ∧ Sep B w os

/-- w' is w with new blocks, and with writes to these blocks alone. -/
structure Keeps (S : List Nat) (w w' : World) : Prop where
  os : w'.os = w.os
  tape : w'.tape = w.tape
  output : w'.output = w.output
  size : w.heap.size ≤ w'.heap.size
  block : ∀ k, k < w.heap.size → k ∉ S → w'.heap[k]? = w.heap[k]?

theorem Keeps.refl (S : List Nat) (w : World) : Keeps S w w := ⟨rfl, rfl, rfl, Nat.le_refl _, fun _ _ _ => rfl⟩

theorem Keeps.mono {S T : List Nat} {w w' : World} (h : Keeps S w w') (hs : ∀ g ∈ S, g ∈ T ∨ w.heap.size ≤ g) : Keeps T w w' :=
  ⟨h.os, h.tape, h.output, h.size, fun k hk hn => h.block k hk (fun hm => by rcases hs k hm with h1 | h1; exact hn h1; omega)⟩

theorem Keeps.trans {S T : List Nat} {a b c : World} (h : Keeps S a b) (k : Keeps T b c) (hs : ∀ g ∈ T, g ∈ S ∨ a.heap.size ≤ g) : Keeps S a c :=
  ⟨k.os.trans h.os, k.tape.trans h.tape, k.output.trans h.output, Nat.le_trans h.size k.size, fun i hi hn =>
    (k.block i (Nat.lt_of_lt_of_le hi h.size) (fun hm => by rcases hs i hm with h1 | h1; exact hn h1; omega)).trans (h.block i hi hn)⟩

theorem Keeps.of_below {w w' : World} (h : Below w.heap.size w w') : Keeps [] w w' := ⟨h.os, h.tape, h.output, h.size, fun k hk _ => h.block k hk⟩

theorem Keeps.below {S : List Nat} {w w' : World} (h : Keeps S w w') {B : Nat} (hB : B ≤ w.heap.size) (hS : ∀ g ∈ S, B ≤ g) : Below B w w' :=
  ⟨h.os, h.tape, h.output, h.size, fun k hk => h.block k (by omega) (fun hm => by have := hS k hm; omega)⟩

theorem Keeps.nil_below {w w' : World} (h : Keeps [] w w') : Below w.heap.size w w' := h.below (Nat.le_refl _) (by simp)

theorem Keeps.alloc {S : List Nat} {a w : World} (h : Keeps S a w) (o : Obj) : Keeps S a (w.alloc o) :=
  h.trans (T := []) ⟨rfl, rfl, rfl, by simp, fun k hk _ => Below.heap_alloc _ _ _ hk⟩ (by simp)

theorem Keeps.drew {S : List Nat} {a w : World} (h : Keeps S a w) : Keeps S a w.drew := ⟨h.os, h.tape, h.output, h.size, h.block⟩

theorem Keeps.setCell {S : List Nat} {a w : World} (h : Keeps S a w) {p : Addr} (hp : p.block ∈ S ∨ a.heap.size ≤ p.block) (u : Value) : Keeps S a (w.setCell p u) :=
  h.trans (T := [p.block]) ⟨rfl, rfl, rfl, by simp [World.setCell], fun k _ hn => Below.heap_setCell _ _ _ _ (by simpa using hn)⟩ (by simpa using hp)

theorem Keeps.grown {S : List Nat} {a w w' : World} {row : Option Nat} (h : Keeps S a w) (hg : w.grownBy w' row) (hr : ∀ k, row = some k → k ∈ S ∨ a.heap.size ≤ k) : Keeps S a w' :=
  h.trans (T := row.toList) ⟨hg.os, hg.tape, hg.output, hg.size, fun k hk hn => hg.block k hk (fun e => by subst e; simp at hn)⟩ (by intro g hg'; exact hr g (by cases row <;> simp_all))

theorem Sep.lt {B : Nat} {w : World} : ∀ {os : List Thing}, Sep B w os → ∀ o ∈ os, ∀ g ∈ o.foot, B ≤ g ∧ g < w.heap.size
  | [], _, o, ho => by simp at ho
  | p :: os, h, o, ho => by
    rcases List.mem_cons.1 ho with rfl | ho
    · exact fun g hg => ⟨h.2.1 g hg, o.lt w h.1 g hg⟩
    · exact Sep.lt h.2.2.2 o ho

theorem Sep.ok {B : Nat} {w : World} : ∀ {os : List Thing}, Sep B w os → ∀ o ∈ os, o.ok w
  | [], _, o, ho => by simp at ho
  | p :: os, h, o, ho => by
    rcases List.mem_cons.1 ho with rfl | ho
    · exact h.1
    · exact Sep.ok h.2.2.2 o ho

/-- What is written apart from these things leaves them as they are. -/
theorem Sep.keep {B : Nat} {w w' : World} {S : List Nat} (hk : Keeps S w w') : ∀ {os : List Thing}, Sep B w os → (∀ o ∈ os, ∀ g ∈ o.foot, g ∉ S) → Sep B w' os
  | [], _, _ => trivial
  | o :: os, h, hd => ⟨o.loc w w' (fun g hg => hk.block g (o.lt w h.1 g hg) (hd o (by simp) g hg)) h.1, h.2.1, h.2.2.1, Sep.keep hk h.2.2.2 (fun p hp => hd p (by simp [hp]))⟩

theorem Sep.below {B : Nat} {w w' : World} {os : List Thing} (h : Sep B w os) (hb : Below w.heap.size w w') : Sep B w' os := h.keep (Keeps.of_below hb) (by simp)

theorem Sep.heap {B : Nat} {w w' : World} (he : w'.heap = w.heap) : ∀ {os : List Thing}, Sep B w os → Sep B w' os
  | [], _ => trivial
  | o :: os, h => ⟨o.loc w w' (fun g _ => by rw [he]) h.1, h.2.1, h.2.2.1, Sep.heap he h.2.2.2⟩

/-- The first of these things is turned into another, in its own blocks and in new ones. -/
theorem Sep.turn {B : Nat} {w w' : World} {o o' : Thing} {os : List Thing} (h : Sep B w (o :: os)) (hk : Keeps o.foot w w') (ho : o'.ok w')
    (hf : ∀ g ∈ o'.foot, g ∈ o.foot ∨ w.heap.size ≤ g) (hB : B ≤ w.heap.size) : Sep B w' (o' :: os) := by
  refine ⟨ho, fun g hg => ?_, fun p hp g hg => ?_, h.2.2.2.keep hk (fun p hp g hg hm => h.2.2.1 p hp g hm hg)⟩
  · rcases hf g hg with h1 | h1
    · exact h.2.1 g h1
    · omega
  · rcases hf g hg with h1 | h1
    · exact h.2.2.1 p hp g h1
    · exact fun hm => by have := (h.2.2.2.lt p hp g hm).2; omega

/-- A new thing in new blocks. -/
theorem Sep.new {B : Nat} {w w' : World} {o : Thing} {os : List Thing} (h : Sep B w os) (hk : Keeps [] w w') (ho : o.ok w') (hf : ∀ g ∈ o.foot, w.heap.size ≤ g) (hB : B ≤ w.heap.size) : Sep B w' (o :: os) :=
  ⟨ho, fun g hg => by have := hf g hg; omega, fun p hp g hg hm => by have := (h.lt p hp g hm).2; have := hf g hg; omega, h.keep hk (by simp)⟩

theorem Sep.swap {B : Nat} {w : World} {o p : Thing} {os : List Thing} (h : Sep B w (o :: p :: os)) : Sep B w (p :: o :: os) := by
  obtain ⟨h1, h2, h3, k1, k2, k3, k4⟩ := h
  refine ⟨k1, k2, fun q hq g hg => ?_, h1, h2, fun q hq => h3 q (by simp [hq]), k4⟩
  rcases List.mem_cons.1 hq with rfl | hq
  · exact fun hm => h3 p (by simp) g hm hg
  · exact k3 q hq g hg

theorem Sep.tail {B : Nat} {w : World} {o : Thing} {os : List Thing} (h : Sep B w (o :: os)) : Sep B w os := h.2.2.2

/-- Any one to the head. -/
theorem Sep.perm {B : Nat} {w : World} {os ps : List Thing} (hp : os.Perm ps) : Sep B w os → Sep B w ps := by
  induction hp with
  | nil => exact id
  | cons x h ih => exact fun s => ⟨s.1, s.2.1, fun p hp => s.2.2.1 p (h.mem_iff.2 hp), ih s.2.2.2⟩
  | swap x y l => exact Sep.swap
  | trans _ _ ih1 ih2 => exact fun s => ih2 (ih1 s)

/-- A slice that reads as these cells' values, one cell an element. -/
def Reads (w : World) (v : Value) (xs : List Value) : Prop :=
  ∃ ao cap, v = .slice ao xs.length cap ∧ xs.length ≤ cap ∧ cap ≤ maxLen ∧ (ao = none → cap = 0) ∧
    (xs = [] ∨ ∃ b off, ao = some ⟨b, off, none⟩ ∧ ∀ j u, xs[j]? = some u → w.cell? ⟨b, off + j, none⟩ = some u)

theorem Reads.heap {w w' : World} {v : Value} {xs : List Value} (h : Reads w v xs) (hh : ∀ g, v.ownBlock = some g → g < w.heap.size → w'.heap[g]? = w.heap[g]?) : Reads w' v xs := by
  obtain ⟨ao, cap, rfl, hl, hm, hn, hc⟩ := h
  refine ⟨ao, cap, rfl, hl, hm, hn, ?_⟩
  rcases hc with hc | ⟨b, off, rfl, hc⟩
  · exact .inl hc
  · refine .inr ⟨b, off, rfl, fun j u hu => ?_⟩
    have h1 := hc j u hu
    exact (World.cell?_of_block (w := w) (hh b rfl (World.block_lt_of_cell? w _ h1))).trans h1

theorem Reads.below {w w' : World} {v : Value} {xs : List Value} (h : Reads w v xs) (hb : Below w.heap.size w w') : Reads w' v xs :=
  h.heap fun g _ hg => hb.block g hg

theorem Reads.keep {w w' : World} {S : List Nat} {v : Value} {xs : List Value} (h : Reads w v xs) (hk : Keeps S w w') (hn : ∀ g, v.ownBlock = some g → g ∉ S) : Reads w' v xs :=
  h.heap fun g hg hlt => hk.block g hlt (hn g hg)

theorem Reads.nil (w : World) : Reads w (.slice none 0 0) [] := ⟨none, 0, rfl, Nat.le_refl _, by decide, fun _ => rfl, .inl rfl⟩

theorem Reads.of_owns {w : World} {B : Nat} {E : TypeId} {v : Value} {n : Nat} {xs : List Value} (h : w.ownsRow B E 1 v n xs) : Reads w v xs := by
  have hl : xs.length = n := by simpa using h.1
  subst hl
  rcases h.2 with ⟨rfl, h0⟩ | ⟨g, cap, cur, rfl, hB, hg, hn, hm, hs, ht⟩
  · have : xs = [] := List.eq_nil_of_length_eq_zero h0
    subst this
    exact Reads.nil w
  · refine ⟨_, cap, rfl, hn, hm, by simp, .inr ⟨g, 0, rfl, fun j u hu => ?_⟩⟩
    rw [Nat.zero_add, cell_of_row w g j cur E (0, 0) hg]
    simp only [Nat.mul_one] at ht
    rw [← ht, List.getElem?_take] at hu
    split at hu
    · simpa using hu
    · cases hu

theorem Reads.made (w : World) (C : Array Value) (E : TypeId) (fz : Nat × Nat) (c : Nat) (h : C.size ≤ c) (hm : c ≤ maxLen) :
    Reads (w.alloc (.cells C E fz)) (.slice (some ⟨w.heap.size, 0, none⟩) C.size c) C.toList := by
  refine ⟨_, c, by simp, by simpa using h, hm, by simp, .inr ⟨w.heap.size, 0, rfl, fun j u hu => ?_⟩⟩
  have hb : (w.alloc (.cells C E fz)).heap[w.heap.size]? = some (.cells C E fz) := heap_alloc_new w _
  simp only [World.cell?, hb, Nat.zero_add]
  simpa using hu

end Go.Proofs.YtljkldmjakabdaaGreat

