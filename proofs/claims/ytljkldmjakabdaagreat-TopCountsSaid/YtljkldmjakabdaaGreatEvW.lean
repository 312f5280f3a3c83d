/- TopCounts by reckoning: the same evaluator, made ready for each piece of code once. -/
import Derived.Test.YtljkldmjakabdaaGreatEvV
import Derived.Test.YtljkldmjakabdaaGreatEvU
namespace Go.Proofs.YtljkldmjakabdaaGreat.Ev
open Go

noncomputable section

/-- What is made ready once. -/
structure K (α : Type) where
  run : α

def getP {α : Type} : Nat → Nat → K (T α → Option α)
  | 0, n => ⟨fun t => t.get n⟩
  | f + 1, n => bif Nat.beq n 0 then ⟨fun t => T.rec (motive := fun _ => Option α) none (fun _ v _ _ _ => v) t⟩
    else bif Nat.beq (n % 2) 1 then ⟨fun t => T.rec (motive := fun _ => Option α) none (fun l _ _ _ _ => (getP f (n / 2)).run l) t⟩
    else ⟨fun t => T.rec (motive := fun _ => Option α) none (fun _ _ r _ _ => (getP f (n / 2 - 1)).run r) t⟩

theorem getP_eq {α : Type} : ∀ (f n : Nat) (t : T α), (getP f n).run t = t.get n := by
  intro f
  induction f with
  | zero => intro n t; rfl
  | succ f ih =>
    intro n t
    unfold getP
    cases h0 : Nat.beq n 0 with
    | true => simp only [cond_true]; cases t <;> simp [T.get_leaf, T.get_node, h0]
    | false =>
      cases h1 : Nat.beq (n % 2) 1 with
      | true => simp only [cond_true, cond_false, ih]; cases t <;> simp [T.get_leaf, T.get_node, h0, h1]
      | false => simp only [cond_false, ih]; cases t <;> simp [T.get_leaf, T.get_node, h0, h1]

theorem T.sing_fuel {α : Type} (x : α) : ∀ f n : Nat, n + 1 < 2 ^ f → T.sing (f + 1) x n = T.sing f x n := by
  intro f
  induction f with
  | zero => intro n h; simp at h
  | succ f ih =>
    intro n h
    rw [T.sing_succ (f + 1) x n, T.sing_succ f x n]
    have hp : 2 ^ (f + 1) = 2 * 2 ^ f := by rw [Nat.pow_succ]; omega
    cases h0 : Nat.beq n 0 with
    | true => rfl
    | false =>
      have n0 := beq_false h0
      cases h1 : Nat.beq (n % 2) 1 with
      | true =>
        have := beq_true h1
        simp only [cond_true, cond_false]
        rw [ih _ (by omega)]
      | false =>
        have := beq_false h1
        simp only [cond_false]
        rw [ih _ (by omega)]

theorem T.sing_more {α : Type} (x : α) {n : Nat} : ∀ k f : Nat, n + 1 < 2 ^ f → T.sing (f + k) x n = T.sing f x n := by
  intro k
  induction k with
  | zero => intro f h; rfl
  | succ k ih =>
    intro f h
    rw [show f + (k + 1) = (f + k) + 1 from rfl, T.sing_fuel x (f + k) n (Nat.lt_of_lt_of_le h (Nat.pow_le_pow_right (by decide) (by omega))), ih f h]

def setP {α : Type} : Nat → Nat → K (α → T α → T α)
  | 0, n => ⟨fun x t => t.set n x⟩
  | f + 1, n => bif Nat.beq n 0 then ⟨fun x t => T.rec (motive := fun _ => T α) (.node .leaf (some x) .leaf) (fun l _ r _ _ => .node l (some x) r) t⟩
    else bif Nat.beq (n % 2) 1 then ⟨fun x t => T.rec (motive := fun _ => T α) (T.ndL ((setP f (n / 2)).run x .leaf) none .leaf) (fun l v r _ _ => T.ndL ((setP f (n / 2)).run x l) v r) t⟩
    else ⟨fun x t => T.rec (motive := fun _ => T α) (T.ndR .leaf none ((setP f (n / 2 - 1)).run x .leaf)) (fun l v r _ _ => T.ndR l v ((setP f (n / 2 - 1)).run x r)) t⟩

theorem setP_eq {α : Type} (x : α) : ∀ (f n : Nat) (t : T α), n < 1000 → (setP f n).run x t = t.set n x := by
  intro f
  induction f with
  | zero => intro n t _; rfl
  | succ f ih =>
    intro n t hn
    unfold setP
    cases h0 : Nat.beq n 0 with
    | true =>
      cases t with
      | leaf => show _ = T.sing 40 x n; rw [T.sing_succ 39, h0]; rfl
      | node l v r => rw [T.set_node, h0]; rfl
    | false =>
      have n0 := beq_false h0
      cases h1 : Nat.beq (n % 2) 1 with
      | true =>
        simp only [cond_true, cond_false]
        cases t with
        | leaf =>
          simp only [T.ndL_eq]
          rw [ih _ _ (by omega)]
          show T.node (T.sing 40 x (n / 2)) none .leaf = T.sing 40 x n
          rw [T.sing_more x 1 39 (Nat.lt_of_lt_of_le (by omega : _ < 1002) (by decide)), T.sing_succ 39, h0, h1]; rfl
        | node l v r =>
          simp only [T.ndL_eq]
          rw [ih _ _ (by omega)]
          rw [T.set_node, h0, h1]; rfl
      | false =>
        simp only [cond_false]
        cases t with
        | leaf =>
          simp only [T.ndR_eq]
          rw [ih _ _ (by omega)]
          show T.node .leaf none (T.sing 40 x (n / 2 - 1)) = T.sing 40 x n
          rw [T.sing_more x 1 39 (Nat.lt_of_lt_of_le (by omega : _ < 1002) (by decide)), T.sing_succ 39, h0, h1]; rfl
        | node l v r =>
          simp only [T.ndR_eq]
          rw [ih _ _ (by omega), T.set_node, h0, h1]; rfl

/-- A slot is set. -/
def setK {α : Type} (n : Nat) : K (α → T α → T α) := bif Nat.blt n 1000 then setP 12 n else ⟨fun x t => t.set n x⟩
theorem setK_eq {α : Type} (n : Nat) (x : α) (t : T α) : (setK n).run x t = t.set n x := by
  unfold setK
  simp only [blt_dec]
  by_cases h : n < 1000
  · simp only [h, decide_true, cond_true]; exact setP_eq x _ _ _ h
  · simp only [h, decide_false, cond_false]

end
end Go.Proofs.YtljkldmjakabdaaGreat.Ev

