/- Plain lemmas on the checksum: no program in sight. -/
namespace CrcP

/-- one bit of the register -/
def f (r : Nat) : Nat := (r / 2) ^^^ (if r % 2 = 1 then 3988292384 else 0)

def fN : Nat → Nat → Nat
  | 0, r => r
  | n + 1, r => f (fN n r)

theorem fN_succ' (n r : Nat) : fN (n + 1) r = fN n (f r) := by
  induction n with
  | zero => rfl
  | succ n ih => show f (fN (n+1) r) = f (fN n (f r)); rw [ih]

def step (r b : Nat) : Nat := fN 8 (r ^^^ b)

def run (r : Nat) (l : List Nat) : Nat := l.foldl step r

def of (l : List Nat) : Nat := run 4294967295 l ^^^ 4294967295

theorem f_lt {r : Nat} (h : r < 4294967296) : f r < 4294967296 := by
  unfold f
  have h1 : r / 2 < 2 ^ 32 := by omega
  have h2 : (if r % 2 = 1 then 3988292384 else 0) < 2 ^ 32 := by split <;> decide
  exact Nat.xor_lt_two_pow h1 h2

theorem fN_lt {n r : Nat} (h : r < 4294967296) : fN n r < 4294967296 := by
  induction n with
  | zero => exact h
  | succ n ih => exact f_lt ih

theorem step_lt {r b : Nat} (h : r < 4294967296) (hb : b < 256) : step r b < 4294967296 :=
  fN_lt (Nat.xor_lt_two_pow (n := 32) h (by omega))

theorem run_lt {l : List Nat} : ∀ {r : Nat}, r < 4294967296 → (∀ b ∈ l, b < 256) → run r l < 4294967296 := by
  induction l with
  | nil => intro r h _; exact h
  | cons b l ih => intro r h hl; exact ih (step_lt h (hl b (by simp))) (fun c hc => hl c (by simp [hc]))

theorem of_lt {l : List Nat} (hl : ∀ b ∈ l, b < 256) : of l < 4294967296 :=
  Nat.xor_lt_two_pow (n := 32) (run_lt (by decide) hl) (by decide)

theorem f_xor (a b : Nat) : f (a ^^^ b) = f a ^^^ f b := by
  unfold f
  rw [Nat.xor_div_two]
  have h : (a ^^^ b) % 2 = (a % 2 + b % 2) % 2 := by
    have h1 := @Nat.xor_mod_two_eq_one a b
    rcases Nat.mod_two_eq_zero_or_one a with ha | ha <;> rcases Nat.mod_two_eq_zero_or_one b with hb | hb <;>
      rw [ha, hb] at h1 ⊢ <;> simp only [Nat.zero_ne_one, iff_self, iff_true, iff_false, not_true, not_false_iff, Nat.reduceAdd, Nat.reduceMod] at h1 ⊢ <;> omega
  rcases Nat.mod_two_eq_zero_or_one a with ha | ha <;> rcases Nat.mod_two_eq_zero_or_one b with hb | hb <;>
    simp [h, ha, hb]
  · ac_rfl
  · ac_rfl
  · have e : a / 2 ^^^ 3988292384 ^^^ (b / 2 ^^^ 3988292384) = a / 2 ^^^ b / 2 ^^^ (3988292384 ^^^ 3988292384) := by ac_rfl
    rw [Nat.xor_self, Nat.xor_zero] at e
    exact e.symm

theorem fN_xor (n a b : Nat) : fN n (a ^^^ b) = fN n a ^^^ fN n b := by
  induction n with
  | zero => rfl
  | succ n ih => show f _ = _; rw [ih, f_xor]; rfl

theorem step_xor (a b x y : Nat) : step (a ^^^ b) (x ^^^ y) = step a x ^^^ step b y := by
  unfold step
  rw [← fN_xor]
  congr 1
  ac_rfl

theorem f_zero : f 0 = 0 := by decide
theorem f_eq_zero {r : Nat} (h : r < 4294967296) (h0 : f r = 0) : r = 0 := by
  unfold f at h0
  by_cases h1 : r % 2 = 1
  · rw [if_pos h1] at h0
    have : (r / 2) = 3988292384 := by
      have := congrArg (· ^^^ 3988292384) h0
      simpa [Nat.xor_assoc] using this
    omega
  · rw [if_neg h1] at h0
    simp at h0
    omega

theorem fN_eq_zero {n r : Nat} (h : r < 4294967296) (h0 : fN n r = 0) : r = 0 := by
  induction n with
  | zero => exact h0
  | succ n ih => exact ih (f_eq_zero (fN_lt h) h0)

theorem run_xor3 (l : List (Nat × Nat × Nat)) : ∀ (a b c : Nat),
    run (a ^^^ b ^^^ c) (l.map fun t => t.1 ^^^ t.2.1 ^^^ t.2.2) = run a (l.map (·.1)) ^^^ run b (l.map (·.2.1)) ^^^ run c (l.map (·.2.2)) := by
  induction l with
  | nil => intro a b c; rfl
  | cons t l ih =>
    intro a b c
    simp only [run, List.map_cons, List.foldl_cons] at *
    rw [step_xor, step_xor, ih]

theorem of_xor3 (l : List (Nat × Nat × Nat)) :
    of (l.map fun t => t.1 ^^^ t.2.1 ^^^ t.2.2) = of (l.map (·.1)) ^^^ of (l.map (·.2.1)) ^^^ of (l.map (·.2.2)) := by
  unfold of
  have h := run_xor3 l 4294967295 4294967295 4294967295
  have e : (4294967295 ^^^ 4294967295 ^^^ 4294967295 : Nat) = 4294967295 := by decide
  rw [e] at h
  rw [h]
  generalize run 4294967295 (l.map (·.1)) = x
  generalize run 4294967295 (l.map (·.2.1)) = y
  generalize run 4294967295 (l.map (·.2.2)) = z
  have e2 : x ^^^ 4294967295 ^^^ (y ^^^ 4294967295) ^^^ (z ^^^ 4294967295) = x ^^^ y ^^^ z ^^^ (4294967295 ^^^ 4294967295 ^^^ 4294967295) := by ac_rfl
  rw [e2, e]

end CrcP
namespace CrcP

/-! ### bytes that are turned -/

/-- the number of some bytes, the lowest first -/
def val : List Nat → Nat
  | [] => 0
  | b :: l => b + 256 * val l

theorem fN_add (m n r : Nat) : fN (m + n) r = fN m (fN n r) := by
  induction m with
  | zero => rw [Nat.zero_add]; rfl
  | succ m ih => rw [show m + 1 + n = (m + n) + 1 from by omega]; show f _ = f _; rw [ih]

theorem f_even {r : Nat} (h : r % 2 = 0) : f r = r / 2 := by
  unfold f; rw [if_neg (by omega)]; simp

theorem fN_shift (n r : Nat) : fN n (2 ^ n * r) = r := by
  induction n generalizing r with
  | zero => simp [fN]
  | succ n ih =>
    show f (fN n _) = r
    rw [show 2 ^ (n + 1) * r = 2 ^ n * (2 * r) from by rw [Nat.pow_succ, Nat.mul_assoc], ih, f_even (by omega)]
    omega

theorem add_eq_xor (b c : Nat) (hb : b < 256) : b + 256 * c = b ^^^ 256 * c := by
  have h := Nat.two_pow_add_eq_or_of_lt (i := 8) (b := b) (by simpa using hb) c
  have e : b + 256 * c = 256 * c ||| b := by rw [← h]; simp; omega
  rw [e]
  apply Nat.eq_of_testBit_eq
  intro i
  rw [Nat.testBit_or, Nat.testBit_xor]
  have h1 : (256 * c).testBit i = (decide (8 ≤ i) && c.testBit (i - 8)) := Nat.testBit_two_pow_mul (i := 8)
  by_cases hi : i < 8
  · rw [h1]; simp [show ¬ 8 ≤ i from by omega]
  · have : b.testBit i = false := Nat.testBit_lt_two_pow (Nat.lt_of_lt_of_le hb (Nat.pow_le_pow_right (n := 2) (i := 8) (by decide) (by omega)))
    simp [this]

theorem fN8 (b c : Nat) (hb : b < 256) : fN 8 (b + 256 * c) = fN 8 b ^^^ c := by
  rw [add_eq_xor b c hb, fN_xor]
  have := fN_shift 8 c
  simp at this
  rw [this]

theorem fN_zero (n : Nat) : fN n 0 = 0 := by
  induction n with
  | zero => rfl
  | succ n ih => show f _ = 0; rw [ih]; rfl

/-- the register behind some bytes -/
theorem run_val (l : List Nat) : ∀ (r : Nat), (∀ b ∈ l, b < 256) → run r l = fN (8 * l.length) (r ^^^ val l) := by
  induction l with
  | nil => intro r _; simp [run, val, fN]
  | cons b l ih =>
    intro r hl
    have hb : b < 256 := hl b (by simp)
    show run (step r b) l = _
    rw [ih _ (fun c hc => hl c (by simp [hc]))]
    show _ = fN (8 * (l.length + 1)) (r ^^^ (b + 256 * val l))
    rw [Nat.mul_add, Nat.mul_one, fN_add, add_eq_xor b _ hb, ← Nat.xor_assoc, fN_xor 8]
    have := fN_shift 8 (val l)
    simp at this
    rw [this]
    rfl

theorem val_lt (l : List Nat) (hl : ∀ b ∈ l, b < 256) : val l < 256 ^ l.length := by
  induction l with
  | nil => simp [val]
  | cons b l ih =>
    have hb : b < 256 := hl b (by simp)
    have := ih (fun c hc => hl c (by simp [hc]))
    simp only [val, List.length_cons, Nat.pow_succ]
    omega

theorem val_eq_zero (l : List Nat) (h : val l = 0) : ∀ b ∈ l, b = 0 := by
  induction l with
  | nil => simp
  | cons b l ih =>
    simp only [val] at h
    intro c hc
    rcases List.mem_cons.1 hc with rfl | hc
    · omega
    · exact ih (by omega) c hc

theorem run_append (r : Nat) (l m : List Nat) : run r (l ++ m) = run (run r l) m := by simp [run]

theorem run_xor (l : List (Nat × Nat)) : ∀ (a b : Nat),
    run (a ^^^ b) (l.map fun t => t.1 ^^^ t.2) = run a (l.map (·.1)) ^^^ run b (l.map (·.2)) := by
  induction l with
  | nil => intro a b; rfl
  | cons t l ih =>
    intro a b
    simp only [run, List.map_cons, List.foldl_cons] at *
    rw [step_xor, ih]

theorem xor_eq_zero {a b : Nat} (h : a ^^^ b = 0) : a = b := by
  have := congrArg (· ^^^ b) h
  simpa [Nat.xor_assoc] using this

theorem step_inj {a b c : Nat} (ha : a < 4294967296) (hb : b < 4294967296) (h : step a c = step b c) : a = b := by
  have h0 : step a c ^^^ step b c = 0 := by rw [h, Nat.xor_self]
  rw [← step_xor, Nat.xor_self] at h0
  have h1 : fN 8 ((a ^^^ b) ^^^ 0) = 0 := h0
  rw [Nat.xor_zero] at h1
  exact xor_eq_zero (fN_eq_zero (Nat.xor_lt_two_pow (n := 32) ha hb) h1)

theorem run_inj {l : List Nat} : ∀ {a b : Nat}, (∀ b ∈ l, b < 256) → a < 4294967296 → b < 4294967296 → run a l = run b l → a = b := by
  induction l with
  | nil => intro a b _ _ _ h; exact h
  | cons c l ih =>
    intro a b hl ha hb h
    have hc : c < 256 := hl c (by simp)
    exact step_inj ha hb (ih (fun d hd => hl d (by simp [hd])) (step_lt ha hc) (step_lt hb hc) h)

/-- bytes of which up to four in a row are turned have another checksum -/
theorem of_turned (u m n v : List Nat) (hu : ∀ b ∈ u, b < 256) (hm : ∀ b ∈ m, b < 256) (hn : ∀ b ∈ n, b < 256) (hv : ∀ b ∈ v, b < 256)
    (hlen : m.length = n.length) (h4 : m.length ≤ 4) (h : of (u ++ m ++ v) = of (u ++ n ++ v)) : m = n := by
  have h0 : run 4294967295 (u ++ m ++ v) = run 4294967295 (u ++ n ++ v) := by
    unfold of at h
    have := congrArg (· ^^^ 4294967295) h
    simpa [Nat.xor_assoc] using this
  rw [run_append, run_append, run_append, run_append] at h0
  have hR : run 4294967295 u < 4294967296 := run_lt (by decide) hu
  have h1 := run_inj hv (run_lt hR hm) (run_lt hR hn) h0
  rw [run_val m _ hm, run_val n _ hn, hlen] at h1
  have h2 : fN (8 * n.length) (val m ^^^ val n) = 0 := by
    have e : val m ^^^ val n = (run 4294967295 u ^^^ val m) ^^^ (run 4294967295 u ^^^ val n) := by
      have : (run 4294967295 u ^^^ val m) ^^^ (run 4294967295 u ^^^ val n) = val m ^^^ val n ^^^ (run 4294967295 u ^^^ run 4294967295 u) := by ac_rfl
      rw [this, Nat.xor_self, Nat.xor_zero]
    rw [e, fN_xor, h1, Nat.xor_self]
  have hpow : ∀ k, k ≤ 4 → 256 ^ k ≤ 4294967296 := fun k hk => Nat.le_trans (Nat.pow_le_pow_right (by decide) hk) (by decide)
  have bm := Nat.lt_of_lt_of_le (val_lt m hm) (hpow _ h4)
  have bn := Nat.lt_of_lt_of_le (val_lt n hn) (hpow _ (by omega))
  have h3 := xor_eq_zero (fN_eq_zero (Nat.xor_lt_two_pow (n := 32) bm bn) h2)
  clear h h0 h1 h2 bm bn h4 hR hu hv
  revert h3
  induction m generalizing n with
  | nil => intro _; exact (List.eq_nil_of_length_eq_zero hlen.symm).symm
  | cons b m ih =>
    cases n with
    | nil => simp at hlen
    | cons c n =>
      intro h3
      simp only [val] at h3
      have hb : b < 256 := hm b (by simp)
      have hc : c < 256 := hn c (by simp)
      have e1 : b = c := by omega
      have e2 : val m = val n := by omega
      rw [e1, ih n (fun d hd => hm d (by simp [hd])) (fun d hd => hn d (by simp [hd])) (by simpa using hlen) e2]

theorem of_awake : of [49, 50, 51, 52, 53, 54, 55, 56, 57] = 3421780262 := by decide +kernel

end CrcP
namespace CrcP

theorem xor_step (x b k j : Nat) :
    (if j = k then ((x ^^^ b % 2 ^ k).testBit k != b.testBit k) else (x ^^^ b % 2 ^ k).testBit j) = (x ^^^ b % 2 ^ (k + 1)).testBit j := by
  simp only [Nat.testBit_xor, Nat.testBit_mod_two_pow]
  by_cases h : j = k
  · subst h; simp
  · rw [if_neg h]
    by_cases h1 : j < k
    · simp [h1, show j < k + 1 from by omega]
    · simp [h1, show ¬ j < k + 1 from by omega]

theorem testBit_odd (b k : Nat) : ((b / 2 ^ k) % 2 == 1) = b.testBit k := by
  rw [Nat.testBit_eq_decide_div_mod_eq, Bool.eq_iff_iff]; simp

theorem shift_bits (x j : Nat) (hx : x < 4294967296) (hj : j < 32) : (if j = 31 then false else x.testBit (j + 1)) = (x / 2).testBit j := by
  rw [Nat.testBit_div_two]
  split
  · subst j
    exact (Nat.testBit_lt_two_pow (i := 32) (by simpa using hx)).symm
  · rfl

theorem all_xor (x : Nat) (j : Nat) (hj : j < 32) : (x ^^^ 4294967295).testBit j = !x.testBit j := by
  rw [Nat.testBit_xor]
  have : (4294967295 : Nat).testBit j = true := by
    have := Nat.testBit_two_pow_sub_one 32 j
    simp [hj] at this; exact this
  rw [this]; simp

/-- the number's highest t bits -/
def hi (y t : Nat) : Nat := y / 2 ^ (32 - t)

theorem hi_zero (y : Nat) (h : y < 4294967296) : hi y 0 = 0 := by
  unfold hi; simp; omega

theorem hi_all (y : Nat) : hi y 32 = y := by simp [hi]

theorem hi_succ (y t : Nat) (ht : t < 32) : hi y (t + 1) = hi y t * 2 + (if y.testBit (31 - t) then 1 else 0) := by
  unfold hi
  have e : 32 - t = (32 - (t + 1)) + 1 := by omega
  rw [e, Nat.pow_succ, ← Nat.div_div_eq_div_mul]
  rw [show 31 - t = 32 - (t + 1) from by omega]
  generalize 32 - (t + 1) = s
  rw [Nat.testBit_eq_decide_div_mod_eq]
  generalize y / 2 ^ s = z
  by_cases h : z % 2 = 1
  · simp [h]; omega
  · simp [h]; omega

end CrcP
namespace CrcP

/-- the exclusive or of a list's first elements and another's -/
def xorl : List Nat → List Nat → List Nat
  | x :: xs, y :: ys => (x ^^^ y) :: xorl xs ys
  | xs, _ => xs

theorem xorl_nil (l : List Nat) : xorl l [] = l := by cases l <;> rfl

theorem xorl_length (l f : List Nat) : (xorl l f).length = l.length := by
  induction l generalizing f with
  | nil => cases f <;> rfl
  | cons x l ih => cases f <;> simp [xorl, ih]

theorem xorl_lt {l f : List Nat} (hl : ∀ x ∈ l, x < 256) (hf : ∀ x ∈ f, x < 256) : ∀ x ∈ xorl l f, x < 256 := by
  induction l generalizing f with
  | nil => cases f <;> simp [xorl]
  | cons x l ih =>
    cases f with
    | nil => simpa [xorl] using hl
    | cons y f =>
      intro z hz
      simp only [xorl, List.mem_cons] at hz
      rcases hz with rfl | hz
      · exact Nat.xor_lt_two_pow (n := 8) (hl x (by simp)) (hf y (by simp))
      · exact ih (fun a ha => hl a (by simp [ha])) (fun a ha => hf a (by simp [ha])) z hz

/-- bytes of which some from k on are turned -/
def turn (l : List Nat) (k : Nat) (f : List Nat) : List Nat := l.take k ++ xorl (l.drop k) f

theorem turn_nil (l : List Nat) (k : Nat) : turn l k [] = l := by simp [turn, xorl_nil]

theorem turn_length (l : List Nat) (k : Nat) (f : List Nat) : (turn l k f).length = l.length := by
  simp [turn, xorl_length]; omega

theorem turn_lt {l f : List Nat} {k : Nat} (hl : ∀ x ∈ l, x < 256) (hf : ∀ x ∈ f, x < 256) : ∀ x ∈ turn l k f, x < 256 := by
  intro x hx
  rcases List.mem_append.1 hx with hx | hx
  · exact hl x (List.mem_of_mem_take hx)
  · exact xorl_lt (fun a ha => hl a (List.mem_of_mem_drop ha)) hf x hx

theorem xorl_snoc (l f : List Nat) (y : Nat) (h : f.length < l.length) : xorl l (f ++ [y]) = (xorl l f).set f.length ((xorl l f).getD f.length 0 ^^^ y) := by
  induction l generalizing f with
  | nil => simp at h
  | cons x l ih =>
    cases f with
    | nil => simp [xorl, xorl_nil]
    | cons z f => simp [xorl, ih f (by simpa using h)]

theorem xorl_past (l f : List Nat) (y : Nat) (h : l.length ≤ f.length) : xorl l (f ++ [y]) = xorl l f := by
  induction l generalizing f with
  | nil => cases f <;> rfl
  | cons x l ih =>
    cases f with
    | nil => simp at h
    | cons z f => simp [xorl, ih f (by simpa using h)]

theorem turn_snoc (l f : List Nat) (k y : Nat) (h : k + f.length < l.length) : turn l k (f ++ [y]) = (turn l k f).set (k + f.length) ((turn l k f).getD (k + f.length) 0 ^^^ y) := by
  unfold turn
  have hk : (l.take k).length = k := by simp; omega
  rw [xorl_snoc _ _ _ (by simp; omega), List.set_append_right _ _ (by omega), hk]
  congr 2
  · omega
  · simp only [List.getD_eq_getElem?_getD]
    rw [List.getElem?_append_right (by omega), hk]
    congr 3; omega

theorem turn_past (l f : List Nat) (k y : Nat) (h : l.length ≤ k + f.length) : turn l k (f ++ [y]) = turn l k f := by
  unfold turn
  rw [xorl_past _ _ _ (by simp; omega)]

theorem xorl_split (l f : List Nat) (n : Nat) (h : f.length ≤ n) : xorl l f = xorl (l.take n) f ++ l.drop n := by
  induction l generalizing f n with
  | nil => cases f <;> simp [xorl]
  | cons x l ih =>
    cases f with
    | nil => simp [xorl_nil]
    | cons y f =>
      cases n with
      | zero => simp at h
      | succ n => simp [xorl]; exact ih f n (by simpa using h)

theorem of_turn {l f : List Nat} (k : Nat) (hl : ∀ x ∈ l, x < 256) (hf : ∀ x ∈ f, x < 256) (h4 : f.length ≤ 4) (h : of l = of (turn l k f)) : l = turn l k f := by
  have e1 : l = l.take k ++ (l.drop k).take 4 ++ (l.drop k).drop 4 := by
    rw [List.append_assoc, List.take_append_drop, List.take_append_drop]
  have e2 : turn l k f = l.take k ++ xorl ((l.drop k).take 4) f ++ (l.drop k).drop 4 := by
    unfold turn
    rw [xorl_split _ f 4 h4, List.append_assoc]
  have hm : ∀ x ∈ (l.drop k).take 4, x < 256 := fun x hx => hl x (List.mem_of_mem_drop (List.mem_of_mem_take hx))
  have key := of_turned (l.take k) ((l.drop k).take 4) (xorl ((l.drop k).take 4) f) ((l.drop k).drop 4)
    (fun x hx => hl x (List.mem_of_mem_take hx)) hm (xorl_lt hm hf) (fun x hx => hl x (List.mem_of_mem_drop (List.mem_of_mem_drop hx)))
    (xorl_length _ _).symm (by simp; omega) (by rw [← e1, ← e2]; exact h)
  rw [e2, ← key]
  exact e1

end CrcP
