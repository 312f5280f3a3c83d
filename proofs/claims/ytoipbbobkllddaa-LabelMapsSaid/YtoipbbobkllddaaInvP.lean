/- Plain: permutations by their functions: the inverse, one behind the other, and so many times. -/
import Derived.Test.YtoipbbobkllddaaMix
namespace Go.Proofs.Ytoipbbobkllddaa

/-- the list of what a function says -/
def mapL (n : Nat) (f : Nat → Nat) : List Int := (List.range n).map fun i => (f i : Int)
theorem mapL_len (n : Nat) (f : Nat → Nat) : (mapL n f).length = n := by simp [mapL]
theorem mapL_toN {n : Nat} (f : Nat → Nat) {i : Nat} (h : i < n) : toN (mapL n f) i = f i := by
  simp [toN, mapL, List.getD_eq_getElem?_getD, h]
theorem mapL_get {n : Nat} (f : Nat → Nat) {i : Nat} (h : i < n) : (mapL n f)[i]? = some (f i : Int) := by simp [mapL, h]
theorem mapL_congr {n : Nat} {f g : Nat → Nat} (h : ∀ i, i < n → f i = g i) : mapL n f = mapL n g := by
  unfold mapL
  refine List.map_congr_left fun j hj => ?_
  rw [h j (List.mem_range.1 hj)]
theorem mapL_eq {n : Nat} {f g : Nat → Nat} (h : mapL n f = mapL n g) {i : Nat} (hi : i < n) : f i = g i := by
  rw [← mapL_toN f hi, h, mapL_toN g hi]
theorem mapL_perm {n : Nat} {f : Nat → Nat} (h1 : ∀ i, i < n → f i < n) (h2 : ∀ i j, i < n → j < n → f i = f j → i = j) : IsPerm (mapL n f) := by
  refine permF_is (f := fun i => (f i : Int)) ⟨fun j hj => ?_, fun i j hi hj he => h2 i j hi hj ?_⟩
  · have := h1 j hj
    exact ⟨Int.natCast_nonneg _, Int.ofNat_lt.2 this⟩
  · have : (f i : Int) = (f j : Int) := he
    omega
theorem eq_mapL {xs : List Int} (hp : IsPerm xs) : xs = mapL xs.length (toN xs) := by
  apply List.ext_getElem?
  intro i
  by_cases hi : i < xs.length
  · rw [mapL_get _ hi, (toN_lt hp hi).2]
  · rw [List.getElem?_eq_none (by omega), List.getElem?_eq_none (by rw [mapL_len]; omega)]
theorem mapL_row (n : Nat) (f : Nat → Nat) : Go.Proofs.Ytoipbbobkllddaa.iRow (fun i => (f i : Int)) n = intsOf (mapL n f) := iRow_ints _ _

/-- each to itself -/
def oneL (n : Nat) : List Int := mapL n fun i => i
theorem oneL_perm (n : Nat) : IsPerm (oneL n) := mapL_perm (fun _ h => h) (fun _ _ _ _ h => h)

/-- who goes there -/
noncomputable def backN (xs : List Int) (x : Nat) : Nat := walkN xs x (perN xs x - 1)
theorem backN_lt {xs : List Int} (hp : IsPerm xs) {x : Nat} (hx : x < xs.length) : backN xs x < xs.length := walkN_lt hp hx _
theorem toN_back {xs : List Int} (hp : IsPerm xs) {x : Nat} (hx : x < xs.length) : toN xs (backN xs x) = x := by
  have h := perN_spec hp hx
  have e : perN xs x - 1 + 1 = perN xs x := by omega
  have h2 : walkN xs x (perN xs x - 1 + 1) = x := by rw [e]; exact h.2.2.1
  exact h2
theorem back_toN {xs : List Int} (hp : IsPerm xs) {x : Nat} (hx : x < xs.length) : backN xs (toN xs x) = x :=
  toN_inj hp (backN_lt hp (toN_lt hp hx).1) hx (toN_back hp (toN_lt hp hx).1)
theorem back_inj {xs : List Int} (hp : IsPerm xs) {x y : Nat} (hx : x < xs.length) (hy : y < xs.length) (h : backN xs x = backN xs y) : x = y := by
  rw [← toN_back hp hx, h, toN_back hp hy]

noncomputable def invL (xs : List Int) : List Int := mapL xs.length (backN xs)
theorem invL_len (xs : List Int) : (invL xs).length = xs.length := mapL_len _ _
theorem invL_perm {xs : List Int} (hp : IsPerm xs) : IsPerm (invL xs) := mapL_perm (fun _ h => backN_lt hp h) (fun _ _ h1 h2 h => back_inj hp h1 h2 h)
theorem invL_toN {xs : List Int} {i : Nat} (hi : i < xs.length) : toN (invL xs) i = backN xs i := mapL_toN _ hi

/-- one behind the other -/
def thenL (xs ys : List Int) : List Int := mapL xs.length fun i => toN ys (toN xs i)
theorem thenL_len (xs ys : List Int) : (thenL xs ys).length = xs.length := mapL_len _ _
theorem thenL_perm {xs ys : List Int} (hp : IsPerm xs) (hq : IsPerm ys) (hl : xs.length = ys.length) : IsPerm (thenL xs ys) :=
  mapL_perm (fun i h => by rw [hl]; exact (toN_lt hq (by rw [← hl]; exact (toN_lt hp h).1)).1)
    (fun i j h1 h2 h => toN_inj hp h1 h2 (toN_inj hq (by rw [← hl]; exact (toN_lt hp h1).1) (by rw [← hl]; exact (toN_lt hp h2).1) h))
theorem thenL_toN {xs ys : List Int} {i : Nat} (hi : i < xs.length) : toN (thenL xs ys) i = toN ys (toN xs i) := mapL_toN _ hi

theorem then_inv {xs : List Int} (hp : IsPerm xs) : thenL xs (invL xs) = oneL xs.length :=
  mapL_congr fun i hi => by rw [invL_toN (toN_lt hp hi).1, back_toN hp hi]
theorem inv_inv {xs : List Int} (hp : IsPerm xs) : invL (invL xs) = xs := by
  have h1 := eq_mapL hp
  conv => rhs; rw [h1]
  unfold invL
  rw [mapL_len]
  refine mapL_congr fun i hi => ?_
  have hq : IsPerm (mapL xs.length (backN xs)) := invL_perm hp
  have hl : (mapL xs.length (backN xs)).length = xs.length := mapL_len _ _
  have hi2 : i < (mapL xs.length (backN xs)).length := by rw [hl]; exact hi
  have h2 := toN_back hq hi2
  have h3 := backN_lt hq hi2
  rw [hl] at h3
  rw [mapL_toN _ h3] at h2
  have h4 := toN_back hp h3
  rw [h2] at h4
  exact h4.symm
theorem then_assoc {xs ys zs : List Int} (hp : IsPerm xs) (hl : xs.length = ys.length) : thenL (thenL xs ys) zs = thenL xs (thenL ys zs) := by
  unfold thenL
  rw [mapL_len]
  refine mapL_congr fun i hi => ?_
  rw [mapL_toN _ hi, mapL_toN _ (by rw [← hl]; exact (toN_lt hp hi).1)]
theorem inv_then {xs ys : List Int} (hp : IsPerm xs) (hq : IsPerm ys) (hl : xs.length = ys.length) : invL (thenL xs ys) = thenL (invL ys) (invL xs) := by
  have hr := thenL_perm hp hq hl
  unfold invL
  rw [thenL_len]
  have e : thenL (mapL ys.length (backN ys)) (mapL xs.length (backN xs)) = mapL xs.length (fun i => backN xs (backN ys i)) := by
    unfold thenL
    rw [mapL_len, ← hl]
    refine mapL_congr fun i hi => ?_
    rw [mapL_toN _ hi, mapL_toN _ (by rw [hl]; exact backN_lt hq (by rw [← hl]; exact hi))]
  rw [e]
  refine mapL_congr fun i hi => ?_
  have hy : i < ys.length := by rw [← hl]; exact hi
  have h1 : backN ys i < xs.length := by rw [hl]; exact backN_lt hq hy
  have h2 : backN xs (backN ys i) < xs.length := backN_lt hp h1
  refine toN_inj hr (backN_lt hr (by rw [thenL_len]; exact hi)) (by rw [thenL_len]; exact h2) ?_
  rw [toN_back hr (by rw [thenL_len]; exact hi), thenL_toN h2, toN_back hp h1, toN_back hq hy]

/-- so many times -/
def timesL (xs : List Int) (k : Nat) : List Int := mapL xs.length fun i => walkN xs i k
theorem timesL_len (xs : List Int) (k : Nat) : (timesL xs k).length = xs.length := mapL_len _ _
theorem timesL_zero (xs : List Int) : timesL xs 0 = oneL xs.length := rfl
theorem timesL_succ (xs : List Int) (k : Nat) : thenL (timesL xs k) xs = timesL xs (k + 1) := by
  unfold thenL
  rw [timesL_len]
  refine mapL_congr fun i hi => ?_
  unfold timesL
  rw [mapL_toN _ hi]
  rfl
theorem walkN_inj {xs : List Int} (hp : IsPerm xs) {i j : Nat} (hi : i < xs.length) (hj : j < xs.length) : ∀ k, walkN xs i k = walkN xs j k → i = j
  | 0, h => h
  | k + 1, h => walkN_inj hp hi hj k (toN_inj hp (walkN_lt hp hi k) (walkN_lt hp hj k) h)
theorem timesL_perm {xs : List Int} (hp : IsPerm xs) (k : Nat) : IsPerm (timesL xs k) := mapL_perm (fun _ h => walkN_lt hp h k) (fun _ _ h1 h2 h => walkN_inj hp h1 h2 k h)

theorem walk_home {xs : List Int} (hp : IsPerm xs) {i : Nat} (hi : i < xs.length) (k : Nat) : walkN xs i k = i ↔ perN xs i ∣ k := by
  obtain ⟨h1, _, h3, h4⟩ := perN_spec hp hi
  constructor
  · intro h
    rw [walkN_mod h3 k] at h
    refine Nat.dvd_of_mod_eq_zero ?_
    apply Classical.byContradiction
    intro hne
    exact h4 (k % perN xs i) (by omega) (Nat.mod_lt _ (by omega)) h
  · rintro ⟨m, rfl⟩
    rw [Nat.mul_comm]
    exact walkN_mul h3 m

/-- the least number that the first orbits' sizes divide -/
noncomputable def lcmN (xs : List Int) (j : Nat) : Nat := (((leadsN xs xs.length).take j).map (perN xs)).foldl Nat.lcm 1
theorem lcmN_succ {xs : List Int} {k j : Nat} (h : (leadsN xs xs.length)[k]? = some j) : lcmN xs (k + 1) = Nat.lcm (lcmN xs k) (perN xs j) := by
  obtain ⟨hk, hj⟩ := List.getElem?_eq_some_iff.1 h
  unfold lcmN
  rw [List.take_succ_eq_append_getElem hk, hj, List.map_append, List.foldl_append]; rfl

theorem foldl_lcm_dvd : ∀ (l : List Nat) (a k : Nat), l.foldl Nat.lcm a ∣ k ↔ a ∣ k ∧ ∀ x ∈ l, x ∣ k
  | [], a, k => by simp
  | y :: l, a, k => by
    rw [List.foldl_cons, foldl_lcm_dvd l]
    constructor
    · rintro ⟨h1, h2⟩
      refine ⟨Nat.dvd_trans (Nat.dvd_lcm_left a y) h1, fun x hx => ?_⟩
      rcases List.mem_cons.1 hx with rfl | hx
      · exact Nat.dvd_trans (Nat.dvd_lcm_right a x) h1
      · exact h2 x hx
    · rintro ⟨h1, h2⟩
      exact ⟨Nat.lcm_dvd h1 (h2 y (List.mem_cons_self ..)), fun x hx => h2 x (List.mem_cons_of_mem _ hx)⟩

theorem perN_rch {xs : List Int} (hp : IsPerm xs) {x y : Nat} (hx : x < xs.length) (h : Rch xs x y) : perN xs y ∣ perN xs x := by
  have hy := Rch.lt hp hx h
  obtain ⟨k, rfl⟩ := h
  refine (walk_home hp hy _).1 ?_
  rw [← walkN_add, Nat.add_comm, walkN_add, (perN_spec hp hx).2.2.1]

theorem lead_mem {xs : List Int} {i : Nat} (h : leadN xs i = i) : ∀ n, i < n → i ∈ leadsN xs n
  | 0, hn => by omega
  | n + 1, hn => by
    by_cases hl : leadN xs n = n
    · rw [leadsN_succ_lead hl]
      by_cases he : i = n
      · subst he; simp
      · exact List.mem_append_left _ (lead_mem h n (by omega))
    · rw [leadsN_succ_not hl]
      have : i ≠ n := fun e => hl (e ▸ h)
      exact lead_mem h n (by omega)

theorem times_home {xs : List Int} (hp : IsPerm xs) (k : Nat) : timesL xs k = oneL xs.length ↔ lcmN xs (rankN xs xs.length) ∣ k := by
  have ht : lcmN xs (rankN xs xs.length) = ((leadsN xs xs.length).map (perN xs)).foldl Nat.lcm 1 := by
    unfold lcmN; rw [← leadsN_len, List.take_length]
  rw [ht, foldl_lcm_dvd]
  constructor
  · intro h
    refine ⟨Nat.one_dvd _, fun x hx => ?_⟩
    obtain ⟨j, hj, rfl⟩ := List.mem_map.1 hx
    have hj2 := (leadsN_mem hj).1
    exact (walk_home hp hj2 k).1 (mapL_eq (f := fun i => walkN xs i k) (g := fun i => i) h hj2)
  · rintro ⟨_, h⟩
    refine mapL_congr fun i hi => ?_
    refine (walk_home hp hi k).2 ?_
    have hl := leadN_idem hp hi
    have hle := leadN_le_self xs i
    have h1 := h _ (List.mem_map_of_mem (f := perN xs) (lead_mem hl xs.length (by omega)))
    refine Nat.dvd_trans (perN_rch hp (by omega : leadN xs i < xs.length) ?_) h1
    exact Rch.symm hp hi (leadN_rch xs i)

theorem lcmN_pos {xs : List Int} (hp : IsPerm xs) : ∀ j, 1 ≤ lcmN xs j ∧ (j ≤ rankN xs xs.length → lcmN xs j ≤ xs.length ^ j)
  | 0 => ⟨Nat.le_refl _, fun _ => by simp [lcmN]⟩
  | j + 1 => by
    obtain ⟨h1, h2⟩ := lcmN_pos hp j
    by_cases hj : j < rankN xs xs.length
    · obtain ⟨x, hx⟩ : ∃ x, (leadsN xs xs.length)[j]? = some x := ⟨_, List.getElem?_eq_getElem (by rw [leadsN_len]; exact hj)⟩
      have hxl := (leadsN_mem (List.mem_of_getElem? hx)).1
      obtain ⟨p1, p2, _, _⟩ := perN_spec hp hxl
      rw [lcmN_succ hx]
      refine ⟨Nat.lcm_pos h1 p1, fun _ => ?_⟩
      refine Nat.le_trans (Nat.le_of_dvd (Nat.mul_pos h1 p1) (Nat.lcm_dvd_mul _ _)) ?_
      rw [Nat.pow_succ]
      exact Nat.mul_le_mul (h2 (by omega)) p2
    · refine ⟨?_, fun h => by omega⟩
      have : lcmN xs (j + 1) = lcmN xs j := by
        unfold lcmN
        rw [List.take_of_length_le (by rw [leadsN_len]; omega), List.take_of_length_le (by rw [leadsN_len]; omega)]
      rw [this]; exact h1

theorem lcmN_step {xs : List Int} (hp : IsPerm xs) (h8 : xs.length ≤ 8) {j : Nat} (hj : j ≤ rankN xs xs.length) : lcmN xs j ≤ 16777216 := by
  have h1 := (lcmN_pos hp j).2 hj
  have h2 := rankN_le xs xs.length
  refine Nat.le_trans h1 (Nat.le_trans (Nat.pow_le_pow_left h8 j) ?_)
  exact Nat.le_trans (Nat.pow_le_pow_right (by decide) (by omega : j ≤ 8)) (by decide)

/-- the greatest common part by remainders -/
theorem gcd_step (a b : Nat) : Nat.gcd b (a % b) = Nat.gcd a b := by
  rw [Nat.gcd_comm a b, Nat.gcd_rec b a, Nat.gcd_comm]
theorem lcm_by (a b : Nat) (g : Nat) (h : g = Nat.gcd a b) (hg : 0 < g) : a / g * b = Nat.lcm a b := by
  subst h
  unfold Nat.lcm
  rw [Nat.mul_comm a b, Nat.mul_comm (a / _) b, Nat.mul_div_assoc _ (Nat.gcd_dvd_left a b)]
end Go.Proofs.Ytoipbbobkllddaa

