/- Plain: the codes of bits that are all the same. No program in sight. -/
import Derived.Test.YtgmgbgjghncipaaTold
namespace CoderP

theorem pre_length {s : List Bool} (hs : s ≠ []) : ∀ ws, (pre ws s).length = ws.length + s.length
  | [] => by simp [pre]
  | w :: ws => by
    have ih := pre_length hs ws
    unfold pre
    split
    · simp [ih]; omega
    · split
      · simp [ih]; omega
      · have hne := pre_ne (ws := ws) hs
        cases h : pre ws s with
        | nil => exact absurd h hne
        | cons x y => rw [h] at ih; simp at ih ⊢; omega

/-- the counts behind i bits that are all b -/
def same (b : Bool) (i : Nat) : Nat × Nat := if b then (1, 1 + i) else (1 + i, 1)

/-- the doublings for n more bits b -/
def dbls (b : Bool) : Nat → Nat → Nat → Nat → Nat
  | 0, _, _, _ => 0
  | n + 1, i, lo, hi =>
    let md := mid lo hi (same b i)
    let lo1 := if b then md + 1 else lo
    let hi1 := if b then hi else md
    (ways 33 lo1 hi1).length + dbls b n (i + 1) (spanAfter 33 lo1 hi1).1 (spanAfter 33 lo1 hi1).2

theorem dbls_succ (b : Bool) (n i lo hi : Nat) : dbls b (n + 1) i lo hi = (ways 33 (if b then mid lo hi (same b i) + 1 else lo) (if b then hi else mid lo hi (same b i))).length +
    dbls b n (i + 1) (spanAfter 33 (if b then mid lo hi (same b i) + 1 else lo) (if b then hi else mid lo hi (same b i))).1 (spanAfter 33 (if b then mid lo hi (same b i) + 1 else lo) (if b then hi else mid lo hi (same b i))).2 := rfl

theorem bump_same (b : Bool) (i : Nat) (h : i < 65000) : bump (same b i) b = same b (i + 1) := by
  cases b
  · have : ¬ 1 + i + 1 + 1 = 65536 := by omega
    simp [bump, same, this]; omega
  · have : ¬ 1 + (1 + i + 1) = 65536 := by omega
    simp [bump, same, this]; omega

theorem enc_same (b : Bool) : ∀ n i lo hi (c : Nat → Nat × Nat), c 0 = same b i → i + n < 65000 → (enc 1 (List.replicate n b) c 0 lo hi).length = 2 + dbls b n i lo hi
  | 0, i, lo, hi, c, _, _ => by
    show (enc 1 [] c 0 lo hi).length = 2 + 0
    unfold enc; split <;> rfl
  | n + 1, i, lo, hi, c, hc, hn => by
    rw [List.replicate_succ]
    unfold enc dbls
    simp only [hc]
    rw [pre_length (enc_ne _ _ _ _ _ _)]
    have hm : (2 * 0 + b.toNat) % 1 = 0 := Nat.mod_one _
    rw [hm, enc_same b n (i + 1) _ _ (upd c 0 b) (by simp only [upd, if_true, hc]; exact bump_same b i (by omega)) (by omega)]
    omega

def dd : Nat → Nat → Nat → Nat × Nat × Nat
  | 0, lo, hi => (0, lo, hi)
  | f + 1, lo, hi => match dbl lo hi with
    | none => (0, lo, hi)
    | some (_, l, h) => ((dd f l h).1 + 1, (dd f l h).2)

theorem dd_eq : ∀ f lo hi, dd f lo hi = ((ways f lo hi).length, (spanAfter f lo hi).1, (spanAfter f lo hi).2)
  | 0, _, _ => rfl
  | f + 1, lo, hi => by
    unfold dd ways spanAfter
    cases hd : dbl lo hi with
    | none => rfl
    | some q => obtain ⟨w, l, h⟩ := q; simp [dd_eq f l h]

/-- how many digits of two -/
def bin : Nat → Nat → Nat
  | 0, _ => 0
  | f + 1, x => if x = 0 then 0 else 1 + bin f (x / 2)

def runS (b : Bool) : Nat → Nat → Nat → Nat → Nat → Option (Nat × Nat × Nat)
  | 0, _, lo, hi, D => some (lo, hi, D)
  | n + 1, i, lo, hi, D =>
    if D ≤ bin 13 i + 2 then
      let md := mid lo hi (same b i)
      let r := dd 33 (if b then md + 1 else lo) (if b then hi else md)
      runS b n (i + 1) r.2.1 r.2.2 (D + r.1)
    else none

theorem runS_ok (b : Bool) : ∀ n i lo hi D l h E, runS b n i lo hi D = some (l, h, E) → ∀ k, k < n → D + dbls b k i lo hi ≤ bin 13 (i + k) + 2
  | 0, _, _, _, _, _, _, _, _, k, hk => by omega
  | n + 1, i, lo, hi, D, l, h, E, hr, k, hk => by
    unfold runS at hr
    split at hr
    · rename_i hD
      cases k with
      | zero => simpa [dbls] using hD
      | succ k =>
        simp only [dd_eq] at hr
        have := runS_ok b n (i + 1) _ _ _ l h E hr k (by omega)
        unfold dbls
        simp only
        rw [show i + (k + 1) = i + 1 + k by omega]
        omega
    · cases hr

theorem runS_end (b : Bool) : ∀ n i lo hi D l h E, runS b n i lo hi D = some (l, h, E) → ∀ k, D + dbls b (n + k) i lo hi = E + dbls b k (i + n) l h
  | 0, i, lo, hi, D, l, h, E, hr, k => by
    simp only [runS, Option.some.injEq, Prod.mk.injEq] at hr
    obtain ⟨rfl, rfl, rfl⟩ := hr
    simp
  | n + 1, i, lo, hi, D, l, h, E, hr, k => by
    unfold runS at hr
    split at hr
    · simp only [dd_eq] at hr
      have := runS_end b n (i + 1) _ _ _ l h E hr k
      rw [show n + 1 + k = (n + k) + 1 by omega]
      rw [show i + (n + 1) = i + 1 + n by omega, dbls_succ b (n + k) i lo hi]
      omega
    · cases hr

def at' (t : List (Nat × Nat × Nat)) (j : Nat) : Nat × Nat × Nat := t.getD j (0, 0, 0)
def okTab (b : Bool) (t : List (Nat × Nat × Nat)) : Bool := (List.range 120).all fun j => decide (runS b 50 (50 * j) (at' t j).1 (at' t j).2.1 (at' t j).2.2 = some (at' t (j + 1)))

theorem tab_sum {b : Bool} {t : List (Nat × Nat × Nat)} (h : okTab b t = true) (h0 : at' t 0 = (0, 4294967295, 0)) : ∀ j, j ≤ 120 → ∀ k, dbls b (50 * j + k) 0 0 4294967295 = (at' t j).2.2 + dbls b k (50 * j) (at' t j).1 (at' t j).2.1
  | 0, _, k => by rw [h0]; simp
  | j + 1, hj, k => by
    have h1 : runS b 50 (50 * j) (at' t j).1 (at' t j).2.1 (at' t j).2.2 = some (at' t (j + 1)) := by
      have := List.all_eq_true.1 h j (List.mem_range.2 (by omega))
      simpa using this
    have h2 := tab_sum h h0 j (by omega) (50 + k)
    have h3 := runS_end b 50 (50 * j) _ _ _ (at' t (j + 1)).1 (at' t (j + 1)).2.1 (at' t (j + 1)).2.2 h1 k
    rw [show 50 * (j + 1) + k = 50 * j + (50 + k) by omega, h2, h3]
    rfl

theorem tab_small {b : Bool} {t : List (Nat × Nat × Nat)} (h : okTab b t = true) (h0 : at' t 0 = (0, 4294967295, 0)) (n : Nat) (hn : n < 6000) : dbls b n 0 0 4294967295 ≤ bin 13 n + 2 := by
  have hj : n / 50 < 120 := by omega
  have h1 : runS b 50 (50 * (n / 50)) (at' t (n / 50)).1 (at' t (n / 50)).2.1 (at' t (n / 50)).2.2 = some (at' t (n / 50 + 1)) := by
    have := List.all_eq_true.1 h (n / 50) (List.mem_range.2 hj)
    simpa using this
  have h2 := tab_sum h h0 (n / 50) (by omega) (n % 50)
  have h3 := runS_ok b 50 _ _ _ _ (at' t (n / 50 + 1)).1 (at' t (n / 50 + 1)).2.1 (at' t (n / 50 + 1)).2.2 h1 (n % 50) (by omega)
  rw [show 50 * (n / 50) + n % 50 = n by omega] at h2 h3
  omega

def tab0 : List (Nat × Nat × Nat) := [(0, 4294967295, 0), (0, 2694881420, 5), (0, 2721563394, 6), (0, 3640766895, 7), (0, 2735103468, 7), (0, 2190262115, 7), (0, 3652862371, 8), (0, 3132511587, 8), (0, 2741924082, 8), (0, 2437941344, 8), (0, 2194633800, 8), (0, 3990967426, 9), (0, 3658940162, 9), (0, 3377915549, 9), (0, 3136980039, 9), (0, 2928126481, 9), (0, 2745347027, 9), (0, 2584045768, 9), (0, 2440646974, 9), (0, 2312326915, 9), (0, 2196826046, 9), (0, 4184629602, 10), (0, 3994591904, 10), (0, 3821064867, 10), (0, 3661986370, 10), (0, 3515623983, 10), (0, 3380511585, 10), (0, 3255400104, 10), (0, 3139218777, 10), (0, 3031044433, 10), (0, 2930076906, 10), (0, 2835619214, 10), (0, 2747061443, 10), (0, 2663867552, 10), (0, 2585564541, 10), (0, 2511733431, 10), (0, 2442001774, 10), (0, 2376037362, 10), (0, 2313542926, 10), (0, 2254251691, 10), (0, 2197923536, 10), (0, 4288683517, 11), (0, 4186620584, 11), (0, 4089302555, 11), (0, 3996406063, 11), (0, 3907636468, 11), (0, 3822724743, 11), (0, 3741424747, 11), (0, 3663510838, 11), (0, 3588775791, 11), (0, 3517028947, 11), (0, 3448094605, 11), (0, 3381810558, 11), (0, 3318026858, 11), (0, 3256604642, 11), (0, 3197415145, 11), (0, 3140338802, 11), (0, 3085264439, 11), (0, 3032088536, 11), (0, 2980714597, 11), (0, 2931052549, 11), (0, 2883018235, 11), (0, 2836532915, 11), (0, 2791522849, 11), (0, 2747918909, 11), (0, 2705656214, 11), (0, 2664673819, 11), (0, 2624914415, 11), (0, 2586324057, 11), (0, 2548851937, 11), (0, 2512450144, 11), (0, 2477073461, 11), (0, 2442679191, 11), (0, 2409226973, 11), (0, 2376678627, 11), (0, 2344998004, 11), (0, 2314150858, 11), (0, 2284104731, 11), (0, 2254828815, 11), (0, 2226293880, 11), (0, 2198472135, 11), (0, 2171337179, 11), (0, 4289727774, 12), (0, 4238056734, 12), (0, 4187615663, 12), (0, 4138361161, 12), (0, 4090251846, 12), (0, 4043248234, 12), (0, 3997312646, 12), (0, 3952409086, 12), (0, 3908503163, 12), (0, 3865561991, 12), (0, 3823554122, 12), (0, 3782449452, 12), (0, 3742219163, 12), (0, 3702835650, 12), (0, 3664272457, 12), (0, 3626504217, 12), (0, 3589506597, 12), (0, 3553256253, 12), (0, 3517730768, 12), (0, 3482908623, 12), (0, 3448769127, 12), (0, 3415292404, 12), (0, 3382459341, 12), (0, 3350251552, 12), (0, 3318651345, 12), (0, 3287641682, 12), (0, 3257206168, 12), (0, 3227329001, 12), (0, 3197994955, 12), (0, 3169189354, 12), (0, 3140898048, 12), (0, 3113107384, 12), (0, 3085804190, 12), (0, 3058975752, 12), (0, 3032609789, 12), (0, 3006694455, 12), (0, 2981218285, 12), (0, 2956170217, 12), (0, 2931539549, 12)]

def tab1 : List (Nat × Nat × Nat) := [(0, 4294967295, 0), (1600085829, 4294967295, 5), (1573403812, 4294967295, 6), (654200218, 4294967295, 7), (1559863648, 4294967295, 7), (2104704991, 4294967295, 7), (642104551, 4294967295, 8), (1162455343, 4294967295, 8), (1553042848, 4294967295, 8), (1857025578, 4294967295, 8), (2100333111, 4294967295, 8), (303999109, 4294967295, 9), (636026386, 4294967295, 9), (917051010, 4294967295, 9), (1157986525, 4294967295, 9), (1366840082, 4294967295, 9), (1549619533, 4294967295, 9), (1710920790, 4294967295, 9), (1854319574, 4294967295, 9), (1982639615, 4294967295, 9), (2098140474, 4294967295, 9), (110336149, 4294967295, 10), (300373868, 4294967295, 10), (473900922, 4294967295, 10), (632979430, 4294967295, 10), (779341825, 4294967295, 10), (914454233, 4294967295, 10), (1039565717, 4294967295, 10), (1155747049, 4294967295, 10), (1263921393, 4294967295, 10), (1364888919, 4294967295, 10), (1459346610, 4294967295, 10), (1547904380, 4294967295, 10), (1631098267, 4294967295, 10), (1709401274, 4294967295, 10), (1783232372, 4294967295, 10), (1852964019, 4294967295, 10), (1918928428, 4294967295, 10), (1981422851, 4294967295, 10), (2040714073, 4294967295, 10), (2097042218, 4294967295, 10), (6280666, 4294967295, 11), (108343628, 4294967295, 11), (205661681, 4294967295, 11), (298558195, 4294967295, 11), (387327809, 4294967295, 11), (472239546, 4294967295, 11), (553539558, 4294967295, 11), (631453480, 4294967295, 11), (706188536, 4294967295, 11), (777935386, 4294967295, 11), (846869738, 4294967295, 11), (913153790, 4294967295, 11), (976937498, 4294967295, 11), (1038359720, 4294967295, 11), (1097549218, 4294967295, 11), (1154625564, 4294967295, 11), (1209699929, 4294967295, 11), (1262875833, 4294967295, 11), (1314249773, 4294967295, 11), (1363911821, 4294967295, 11), (1411946133, 4294967295, 11), (1458431450, 4294967295, 11), (1503441514, 4294967295, 11), (1547045452, 4294967295, 11), (1589308142, 4294967295, 11), (1630290530, 4294967295, 11), (1670049926, 4294967295, 11), (1708640276, 4294967295, 11), (1746112392, 4294967295, 11), (1782514179, 4294967295, 11), (1817890853, 4294967295, 11), (1852285111, 4294967295, 11), (1885737322, 4294967295, 11), (1918285661, 4294967295, 11), (1949966276, 4294967295, 11), (1980813411, 4294967295, 11), (2010859531, 4294967295, 11), (2040135434, 4294967295, 11), (2068670360, 4294967295, 11), (2096492089, 4294967295, 11), (2123627040, 4294967295, 11), (5233345, 4294967295, 12), (56904409, 4294967295, 12), (107345505, 4294967295, 12), (156600031, 4294967295, 12), (204709368, 4294967295, 12), (251712995, 4294967295, 12), (297648599, 4294967295, 12), (342552175, 4294967295, 12), (386458115, 4294967295, 12), (429399301, 4294967295, 12), (471407185, 4294967295, 12), (512511871, 4294967295, 12), (552742172, 4294967295, 12), (592125697, 4294967295, 12), (630688906, 4294967295, 12), (668457158, 4294967295, 12), (705454785, 4294967295, 12), (741705139, 4294967295, 12), (777230631, 4294967295, 12), (812052787, 4294967295, 12), (846192290, 4294967295, 12), (879669020, 4294967295, 12), (912502088, 4294967295, 12), (944709884, 4294967295, 12), (976310099, 4294967295, 12), (1007319768, 4294967295, 12), (1037755287, 4294967295, 12), (1067632457, 4294967295, 12), (1096966506, 4294967295, 12), (1125772111, 4294967295, 12), (1154063422, 4294967295, 12), (1181854090, 4294967295, 12), (1209157287, 4294967295, 12), (1235985725, 4294967295, 12), (1262351688, 4294967295, 12), (1288267022, 4294967295, 12), (1313743192, 4294967295, 12), (1338791258, 4294967295, 12), (1363421925, 4294967295, 12)]

theorem tab0_ok : okTab false tab0 = true := by decide +kernel
theorem tab1_ok : okTab true tab1 = true := by decide +kernel

/-- So many bits, all the same: their code is short. -/
theorem code_short (b : Bool) (n : Nat) (hn : n < 6000) : (code 0 (List.replicate n b)).length ≤ bin 13 n + 4 := by
  have h : (code 0 (List.replicate n b)).length = 2 + dbls b n 0 0 4294967295 := enc_same b n 0 0 4294967295 _ (by cases b <;> rfl) (by omega)
  rw [h]
  cases b
  · have := tab_small tab0_ok (by decide) n hn; omega
  · have := tab_small tab1_ok (by decide) n hn; omega
end CoderP

