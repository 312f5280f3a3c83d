/- The contracts of slices.Clone at bytes and of bytes.Equal. -/
import Derived.Test.YtpepihciaendlaaChecked
import Derived.Test.YtpepihciaendlaaOpen
import Derived.WalkSpells
namespace Go.Proofs.Ytpepihciaendlaa
open Go.RowKit Go.WideShapes

theorem info_u8 : (Try.prog.info? 5).map (fun i => (i.zero, i.size, i.bytes)) = some (some (.int .u8 0), 1, 1) := by kernel_rfl

set_option maxHeartbeats 400000 in
theorem cloneBytes_any (v : Value) (xs : List Value) (w : World) (hv : Reads w v xs) (hone : ∀ u ∈ xs, u.oneCell' = true) (hbytes : xs.length ≤ 140737488355328) :
    Calls Try.prog 23 #[v] w fun e w' => ∃ v', e = .returned v' ∧ w'.ownsRow w.heap.size 5 1 v' xs.length xs ∧ Keeps [] w w' := by
  obtain ⟨ao, cap, rfl, hl, hm, hnil, hc⟩ := hv
  have hq := fun (w : World) => Lib.run_eql_slice_nil (P := Try.prog) w 22 5 ao xs.length cap 0 0 Try.underlying22
  obtain ⟨i0, hi, hz0, hz1, hz2⟩ := info_parts info_u8
  cases ao with
  | none =>
    have hx : xs = [] := by
      rcases hc with hc | ⟨b, off, h, _⟩
      · exact hc
      · cases h
    subst hx
    obtain rfl := hnil rfl
    have hq0 : ∀ w, (binOp .eql 22 (.slice none 0 0) (.slice none 0 0)).run Try.prog w = .ok (.bool true) w := hq
    clear hq
    show Calls Try.prog _ #[.slice none 0 0] w _
    go_enter Try.func23, Try.ntmps23
    go_wp2
    go_ret
    exact ⟨_, rfl, World.ownsRow_nil _ _ _ _, Keeps.refl _ _⟩
  | some ad =>
    have hnews : ∀ j u, xs[j]? = some u → (w.alloc (.cells #[] 5)).cell? (ad.add j) = some u := by
      intro j u hu
      rcases hc with hc | ⟨b, off, h, hc⟩
      · subst hc; simp at hu
      · cases h
        have ha : (⟨b, off, none⟩ : Addr).add j = ⟨b, off + j, none⟩ := by unfold Addr.add; split <;> simp_all
        rw [ha]
        have h1 := hc j u hu
        have hb : Below w.heap.size w (w.alloc (.cells #[] 5)) := (Below.refl _ _).alloc (Nat.le_refl _) _
        rw [hb.cell (p := ⟨b, off + j, none⟩) (World.block_lt_of_cell? w _ h1)]
        exact h1
    have H := Lib.hid hnews
    have hown := Lib.hid (World.ownsRow_made (base := w.heap.size) (e := 5) (size := 1) w #[] 0 (Nat.le_refl _) (by decide) (by simp))
    clear hnews hc
    go_enter Try.func23, Try.ntmps23
    go_wp2_with (at_builtin; refine wpList_append_own _ rfl _ _ 22 rfl w.heap.size 5 i0 (.int .u8 0) 1 1 Try.underlying22 hi hz0 hz1 hz2 rfl (by decide) _ _ _ rfl hown.out ad xs.length cap xs rfl (by simp) H.out hone ?c3 ?c4 ?c5 ?_)
    case c3 => omega
    case c4 => omega
    case c5 => simp
    intro v' w1 hown' hgrow _
    try simp only [Nat.zero_add, List.nil_append] at hown'
    go_wp2
    go_ret
    refine ⟨_, rfl, hown', ((Keeps.refl [] w).alloc _).grown hgrow ?_⟩
    intro k hk
    simp [Value.ownBlock] at hk
    omega

/-- the string of some bytes -/
def strOf (l : List Nat) : ByteArray := strOfNums (l.map fun (x : Nat) => (x : Int))

theorem strOf_inj {l m : List Nat} (hl : ∀ x ∈ l, x < 256) (hm : ∀ x ∈ m, x < 256) (h : strOf l = strOf m) : l = m := by
  have h1 := congrArg (fun s : ByteArray => s.data.toList) h
  simp only [strOf, strOfNums_data, List.map_map] at h1
  have key : ∀ l : List Nat, (∀ x ∈ l, x < 256) → (l.map ((fun n : Int => UInt8.ofNat n.toNat) ∘ fun (x : Nat) => (x : Int))).map UInt8.toNat = l := by
    intro l hl
    rw [List.map_map]
    conv => rhs; rw [← List.map_id l]
    refine List.map_congr_left fun x hx => ?_
    have := hl x hx
    simp [Nat.mod_eq_of_lt this]
  rw [← key l hl, ← key m hm, h1]

theorem convert_reads (src e dst : TypeId) (hs : Try.prog.underlying src = some (.slice e)) (he : Try.prog.underlying e = some (.int .u8)) (hd : Try.prog.underlying dst = some .string)
    {w : World} {a : Option Addr} {len cap : Nat} {l : List Nat} (h : Reads w (.slice a len cap) (bytesOf l)) :
    (convert src dst (.slice a len cap)).run Try.prog w = .ok (.string (strOf l)) w := by
  obtain ⟨ao, c, he', hl, hm, hnil, hc⟩ := h
  simp only [Value.slice.injEq] at he'
  obtain ⟨rfl, rfl, rfl⟩ := he'
  rw [bytesOf_len] at *
  rcases hc with hc | ⟨b, off, rfl, hc⟩
  · have : l = [] := by simpa [bytesOf] using hc
    subst this
    show (convert src dst (.slice a 0 cap)).run Try.prog w = _
    rw [run_convert_bytes_string w src dst e _ 0 cap hs he hd]
    cases a <;> simp [Conv.bytesToString, loadCells]
    all_goals rfl
  · refine run_convert_bytes_arg (P := Try.prog) w src e hs he b off l.length cap _ (by simp) (fun i hi => ?_) dst hd
    have := hc i _ (bytesOf_get l i hi)
    rw [this]
    simp [List.getD_eq_getElem?_getD, hi]

theorem bytesEqual_any (u v : Value) (l m : List Nat) (w : World) (hu : Reads w u (bytesOf l)) (hv : Reads w v (bytesOf m)) (hl : ∀ x ∈ l, x < 256) (hm : ∀ x ∈ m, x < 256) :
    Calls Try.prog 25 #[u, v] w fun e w' => e = .returned (.bool (decide (l = m))) ∧ w = w' := by
  have hu' := hu
  have hv' := hv
  obtain ⟨a, c, rfl, _, _, _, _⟩ := hu
  obtain ⟨b, d, rfl, _, _, _, _⟩ := hv
  have k1 := convert_reads 22 5 9 Try.underlying22 Try.underlying5 Try.underlying9 hu'
  have k2 := convert_reads 22 5 9 Try.underlying22 Try.underlying5 Try.underlying9 hv'
  go_enter Try.func25, Try.ntmps25
  go_wp2
  go_ret
  refine ⟨ret_bool ?_, rfl⟩
  rw [Bool.eq_iff_iff, beq_iff_eq, decide_eq_true_iff, ByteArray.toList_eq, ByteArray.toList_eq]
  constructor
  · intro h
    exact strOf_inj hl hm (bytes_inj h)
  · intro h; rw [h]
end Go.Proofs.Ytpepihciaendlaa

