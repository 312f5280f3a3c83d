/- The contracts of slices.Clone at bytes and of bytes.Equal. -/
import Derived.Test.YtoipbbobkllddaaChecked
import Derived.Test.YtoipbbobkllddaaOpen
import Derived.WalkSpells
namespace Go.Proofs.Ytoipbbobkllddaa
open Go.RowKit Go.WideShapes

set_option maxRecDepth 100000 in
theorem info_u8 : (Try.prog.info? 5).map (fun i => (i.zero, i.size, i.bytes)) = some (some (.int .u8 0), 1, 1) := by kernel_rfl

/-- the string of some bytes -/
def strOf (l : List Nat) : ByteArray := strOfNums (l.map fun (x : Nat) => (x : Int))

theorem strOf_inj {l m : List Nat} (hl : ∀ x ∈ l, x < 256) (hm : ∀ x ∈ m, x < 256) (h : strOf l = strOf m) : l = m := by
  have h1 := congrArg (fun s : ByteArray => s.data.toList) h
  simp only [strOf, strOfNums_data, List.map_map] at h1
  have key : ∀ l : List Nat, (∀ x ∈ l, x < 256) → (l.map ((fun n : Int => UInt8.ofNat n.toNat) ∘ fun (x : Nat) => (x : Int))).map UInt8.toNat = l := by
    intro l hl
    rw [List.map_map]
    conv => rhs; rw [← List.map_id l]
    refine List.map_congr_left fun x hx => ?_
    have := hl x hx
    simp [Nat.mod_eq_of_lt this]
  rw [← key l hl, ← key m hm, h1]

theorem convert_reads (src e dst : TypeId) (hs : Try.prog.underlying src = some (.slice e)) (he : Try.prog.underlying e = some (.int .u8)) (hd : Try.prog.underlying dst = some .string)
    {w : World} {a : Option Addr} {len cap : Nat} {l : List Nat} (h : Reads w (.slice a len cap) (bytesOf l)) :
    (convert src dst (.slice a len cap)).run Try.prog w = .ok (.string (strOf l)) w := by
  obtain ⟨ao, c, he', hl, hm, hnil, hc⟩ := h
  simp only [Value.slice.injEq] at he'
  obtain ⟨rfl, rfl, rfl⟩ := he'
  rw [bytesOf_len] at *
  rcases hc with hc | ⟨b, off, rfl, hc⟩
  · have : l = [] := by simpa [bytesOf] using hc
    subst this
    show (convert src dst (.slice a 0 cap)).run Try.prog w = _
    rw [run_convert_bytes_string w src dst e _ 0 cap hs he hd]
    cases a <;> simp [Conv.bytesToString, loadCells]
    all_goals rfl
  · refine run_convert_bytes_arg (P := Try.prog) w src e hs he b off l.length cap _ (by simp) (fun i hi => ?_) dst hd
    have := hc i _ (bytesOf_get l i hi)
    rw [this]
    simp [List.getD_eq_getElem?_getD, hi]

end Go.Proofs.Ytoipbbobkllddaa

