/- math/bits.Len64, Len. -/
import Derived.Test.YtoipbbobkllddaaThings
import Derived.Test.YtoipbbobkllddaaPermOf
import Derived.Lib.BitFns
import Derived.Lib.Tables
namespace Go.Proofs.Ytoipbbobkllddaa
open Go.RowKit

set_option maxHeartbeats 4000000 in
set_option maxRecDepth 100000 in
theorem len64_any (x : Int) (h0 : 0 ≤ x) (h1 : x ≤ 18446744073709551615) (w : World) :
    Calls Try.prog 61 #[.int .u64 x] w fun e w' => e = .returned (.int .i64 (Lib.bitLen x.toNat)) ∧ w = w' := by
  have u9 : Try.prog.underlying 9 = some .string := Try.underlying9
  have hx : x.toNat < 18446744073709551616 := by omega
  by_cases hA : 4294967296 ≤ x
  · by_cases hB : 65536 ≤ x / 4294967296
    · by_cases hC : 256 ≤ x / 4294967296 / 65536
      · have g0 : 0 ≤ x / 4294967296 / 65536 / 256 := by omega
        have g1 : x / 4294967296 / 65536 / 256 ≤ 255 := by omega
        have hl8 := Lib.len8_of (x / 4294967296 / 65536 / 256) g0 g1
        have hle := Lib.bitLen_le8' (x / 4294967296 / 65536 / 256) g0 g1
        have hs := Lib.bitLen_shift56 x.toNat (by omega) hx
        have he : (x / 4294967296 / 65536 / 256).toNat = x.toNat / 72057594037927936 := by omega
        rw [← he] at hs
        have hb0 : 0 ≤ Lib.len8 (x / 4294967296 / 65536 / 256) := by omega
        have hb1 : Lib.len8 (x / 4294967296 / 65536 / 256) ≤ 8 := by omega
        have HE : Hid ((56 : Int) + Lib.len8 (x / 4294967296 / 65536 / 256) = (Lib.bitLen x.toNat : Int)) := by show _ = _; omega
        clear hl8 hle hs
        go_enter Try.func61, Try.ntmps61
        go_wp2
        go_ret
        refine ⟨congrArg Ending.returned (congrArg (Value.int IntKind.i64) ?_), rfl⟩
        have := HE.out
        first | omega | (simp only [wrap64] at *; omega)
      · have g0 : 0 ≤ x / 4294967296 / 65536 := by omega
        have g1 : x / 4294967296 / 65536 ≤ 255 := by omega
        have hl8 := Lib.len8_of (x / 4294967296 / 65536) g0 g1
        have hle := Lib.bitLen_le8' (x / 4294967296 / 65536) g0 g1
        have hs := Lib.bitLen_shift48 x.toNat (by omega) hx
        have he : (x / 4294967296 / 65536).toNat = x.toNat / 281474976710656 := by omega
        rw [← he] at hs
        have hb0 : 0 ≤ Lib.len8 (x / 4294967296 / 65536) := by omega
        have hb1 : Lib.len8 (x / 4294967296 / 65536) ≤ 8 := by omega
        have HE : Hid ((48 : Int) + Lib.len8 (x / 4294967296 / 65536) = (Lib.bitLen x.toNat : Int)) := by show _ = _; omega
        clear hl8 hle hs
        go_enter Try.func61, Try.ntmps61
        go_wp2
        go_ret
        refine ⟨congrArg Ending.returned (congrArg (Value.int IntKind.i64) ?_), rfl⟩
        have := HE.out
        first | omega | (simp only [wrap64] at *; omega)
    · by_cases hC : 256 ≤ x / 4294967296
      · have g0 : 0 ≤ x / 4294967296 / 256 := by omega
        have g1 : x / 4294967296 / 256 ≤ 255 := by omega
        have hl8 := Lib.len8_of (x / 4294967296 / 256) g0 g1
        have hle := Lib.bitLen_le8' (x / 4294967296 / 256) g0 g1
        have hs := Lib.bitLen_shift40 x.toNat (by omega) hx
        have he : (x / 4294967296 / 256).toNat = x.toNat / 1099511627776 := by omega
        rw [← he] at hs
        have hb0 : 0 ≤ Lib.len8 (x / 4294967296 / 256) := by omega
        have hb1 : Lib.len8 (x / 4294967296 / 256) ≤ 8 := by omega
        have HE : Hid ((40 : Int) + Lib.len8 (x / 4294967296 / 256) = (Lib.bitLen x.toNat : Int)) := by show _ = _; omega
        clear hl8 hle hs
        go_enter Try.func61, Try.ntmps61
        go_wp2
        go_ret
        refine ⟨congrArg Ending.returned (congrArg (Value.int IntKind.i64) ?_), rfl⟩
        have := HE.out
        first | omega | (simp only [wrap64] at *; omega)
      · have g0 : 0 ≤ x / 4294967296 := by omega
        have g1 : x / 4294967296 ≤ 255 := by omega
        have hl8 := Lib.len8_of (x / 4294967296) g0 g1
        have hle := Lib.bitLen_le8' (x / 4294967296) g0 g1
        have hs := Lib.bitLen_shift32 x.toNat (by omega) hx
        have he : (x / 4294967296).toNat = x.toNat / 4294967296 := by omega
        rw [← he] at hs
        have hb0 : 0 ≤ Lib.len8 (x / 4294967296) := by omega
        have hb1 : Lib.len8 (x / 4294967296) ≤ 8 := by omega
        have HE : Hid ((32 : Int) + Lib.len8 (x / 4294967296) = (Lib.bitLen x.toNat : Int)) := by show _ = _; omega
        clear hl8 hle hs
        go_enter Try.func61, Try.ntmps61
        go_wp2
        go_ret
        refine ⟨congrArg Ending.returned (congrArg (Value.int IntKind.i64) ?_), rfl⟩
        have := HE.out
        first | omega | (simp only [wrap64] at *; omega)
  · by_cases hB : 65536 ≤ x
    · by_cases hC : 256 ≤ x / 65536
      · have g0 : 0 ≤ x / 65536 / 256 := by omega
        have g1 : x / 65536 / 256 ≤ 255 := by omega
        have hl8 := Lib.len8_of (x / 65536 / 256) g0 g1
        have hle := Lib.bitLen_le8' (x / 65536 / 256) g0 g1
        have hs := Lib.bitLen_shift24 x.toNat (by omega) hx
        have he : (x / 65536 / 256).toNat = x.toNat / 16777216 := by omega
        rw [← he] at hs
        have hb0 : 0 ≤ Lib.len8 (x / 65536 / 256) := by omega
        have hb1 : Lib.len8 (x / 65536 / 256) ≤ 8 := by omega
        have HE : Hid ((24 : Int) + Lib.len8 (x / 65536 / 256) = (Lib.bitLen x.toNat : Int)) := by show _ = _; omega
        clear hl8 hle hs
        go_enter Try.func61, Try.ntmps61
        go_wp2
        go_ret
        refine ⟨congrArg Ending.returned (congrArg (Value.int IntKind.i64) ?_), rfl⟩
        have := HE.out
        first | omega | (simp only [wrap64] at *; omega)
      · have g0 : 0 ≤ x / 65536 := by omega
        have g1 : x / 65536 ≤ 255 := by omega
        have hl8 := Lib.len8_of (x / 65536) g0 g1
        have hle := Lib.bitLen_le8' (x / 65536) g0 g1
        have hs := Lib.bitLen_shift16 x.toNat (by omega) hx
        have he : (x / 65536).toNat = x.toNat / 65536 := by omega
        rw [← he] at hs
        have hb0 : 0 ≤ Lib.len8 (x / 65536) := by omega
        have hb1 : Lib.len8 (x / 65536) ≤ 8 := by omega
        have HE : Hid ((16 : Int) + Lib.len8 (x / 65536) = (Lib.bitLen x.toNat : Int)) := by show _ = _; omega
        clear hl8 hle hs
        go_enter Try.func61, Try.ntmps61
        go_wp2
        go_ret
        refine ⟨congrArg Ending.returned (congrArg (Value.int IntKind.i64) ?_), rfl⟩
        have := HE.out
        first | omega | (simp only [wrap64] at *; omega)
    · by_cases hC : 256 ≤ x
      · have g0 : 0 ≤ x / 256 := by omega
        have g1 : x / 256 ≤ 255 := by omega
        have hl8 := Lib.len8_of (x / 256) g0 g1
        have hle := Lib.bitLen_le8' (x / 256) g0 g1
        have hs := Lib.bitLen_shift8 x.toNat (by omega) hx
        have he : (x / 256).toNat = x.toNat / 256 := by omega
        rw [← he] at hs
        have hb0 : 0 ≤ Lib.len8 (x / 256) := by omega
        have hb1 : Lib.len8 (x / 256) ≤ 8 := by omega
        have HE : Hid ((8 : Int) + Lib.len8 (x / 256) = (Lib.bitLen x.toNat : Int)) := by show _ = _; omega
        clear hl8 hle hs
        go_enter Try.func61, Try.ntmps61
        go_wp2
        go_ret
        refine ⟨congrArg Ending.returned (congrArg (Value.int IntKind.i64) ?_), rfl⟩
        have := HE.out
        first | omega | (simp only [wrap64] at *; omega)
      · have g0 : 0 ≤ x := by omega
        have g1 : x ≤ 255 := by omega
        have hl8 := Lib.len8_of (x) g0 g1
        have hle := Lib.bitLen_le8' (x) g0 g1
        have hs : Lib.bitLen x.toNat = 0 + Lib.bitLen x.toNat := by omega
        have hb0 : 0 ≤ Lib.len8 (x) := by omega
        have hb1 : Lib.len8 (x) ≤ 8 := by omega
        have HE : Hid ((0 : Int) + Lib.len8 (x) = (Lib.bitLen x.toNat : Int)) := by show _ = _; omega
        clear hl8 hle hs
        go_enter Try.func61, Try.ntmps61
        go_wp2
        go_ret
        refine ⟨congrArg Ending.returned (congrArg (Value.int IntKind.i64) ?_), rfl⟩
        have := HE.out
        first | omega | (simp only [wrap64] at *; omega)

set_option maxRecDepth 100000 in
theorem len_any (x : Int) (h0 : 0 ≤ x) (h1 : x ≤ 18446744073709551615) (w : World) :
    Calls Try.prog 41 #[.int .u64 x] w fun e w' => e = .returned (.int .i64 (Lib.bitLen x.toNat)) ∧ w = w' := by
  have HL := Lib.hid (len64_any x h0 h1 w)
  go_enter Try.func41, Try.ntmps41
  go_wp2_with fail
  refine HL.out.mono ?_
  rintro e w1 ⟨rfl, rfl⟩
  go_wp2
  go_ret
  exact ⟨rfl, rfl⟩

/-- how many bits numbers below n need -/
def widthN (n : Nat) : Nat := if n < 2 then 0 else Lib.bitLen (n - 1)

set_option maxRecDepth 100000 in
theorem width_any (n : Int) (h1 : n ≤ 9223372036854775807) (h0 : -9223372036854775808 ≤ n) (w : World) :
    Calls Try.prog 9 #[.int .i64 n] w fun e w' => e = .returned (.int .i64 (widthN n.toNat : Nat)) ∧ w = w' := by
  by_cases h2 : n < 2
  · have HE : Hid (widthN n.toNat = 0) := by show _ = _; unfold widthN; rw [if_pos (by omega)]
    rw [HE.out]
    go_enter Try.func9, Try.ntmps9
    go_wp2
    go_ret
    exact ⟨rfl, rfl⟩
  · have HL := Lib.hid (len_any (n - 1) (by omega) (by omega) w)
    have HE : Hid (widthN n.toNat = Lib.bitLen (n.toNat - 1)) := by show _ = _; unfold widthN; rw [if_neg (by omega)]
    rw [HE.out]
    go_enter Try.func9, Try.ntmps9
    go_wp2_with fail
    refine HL.out.mono ?_
    rintro e w1 ⟨rfl, rfl⟩
    go_wp2
    go_ret
    exact ⟨rfl, rfl⟩
end Go.Proofs.Ytoipbbobkllddaa

