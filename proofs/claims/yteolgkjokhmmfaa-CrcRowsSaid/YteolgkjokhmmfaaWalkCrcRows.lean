/- The law CrcRows, called with any two bytes, returns true. No condition. -/
import Derived.Test.YteolgkjokhmmfaaCrc
set_option linter.unusedVariables false
set_option linter.unusedSimpArgs false
namespace Go.Proofs.Yteolgkjokhmmfaa
open Go.RowKit TG TG.Crc

theorem byte_of (a : Int) (h : (Lit.int .u8 a).wf = true) : ∃ b : UInt8, a = (b.toNat : Int) := by
  have h1 : IntKind.u8.min = 0 := rfl
  have h2 : IntKind.u8.max = 255 := rfl
  simp [Lit.wf, h1, h2] at h
  exact ⟨UInt8.ofNat a.toNat, by simp; omega⟩

theorem refshift_byte (b : UInt8) (w : World) : Calls Try.prog 27 #[.int .u32 (b.toNat : Int)] w fun e w' => e = .returned (.int .u32 (un (row b))) ∧ w = w' := by
  have h := refshift_calls (BitVec.ofNat 32 b.toNat) w
  rwa [un_ofByte, row_eq] at h
theorem row_xor (a b : UInt8) : row (a ^^^ b) = row a ^^^ row b := row_lin a b

set_option maxRecDepth 100000 in
theorem walk_CrcRows (w : World) (a : Int) (ha : (Lit.int .u8 a).wf = true) (b : Int) (hb : (Lit.int .u8 b).wf = true) :
    Calls Try.prog 3 #[.int .u8 a, .int .u8 b] w fun e w' => e = .returned (.bool true) ∧ Below w.heap.size w w' := by
  obtain ⟨i, rfl⟩ := byte_of a ha
  obtain ⟨j, rfl⟩ := byte_of b hb
  have Hx := Lib.hid (bits8_xor i j)
  have hi := byte_hi i
  have hi0 := byte_lo i
  go_enter Try.func3, Try.ntmps3
  go_wp2_with fail
  refine (fixed4_calls _).mono ?_
  rintro e w1 ⟨rfl, hB⟩
  go_wp2_with fail
  refine (row_calls _ _).mono ?_
  rintro e w2 ⟨rfl, rfl⟩
  go_wp2_with fail
  refine (refshift_byte _ _).mono ?_
  rintro e w2 ⟨rfl, rfl⟩
  go_wp2_with fail
  rw [Hx.out]
  refine (row_calls _ _).mono ?_
  rintro e w2 ⟨rfl, rfl⟩
  rw [row_xor]
  go_wp2_with fail
  refine (row_calls _ _).mono ?_
  rintro e w2 ⟨rfl, rfl⟩
  go_wp2_with fail
  refine (row_calls _ _).mono ?_
  rintro e w2 ⟨rfl, rfl⟩
  have hy := bits_xor (row i) (row j)
  go_wp2
  go_ret
  exact ⟨rfl, hB⟩
end Go.Proofs.Yteolgkjokhmmfaa
