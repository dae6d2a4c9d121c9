/- A frame's bytes, in plain Lean. No condition. -/
import Derived.Test.YtepnillddlemaaaMathWire
import Derived.Test.YtepnillddlemaaaMathBits
namespace TG
open TG.Crc
def fb (k : Nat) (p : List UInt8) : List UInt8 := UInt8.ofNat k :: (nb p.length ++ p)
def fp (k : Nat) (p : List UInt8) : List UInt8 := 199 :: 84 :: 71 :: 1 :: (fb k p ++ b4 (crc (fb k p)))
theorem fb_eq (k : Nat) (p : List UInt8) : UInt8.ofNat k :: (nb p.length ++ p) = fb k p := rfl
theorem fp_eq (k : Nat) (p : List UInt8) : 199 :: 84 :: 71 :: 1 :: (fb k p ++ b4 (crc (fb k p))) = fp k p := rfl
theorem fb_length (k : Nat) (p : List UInt8) : (fb k p).length = 1 + (nb p.length).length + p.length := by simp [fb]; omega
theorem fb_ne (k : Nat) (p : List UInt8) : fb k p ≠ [] := by simp [fb]
attribute [irreducible] fb fp
end TG
