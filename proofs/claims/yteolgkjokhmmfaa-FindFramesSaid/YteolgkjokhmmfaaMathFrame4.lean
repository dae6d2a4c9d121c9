/- A frame whose last byte is another one, or some of whose bits are turned, is not read; in plain Lean. Conditions stand in each theorem. -/
import Derived.Test.YteolgkjokhmmfaaMathFrame3
set_option linter.unusedVariables false
set_option linter.unusedSimpArgs false
namespace TG
open Go TG.Crc

theorem fg_last (k : Nat) (hk : k = 1 ∨ k = 2) (p : List UInt8) (hp : p.length ≤ 4096) (n : Nat) (hn : (fp k p).length = n) (y : UInt8) (hy : (fp k p)[n - 1]? ≠ some y) : fgE ((fp k p).set (n - 1) y) = 5 := by
  have hl := fp_length k p
  have hb : (b4 (crc (fb k p))).length = 4 := b4_length _
  have hml : mark4.length = 4 := rfl
  have hfl := fb_length k p
  have hs : (fp k p).set (n - 1) y = fr k p ((b4 (crc (fb k p))).set 3 y) := by
    rw [fp_fr0]
    unfold fr
    rw [List.set_append_right _ _ (by omega), List.set_append_right _ _ (by omega)]
    congr 3
    omega
  have hg : (fp k p)[n - 1]? = (b4 (crc (fb k p)))[3]? := by
    rw [fp_fr0]
    unfold fr
    rw [List.getElem?_append_right (by omega), List.getElem?_append_right (by omega)]
    congr 1
    omega
  rw [hs, fr_E k hk p _ hp (by rw [List.length_set]; omega), if_pos]
  intro e
  rw [List.take_of_length_le (by rw [List.length_set]; omega)] at e
  rw [hg] at hy
  have h3 : ((b4 (crc (fb k p))).set 3 y)[3]? = (b4 (crc (fb k p)))[3]? := by rw [← e]
  rw [List.getElem?_set_self (by omega)] at h3
  exact hy h3.symm

theorem byte_bits {a b : UInt8} (h : ∀ i, i < 8 → a.toNat.testBit i = b.toNat.testBit i) : a = b := by
  apply UInt8.toNat_inj.1
  apply Nat.eq_of_testBit_eq
  intro i
  by_cases hi : i < 8
  · exact h i hi
  · have ha : a.toNat.testBit i = false := Nat.testBit_lt_two_pow (Nat.lt_of_lt_of_le a.toNat_lt (Nat.pow_le_pow_right (by decide) (by omega)))
    have hb : b.toNat.testBit i = false := Nat.testBit_lt_two_pow (Nat.lt_of_lt_of_le b.toNat_lt (Nat.pow_le_pow_right (by decide) (by omega)))
    rw [ha, hb]
theorem bit_at (l : List UInt8) (j i : Nat) (hj : j < l.length) (hi : i < 8) : bit l (8 * j + i) = l[j].toNat.testBit i := by
  unfold bit
  rw [show (8 * j + i) / 8 = j from by omega, show (8 * j + i) % 8 = i from by omega, List.getElem?_eq_getElem hj]
theorem bit_drop (l : List UInt8) (d i : Nat) : bit (l.drop d) i = bit l (8 * d + i) := by
  unfold bit
  rw [List.getElem?_drop, show (8 * d + i) / 8 = d + i / 8 from by omega, show (8 * d + i) % 8 = i % 8 from by omega]
/-- bytes whose bits are the same up to a place -/
theorem take_bits (l m : List UInt8) (n : Nat) (hn : n ≤ l.length) (hl : m.length = l.length) (h : ∀ i, i < 8 * n → bit m i = bit l i) : m.take n = l.take n := by
  apply List.ext_getElem
  · simp [hl]
  · intro j h1 h2
    have hj : j < n := by simp at h1; omega
    simp only [List.getElem_take]
    apply byte_bits
    intro i hi
    rw [← bit_at m j i (by omega) hi, ← bit_at l j i (by omega) hi]
    exact h _ (by omega)
/-- a frame some of whose bits, of payload or sum, are turned, within 32 in a row -/
theorem fg_told (k : Nat) (hk : k = 1 ∨ k = 2) (p : List UInt8) (hp : p.length ≤ 4096) (m : List UInt8) (hm : m.length = (fp k p).length) (T : BitVec 32) (hT : T ≠ 0#32) (f : Nat)
    (h1 : 8 * (5 + (nb p.length).length) ≤ f) (h2 : f + 32 ≤ 8 * (fp k p).length) (h : ∀ i, i < 8 * (fp k p).length → bit m i = (bit (fp k p) i ^^ turnAt T f 32 i)) : fgE m = 5 := by
  have hl := fp_length k p
  have hfl := fb_length k p
  -- the head is as it was
  have hhead : m.take (5 + (nb p.length).length) = (fp k p).take (5 + (nb p.length).length) := take_bits _ _ _ (by omega) hm (fun i hi => by
    rw [h i (by omega)]
    have : turnAt T f 32 i = false := by
      unfold turnAt
      have : ¬ f ≤ i := by omega
      simp [this]
    rw [this]
    simp)
  -- payload and sum
  let p' := (m.drop (5 + (nb p.length).length)).take p.length
  let t' := m.drop (5 + (nb p.length).length + p.length)
  have hp' : p'.length = p.length := by simp only [p', List.length_take, List.length_drop]; omega
  have ht' : t'.length = 4 := by simp only [t', List.length_drop]; omega
  have hfr : (fp k p).take (5 + (nb p.length).length) = mark4 ++ (UInt8.ofNat k :: nb p.length) := by
    rw [fp_fr0]
    unfold fr fb
    have hml : (mark4 ++ (UInt8.ofNat k :: nb p.length)).length = 5 + (nb p.length).length := by simp [mark4]; omega
    rw [show mark4 ++ (UInt8.ofNat k :: (nb p.length ++ p) ++ b4 (crc (UInt8.ofNat k :: (nb p.length ++ p)))) = (mark4 ++ (UInt8.ofNat k :: nb p.length)) ++ (p ++ b4 (crc (UInt8.ofNat k :: (nb p.length ++ p)))) from by simp, ← hml, List.take_left]
  have hmf : m = fr k p' t' := by
    have e1 : m = m.take (5 + (nb p.length).length) ++ (p' ++ t') := by
      have e2 : t' = (m.drop (5 + (nb p.length).length)).drop p.length := by simp only [t']; rw [List.drop_drop]
      rw [e2]
      simp only [p']
      rw [List.take_append_drop, List.take_append_drop]
    rw [e1, hhead, hfr]
    unfold fr fb
    rw [hp']
    simp
  have hd : (fp k p).drop 4 = fb k p ++ b4 (crc (fb k p)) := by rw [fp_fr0, fr_drop4]
  have hd' : m.drop 4 = fb k p' ++ t' := by rw [hmf, fr_drop4]
  have hs : b4 (crc (fb k p')) ≠ t' := by
    refine sum_told (fb k p) (fb k p') t' T hT (f - 32) (by omega) (by rw [fb_length, fb_length, hp']) ht' (fun i hi => ?_)
    rw [← hd, ← hd', bit_drop, bit_drop, h _ (by omega)]
    congr 1
    unfold turnAt
    have e1 : decide (f ≤ 8 * 4 + i) = decide (f - 32 ≤ i) := by apply decide_eq_decide.2; omega
    have e2 : decide (8 * 4 + i < f + 32) = decide (i < f - 32 + 32) := by apply decide_eq_decide.2; omega
    have e3 : 8 * 4 + i - f = i - (f - 32) := by omega
    rw [e1, e2, e3]
  rw [hmf, fr_E k hk p' t' (by omega) (by omega), List.take_of_length_le (by omega), if_pos hs]
end TG
