/- Plain Lean: bytes some bits of which are turned, within 32 in a row, have another sum. No condition beyond that one bit is turned. -/
import Derived.Test.YtepnillddlemaaaMathBits
set_option linter.unusedVariables false
set_option linter.unusedSimpArgs false
namespace TG
open Go TG.Crc

/-- the i-th bit of bytes -/
def bit (l : List UInt8) (i : Nat) : Bool := match l[i / 8]? with
  | some x => x.toNat.testBit (i % 8)
  | none => false
/-- a byte's bits -/
def bits8 (b : UInt8) : List Bool := (List.range 8).map fun i => b.toNat.testBit i
def bitL (l : List UInt8) : List Bool := l.flatMap bits8

theorem bw_xor (s : BitVec 32) (b : UInt8) : up s b = run s (bits8 b) := by
  have h : ∀ (n k : Nat) (s : BitVec 32), k + n = 8 → run s ((List.range n).map fun i => b.toNat.testBit (k + i)) = stn n (s ^^^ (BitVec.ofNat 32 b.toNat >>> k)) := by
    intro n
    induction n with
    | zero =>
      intro k s hk
      obtain rfl : k = 8 := by omega
      have h0 : BitVec.ofNat 32 b.toNat >>> 8 = 0#32 := by
        apply getLsbD_ext
        intro i hi
        rw [BitVec.getLsbD_ushiftRight, BitVec.getLsbD_ofNat]
        have : b.toNat.testBit (8 + i) = false := Nat.testBit_lt_two_pow (Nat.lt_of_lt_of_le b.toNat_lt (Nat.pow_le_pow_right (by decide) (by omega)))
        simp [this]
      rw [h0]
      simp [run, stn]
    | succ n ih =>
      intro k s hk
      rw [List.range_succ_eq_map]
      simp only [List.map_cons, List.map_map, Nat.add_zero, run]
      have := ih (k + 1) (st (s ^^^ bw (b.toNat.testBit k))) (by omega)
      rw [show ((fun i => b.toNat.testBit (k + i)) ∘ Nat.succ) = (fun i => b.toNat.testBit (k + 1 + i)) from by funext i; simp only [Function.comp]; congr 1; omega, this]
      simp only [stn]
      congr 1
      rw [bits_split (BitVec.ofNat 32 b.toNat) k, ← BitVec.xor_assoc, st_xor (s ^^^ bw _), st_shl]
      · congr 3
        have hk32 : k < 32 := by omega
        rw [BitVec.getLsbD_ofNat, decide_eq_true hk32, Bool.true_and]
      · rw [BitVec.getLsbD_ushiftRight]
        exact BitVec.getLsbD_of_ge _ _ (by omega)
  have := h 8 0 s rfl
  unfold up bits8
  simp only [Nat.zero_add] at this
  rw [this]
  simp

theorem ups_run (l : List UInt8) : ∀ s, ups s l = run s (bitL l) := by
  induction l with
  | nil => intro s; rw [ups_none]; rfl
  | cons b l ih =>
    intro s
    rw [ups_cons, ih, bw_xor]
    show _ = run s (bits8 b ++ bitL l)
    rw [run_append]

theorem bitL_length (l : List UInt8) : (bitL l).length = 8 * l.length := by
  induction l with
  | nil => rfl
  | cons b l ih =>
    show (bits8 b ++ bitL l).length = _
    rw [List.length_append, ih]
    simp [bits8]
    omega
theorem bitL_get (l : List UInt8) : ∀ i (h : i < (bitL l).length), (bitL l)[i] = bit l i := by
  induction l with
  | nil => intro i h; simp [bitL] at h
  | cons b l ih =>
    intro i h
    have hb : (bits8 b).length = 8 := by simp [bits8]
    have e : bitL (b :: l) = bits8 b ++ bitL l := rfl
    simp only [e]
    by_cases h8 : i < 8
    · rw [List.getElem_append_left (by omega)]
      have h1 : i / 8 = 0 := by omega
      have h2 : i % 8 = i := by omega
      simp [bit, bits8, h1, h2]
    · rw [List.getElem_append_right (by omega), ih]
      obtain ⟨j, rfl⟩ : ∃ j, i = j + 8 := ⟨i - 8, by omega⟩
      have h1 : (j + 8) / 8 = j / 8 + 1 := by omega
      have h2 : (j + 8) % 8 = j % 8 := by omega
      simp only [hb, Nat.add_sub_cancel, bit, h1, h2, List.getElem?_cons_succ]

/-- the bits that are turned: from frm on as T's, k of them -/
def turnAt (T : BitVec 32) (frm k i : Nat) : Bool := decide (frm ≤ i) && decide (i < frm + k) && T.getLsbD (i - frm)
theorem turnAt_none (T : BitVec 32) (frm i : Nat) : turnAt T frm 0 i = false := by
  unfold turnAt
  by_cases h : frm ≤ i <;> simp [h]
  omega
theorem turnAt_succ (T : BitVec 32) (frm k i : Nat) : turnAt T frm (k + 1) i = (turnAt T frm k i ^^ (decide (i = frm + k) && T.getLsbD k)) := by
  unfold turnAt
  by_cases h1 : i = frm + k
  · subst h1
    simp
  · by_cases h2 : i < frm + k
    · have : i < frm + (k + 1) := by omega
      simp [h1, h2, this]
    · have : ¬ i < frm + (k + 1) := by omega
      simp [h1, h2, this]

theorem told_bytes (b m : List UInt8) (T : BitVec 32) (hT : T ≠ 0#32) (frm : Nat) (h : frm + 32 ≤ 8 * b.length) (hl : m.length = b.length) (hb : ∀ i, i < 8 * b.length → bit m i = (bit b i ^^ turnAt T frm 32 i)) (s : BitVec 32) : ups s b ≠ ups s m := by
  intro he
  have hD : bitL m = List.zipWith (· ^^ ·) (bitL b) (List.replicate frm false ++ wbits T 0 32 ++ List.replicate (8 * b.length - frm - 32) false) := by
    have hw : (wbits T 0 32).length = 32 := by simp [wbits]
    apply List.ext_getElem
    · rw [List.length_zipWith, bitL_length, bitL_length, List.length_append, List.length_append, List.length_replicate, List.length_replicate, hw, hl]
      omega
    · intro i h1 h2
      have hi : i < 8 * b.length := by rw [bitL_length, hl] at h1; exact h1
      rw [bitL_get, hb i hi, List.getElem_zipWith, bitL_get]
      congr 1
      by_cases c1 : i < frm
      · rw [List.getElem_append_left (by simp; omega), List.getElem_append_left (by simp; omega)]
        simp [turnAt]
        omega
      · by_cases c2 : i < frm + 32
        · rw [List.getElem_append_left (by simp [hw]; omega), List.getElem_append_right (by simp; omega)]
          simp only [List.length_replicate, wbits, List.getElem_map, List.getElem_range, Nat.zero_add]
          have c3 : frm ≤ i := by omega
          simp [turnAt, c2, c3]
        · rw [List.getElem_append_right (by simp [hw]; omega)]
          simp [turnAt, c2]
  rw [ups_run, ups_run, hD] at he
  have hx := run_xor (bitL b) (List.replicate frm false ++ wbits T 0 32 ++ List.replicate (8 * b.length - frm - 32) false) s 0#32 (by
    have hw : (wbits T 0 32).length = 32 := by simp [wbits]
    rw [bitL_length, List.length_append, List.length_append, List.length_replicate, List.length_replicate, hw]; omega)
  rw [BitVec.xor_zero] at hx
  rw [hx] at he
  have h0 : run 0#32 (List.replicate frm false ++ wbits T 0 32 ++ List.replicate (8 * b.length - frm - 32) false) = 0#32 := by
    have := congrArg (fun z => run s (bitL b) ^^^ z) he
    simpa [← BitVec.xor_assoc] using this.symm
  exact told T hT frm _ h0

/-- one bit is turned -/
theorem bit_flip (l : List UInt8) (p : Nat) (hp : p / 8 < l.length) (i : Nat) : bit (l.set (p / 8) (l[p / 8] ^^^ UInt8.ofNat (2 ^ (p % 8)))) i = (bit l i ^^ decide (i = p)) := by
  have h8 : p % 8 < 8 := Nat.mod_lt _ (by decide)
  have hpow : 2 ^ (p % 8) < 256 := by
    have : 2 ^ (p % 8) ≤ 2 ^ 7 := Nat.pow_le_pow_right (by decide) (by omega)
    omega
  unfold bit
  by_cases h : i / 8 = p / 8
  · rw [h, List.getElem?_set_self hp, List.getElem?_eq_getElem hp]
    simp only
    rw [UInt8.toNat_xor, Nat.testBit_xor, UInt8.toNat_ofNat', Nat.mod_eq_of_lt hpow, Nat.testBit_two_pow]
    congr 1
    apply Bool.eq_iff_iff.2
    simp
    omega
  · rw [List.getElem?_set_ne (fun e => h e.symm)]
    have : ¬ i = p := fun e => h (by rw [e])
    simp [this]

theorem bit_test (T : BitVec 32) (k : Nat) : (bits .and .u32 (un T / 2 ^ k) 1 == 1) = T.getLsbD k := by
  have h1 : (1 : Int) = un 1#32 := un_one
  have h2 : (2 : Int) ^ k = ((2 ^ k : Nat) : Int) := by simp
  conv => lhs; rw [h1]
  rw [h2, un_shr, bits_and, and_one, BitVec.getLsbD_ushiftRight]
  simp only [Nat.add_zero]
  cases T.getLsbD k
  · rw [show bw false = 0#32 from rfl, un_zero]; decide +kernel
  · exact beq_iff_eq.2 rfl

theorem pow_byte (n : Nat) : (2 : Int) ^ n % 256 = ((UInt8.ofNat (2 ^ n)).toNat : Int) := by simp
theorem told_crc (b m : List UInt8) (T : BitVec 32) (hT : T ≠ 0#32) (frm : Nat) (h : frm + 32 ≤ 8 * b.length) (hl : m.length = b.length) (hb : ∀ i, i < 8 * b.length → bit m i = (bit b i ^^ turnAt T frm 32 i)) : (un (crc b) != un (crc m)) = true := by
  rw [bne_iff_ne]
  intro he
  rw [← crc_eq, ← crc_eq, un_inj] at he
  have := congrArg (fun z => ~~~z) he
  simp only [BitVec.not_not] at this
  exact told_bytes b m T hT frm h hl hb _ this

end TG
