/- Plain Lean: the integer operations of the walks on 32 bits are those of the machine on 32 bits; the sum by rows is the sum by shifts. No condition. -/
import Derived.Laws.BitsLemmas
import Derived.Test.YtepnillddlemaaaMathCrc
set_option linter.unusedVariables false
set_option linter.unusedSimpArgs false
namespace TG
open Go TG.Crc

/-- a word as a number -/
def un (v : BitVec 32) : Int := (v.toNat : Int)
theorem un_lo (v : BitVec 32) : 0 ≤ un v := Int.natCast_nonneg _
theorem un_hi (v : BitVec 32) : un v < 4294967296 := by have := v.isLt; unfold un; omega
theorem un_inj {a b : BitVec 32} : un a = un b ↔ a = b := ⟨fun h => BitVec.eq_of_toNat_eq (by unfold un at h; omega), fun h => by rw [h]⟩
theorem ofInt_un (v : BitVec 32) : BitVec.ofInt 32 (un v) = v := by unfold un; rw [BitVec.ofInt_natCast]; simp
theorem wrap_toNat (v : BitVec 32) : IntKind.u32.wrap (v.toNat : Int) = un v := by rw [IntKind.wrap_u32]; have := v.isLt; unfold un; omega
theorem bits_xor (a b : BitVec 32) : bits .xor .u32 (un a) (un b) = un (a ^^^ b) := by
  show IntKind.u32.wrap (((BitVec.ofInt 32 (un a)) ^^^ (BitVec.ofInt 32 (un b))).toNat : Int) = _
  rw [ofInt_un, ofInt_un, wrap_toNat]
theorem bits_and (a b : BitVec 32) : bits .and .u32 (un a) (un b) = un (a &&& b) := by
  show IntKind.u32.wrap (((BitVec.ofInt 32 (un a)) &&& (BitVec.ofInt 32 (un b))).toNat : Int) = _
  rw [ofInt_un, ofInt_un, wrap_toNat]
theorem un_half (v : BitVec 32) : un v / (2 : Int) = un (v >>> 1) := by unfold un; rw [BitVec.toNat_ushiftRight, Nat.shiftRight_eq_div_pow]; omega
theorem un_shr (v : BitVec 32) (k : Nat) : un v / (2 ^ k : Nat) = un (v >>> k) := by unfold un; rw [BitVec.toNat_ushiftRight, Nat.shiftRight_eq_div_pow]; omega
theorem un_neg (v : BitVec 32) : -un v % 4294967296 = un (-v) := by unfold un; rw [BitVec.toNat_neg]; have := v.isLt; omega
theorem un_not (v : BitVec 32) : 4294967295 - un v = un (~~~v) := by unfold un; rw [BitVec.toNat_not]; have := v.isLt; omega
theorem bits_not (v : BitVec 32) : bits .xor .u32 4294967295 (un v) = un (~~~v) := by
  rw [show (4294967295 : Int) = un (BitVec.allOnes 32) from rfl, bits_xor, BitVec.allOnes_xor]
theorem bits_not' (v : BitVec 32) : bits .xor .u32 IntKind.u32.max (un v) = un (~~~v) := bits_not v
theorem and_one (v : BitVec 32) : v &&& 1#32 = bw (v.getLsbD 0) := by
  apply getLsbD_ext
  intro i hi
  rw [BitVec.getLsbD_and]
  cases i with
  | zero => cases v.getLsbD 0 <;> decide
  | succ i =>
    have h1 : (1#32).getLsbD (i + 1) = false := by simp [BitVec.getLsbD_one]
    rw [h1, Bool.and_false]
    cases v.getLsbD 0
    · simp [bw]
    · exact h1.symm
theorem step_eq (v : BitVec 32) : bits .xor .u32 (un v / 2) (bits .and .u32 3988292384 (-bits .and .u32 (un v) 1 % 4294967296)) = un (st v) := by
  rw [show (1 : Int) = un 1#32 from rfl, bits_and, un_neg, show (3988292384 : Int) = un poly from rfl, bits_and, un_half, bits_xor]
  congr 1
  unfold st
  congr 1
  rw [and_one]
  cases v.getLsbD 0
  · simp [bw]
  · simp only [bw, if_true]; decide
theorem stn_succ' (n : Nat) (x : BitVec 32) : stn (n + 1) x = st (stn n x) := by rw [stn_add]; rfl

theorem mod_next (x k : Nat) : x % 2 ^ (k + 1) = x % 2 ^ k + (if x / 2 ^ k % 2 = 1 then 2 ^ k else 0) := by
  rw [Nat.pow_succ, Nat.mod_mul]
  have : x / 2 ^ k % 2 = 0 ∨ x / 2 ^ k % 2 = 1 := by omega
  rcases this with h | h <;> simp [h]
theorem xor_bit (a b : BitVec 32) (k : Nat) : ((a ^^^ b).toNat / 2 ^ k % 2 = 1) ↔ (a >>> k).toNat % 2 ≠ (b >>> k).toNat % 2 := by
  rw [BitVec.toNat_ushiftRight, BitVec.toNat_ushiftRight, Nat.shiftRight_eq_div_pow, Nat.shiftRight_eq_div_pow, BitVec.toNat_xor, ← Nat.shiftRight_eq_div_pow, Nat.shiftRight_xor_distrib, Nat.shiftRight_eq_div_pow, Nat.shiftRight_eq_div_pow]
  generalize a.toNat / 2 ^ k = p
  generalize b.toNat / 2 ^ k = q
  have h := Nat.xor_mod_two_pow (a := p) (b := q) (n := 1)
  simp only [Nat.pow_one] at h
  rw [h]
  have hp : p % 2 = 0 ∨ p % 2 = 1 := by omega
  have hq : q % 2 = 0 ∨ q % 2 = 1 := by omega
  rcases hp with hp | hp <;> rcases hq with hq | hq <;> simp [hp, hq]
/-- the exclusive or's lowest bits; a power, as far as it goes -/
def xl (a b : BitVec 32) (k : Nat) : Int := (((a ^^^ b).toNat % 2 ^ k : Nat) : Int)
theorem xl_all (a b : BitVec 32) : xl a b 32 = un (a ^^^ b) := by unfold xl un; rw [Nat.mod_eq_of_lt (a ^^^ b).isLt]
theorem xl_none (a b : BitVec 32) : xl a b 0 = 0 := by simp [xl, Nat.mod_one]
theorem xl_lo (a b : BitVec 32) (k : Nat) : 0 ≤ xl a b k := Int.natCast_nonneg _
def pw (k : Nat) : Int := if k < 32 then ((2 ^ k : Nat) : Int) else 0
theorem pw_lo (k : Nat) : 0 ≤ pw k := by
  unfold pw
  split
  · exact Int.natCast_nonneg _
  · omega
theorem pw_hi (k : Nat) : pw k ≤ 2147483648 := by
  unfold pw
  split
  · rename_i h
    have : 2 ^ k ≤ 2 ^ 31 := Nat.pow_le_pow_right (by decide) (by omega)
    have h2 : 2 ^ 31 = 2147483648 := by decide
    omega
  · omega
theorem pw_succ (k : Nat) (h : k < 32) : 2 * pw k % 4294967296 = pw (k + 1) := by
  unfold pw
  rw [if_pos h]
  by_cases h2 : k + 1 < 32
  · rw [if_pos h2]
    have h3 : 2 ^ (k + 1) ≤ 2 ^ 31 := Nat.pow_le_pow_right (by decide) (by omega)
    have h4 : 2 ^ 31 = 2147483648 := by decide
    have h5 : 2 ^ (k + 1) = 2 * 2 ^ k := by rw [Nat.pow_succ, Nat.mul_comm]
    omega
  · rw [if_neg h2, show k = 31 from by omega]
    decide
theorem xl_hi (a b : BitVec 32) (k : Nat) (h : k < 32) : xl a b k < pw k := by
  unfold xl pw
  rw [if_pos h]
  have := Nat.mod_lt (a ^^^ b).toNat (Nat.two_pow_pos k)
  omega
theorem xl_yes (a b : BitVec 32) (k : Nat) (h : k < 32) (hb : un (a >>> k) % 2 ≠ un (b >>> k) % 2) : xl a b k + pw k = xl a b (k + 1) := by
  have h1 := (xor_bit a b k).2 (by unfold un at hb; omega)
  unfold xl pw
  rw [if_pos h, mod_next, if_pos h1]
  omega
theorem xl_no (a b : BitVec 32) (k : Nat) (hb : un (a >>> k) % 2 = un (b >>> k) % 2) : xl a b k = xl a b (k + 1) := by
  have h1 : ¬ (a ^^^ b).toNat / 2 ^ k % 2 = 1 := fun h => (xor_bit a b k).1 h (by unfold un at hb; omega)
  unfold xl
  rw [mod_next, if_neg h1]
  omega
theorem un_next (a : BitVec 32) (k : Nat) : un (a >>> k) / (2 : Int) = un (a >>> (k + 1)) := by rw [un_half, ← BitVec.shiftRight_add]
/-- what comes of a byte -/
def row (b : UInt8) : BitVec 32 := stn 8 (BitVec.ofNat 32 b.toNat)
/-- the sum's state behind a byte -/
def up (s : BitVec 32) (b : UInt8) : BitVec 32 := stn 8 (s ^^^ BitVec.ofNat 32 b.toNat)
def ups (s : BitVec 32) (l : List UInt8) : BitVec 32 := l.foldl up s
/-- the sum -/
def crc (l : List UInt8) : BitVec 32 := ~~~(ups (~~~0#32) l)

/-- eight shifts of a word whose lowest byte is out: a plain shift -/
theorem st_even (x : BitVec 32) (h : x.getLsbD 0 = false) : st x = x >>> 1 := by unfold st; rw [h]; simp
theorem stn_high (k : Nat) : ∀ x : BitVec 32, (∀ i, i < k → x.getLsbD i = false) → stn k x = x >>> k := by
  induction k with
  | zero => intro x _; simp [stn]
  | succ k ih =>
    intro x h
    simp only [stn]
    rw [st_even x (h 0 (by omega)), ih]
    · rw [← BitVec.shiftRight_add, Nat.add_comm]
    · intro i hi
      rw [BitVec.getLsbD_ushiftRight]
      exact h _ (by omega)
theorem low8 (s : BitVec 32) : s = (s >>> 8) <<< 8 ^^^ BitVec.ofNat 32 (s.toNat % 256) := by
  apply getLsbD_ext
  intro i hi
  rw [BitVec.getLsbD_xor, BitVec.getLsbD_shiftLeft, BitVec.getLsbD_ushiftRight, BitVec.getLsbD_ofNat]
  have hm : (s.toNat % 256).testBit i = (decide (i < 8) && s.toNat.testBit i) := by rw [show 256 = 2 ^ 8 from rfl, Nat.testBit_mod_two_pow]
  rw [hm]
  by_cases h : i < 8
  · simp [h, hi]
    rfl
  · have : 8 + (i - 8) = i := by omega
    simp [h, hi, this]
/-- the step by rows: the state shifted, and the row of its lowest byte and the byte -/
theorem up_row (s : BitVec 32) (b : UInt8) : up s b = (s >>> 8) ^^^ row (UInt8.ofNat (s.toNat % 256) ^^^ b) := by
  unfold up row
  have hb : BitVec.ofNat 32 (UInt8.ofNat (s.toNat % 256) ^^^ b).toNat = BitVec.ofNat 32 (s.toNat % 256) ^^^ BitVec.ofNat 32 b.toNat := by
    rw [UInt8.toNat_xor, ← BitVec.ofNat_xor]
    congr 2
    simp
  rw [hb]
  conv => lhs; rw [low8 s]
  rw [BitVec.xor_assoc, stn_xor]
  congr 1
  rw [stn_high 8 _ (by intro i hi; rw [BitVec.getLsbD_shiftLeft]; simp [hi])]
  apply getLsbD_ext
  intro i hi
  rw [BitVec.getLsbD_ushiftRight, BitVec.getLsbD_shiftLeft, BitVec.getLsbD_ushiftRight, BitVec.getLsbD_ushiftRight]
  by_cases h : 8 + i < 32
  · simp [h]
  · rw [BitVec.getLsbD_of_ge _ (8 + i) (by omega)]; simp [h]

theorem ofInt_u8 (a : UInt8) : BitVec.ofInt 8 (a.toNat : Int) = a.toBitVec := by rw [BitVec.ofInt_natCast]; exact BitVec.eq_of_toNat_eq (by simp)
theorem bits8_xor (a b : UInt8) : bits .xor .u8 (a.toNat : Int) (b.toNat : Int) = ((a ^^^ b).toNat : Int) := by
  show IntKind.u8.wrap (((BitVec.ofInt 8 (a.toNat : Int)) ^^^ (BitVec.ofInt 8 (b.toNat : Int))).toNat : Int) = _
  rw [ofInt_u8, ofInt_u8, IntKind.wrap_u8]
  have := (a ^^^ b).toNat_lt
  rw [show (a.toBitVec ^^^ b.toBitVec).toNat = (a ^^^ b).toNat from rfl]
  omega
theorem un_low (v : BitVec 32) : un v % 256 = ((UInt8.ofNat (v.toNat % 256)).toNat : Int) := by unfold un; simp
theorem ups_snoc (s : BitVec 32) (l : List UInt8) (b : UInt8) : ups s (l ++ [b]) = up (ups s l) b := by simp [ups]
theorem ups_append (s : BitVec 32) (l m : List UInt8) : ups s (l ++ m) = ups (ups s l) m := by simp [ups]
theorem ups_take (s : BitVec 32) (l : List UInt8) (k : Nat) (h : k < l.length) : ups s (l.take (k + 1)) = up (ups s (l.take k)) l[k] := by
  rw [List.take_succ_eq_append_getElem h, ups_snoc]
/-- the program's step -/
theorem step_row (v : BitVec 32) (b : UInt8) : bits .xor .u32 (un v / 256) (un (row (UInt8.ofNat (v.toNat % 256) ^^^ b))) = un (up v b) := by
  rw [up_row, show (256 : Int) = ((2 ^ 8 : Nat) : Int) from rfl, un_shr, bits_xor]

def more (s : BitVec 32) (l : List UInt8) : BitVec 32 := ~~~(ups (~~~s) l)
theorem more_more (s : BitVec 32) (l m : List UInt8) : more (more s l) m = more s (l ++ m) := by unfold more; rw [BitVec.not_not, ups_append]
theorem more_nil (s : BitVec 32) : more s [] = s := by simp [more, ups]
def sums (ls : List (List UInt8)) : BitVec 32 := ls.foldl more 0#32
theorem sums_take (ls : List (List UInt8)) (k : Nat) (h : k < ls.length) : sums (ls.take (k + 1)) = more (sums (ls.take k)) ls[k] := by
  unfold sums; rw [List.take_succ_eq_append_getElem h, List.foldl_append]; rfl
theorem sums_eq (ls : List (List UInt8)) : sums ls = crc ls.flatten := by
  have : ∀ s, ls.foldl more s = more s ls.flatten := by
    induction ls with
    | nil => intro s; exact (more_nil s).symm
    | cons a l ih => intro s; simp only [List.foldl_cons, List.flatten_cons]; rw [ih, more_more]
  exact this 0#32

theorem lsb_un (v : BitVec 32) : un v % 2 = 1 ↔ v.getLsbD 0 = true := by
  unfold un
  rw [BitVec.getLsbD, Nat.testBit_zero]
  simp
  omega
theorem st_odd (v : BitVec 32) (h : un v % 2 = 1) : (v >>> 1) ^^^ poly = st v := by unfold st; rw [(lsb_un v).1 h]; rfl
theorem st_even' (v : BitVec 32) (h : ¬ un v % 2 = 1) : un v / (2 : Int) = un (st v) := by
  rw [un_half, st_even]
  cases hb : v.getLsbD 0 with
  | false => rfl
  | true => exact absurd ((lsb_un v).2 hb) h
theorem un_poly : (3988292384 : Int) = un poly := rfl
theorem un_sub (v : BitVec 32) : 4294967295 - un v = un (~~~v) := un_not v
theorem up_eq (s : BitVec 32) (b : UInt8) : stn 8 (s ^^^ BitVec.ofNat 32 b.toNat) = up s b := rfl
theorem crc_eq (l : List UInt8) : ~~~(ups (4294967295#32) l) = crc l := rfl
theorem un_ones : (4294967295 : Int) = un (4294967295#32) := rfl
/-- a sum's four bytes -/
def b4 (v : BitVec 32) : List UInt8 := [UInt8.ofNat (v.toNat % 256), UInt8.ofNat (v.toNat / 256 % 256), UInt8.ofNat (v.toNat / 65536 % 256), UInt8.ofNat (v.toNat / 16777216)]
theorem b4_length (v : BitVec 32) : (b4 v).length = 4 := rfl
theorem b4_cells (v : BitVec 32) : (b4 v).map (fun x => (x.toNat : Int)) = [un v % 256, un v / 256 % 256, un v / 65536 % 256, un v / 16777216] := by
  have := v.isLt
  unfold b4 un
  simp
  omega
theorem crc_example : crc [49, 50, 51, 52, 53, 54, 55, 56, 57] = 3421780262#32 := by decide +kernel
theorem un_example : un 3421780262#32 = 3421780262 := rfl
theorem row_lin (a b : UInt8) : row (a ^^^ b) = row a ^^^ row b := by
  unfold row
  rw [UInt8.toNat_xor, BitVec.ofNat_xor, stn_xor]
theorem ups_cons (s : BitVec 32) (b : UInt8) (l : List UInt8) : ups s (b :: l) = ups (up s b) l := rfl
theorem more_crc (a b : List UInt8) : more (crc a) b = crc (a ++ b) := more_more 0#32 a b
theorem pw_zero : pw 0 = 1 := rfl
theorem un_one : (1 : Int) = un 1#32 := rfl
theorem un_zero : un 0#32 = 0 := rfl
theorem un_ofByte (b : UInt8) : un (BitVec.ofNat 32 b.toNat) = (b.toNat : Int) := by unfold un; have := b.toNat_lt; simp
theorem more_allOnes (l : List UInt8) : more 0#32 l = crc l := rfl
theorem stn_none (x : BitVec 32) : stn 0 x = x := rfl
theorem row_eq (b : UInt8) : stn 8 (BitVec.ofNat 32 b.toNat) = row b := rfl
theorem ups_none (s : BitVec 32) : ups s [] = s := rfl
theorem more_eq (s : BitVec 32) (l : List UInt8) : more s l = ~~~(ups (~~~s) l) := rfl
theorem sums_none : sums [] = 0#32 := rfl
attribute [irreducible] un pw xl row up ups crc more sums
end TG
