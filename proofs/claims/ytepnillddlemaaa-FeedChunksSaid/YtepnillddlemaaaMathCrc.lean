/- Plain Lean: crc32 as a linear machine on 32 bits; bits turned within 32 in a row change the state. No condition. -/
set_option linter.unusedVariables false
set_option linter.unusedSimpArgs false
namespace TG.Crc

def poly : BitVec 32 := 0xedb88320#32
/-- one shift -/
def st (x : BitVec 32) : BitVec 32 := (x >>> 1) ^^^ (if x.getLsbD 0 then poly else 0#32)

theorem xcomm (a b c d : BitVec 32) : a ^^^ b ^^^ (c ^^^ d) = a ^^^ c ^^^ (b ^^^ d) := by
  rw [BitVec.xor_assoc, BitVec.xor_assoc, ← BitVec.xor_assoc b c d, BitVec.xor_comm b c, BitVec.xor_assoc]

theorem st_xor (x y : BitVec 32) : st (x ^^^ y) = st x ^^^ st y := by
  unfold st
  rw [BitVec.ushiftRight_xor_distrib, BitVec.getLsbD_xor, xcomm]
  cases x.getLsbD 0 <;> cases y.getLsbD 0 <;> simp

theorem st_zero : st 0#32 = 0#32 := by decide

theorem getLsbD_ext {x y : BitVec 32} (h : ∀ i, i < 32 → x.getLsbD i = y.getLsbD i) : x = y := BitVec.eq_of_getLsbD_eq h

theorem st_eq_zero {x : BitVec 32} (h : st x = 0#32) : x = 0#32 := by
  have h31 : (st x).getLsbD 31 = false := by rw [h]; rfl
  have hl : x.getLsbD 0 = false := by
    cases h0 : x.getLsbD 0 with
    | false => rfl
    | true =>
      exfalso
      unfold st at h31
      rw [h0] at h31
      rw [if_pos rfl, BitVec.getLsbD_xor, BitVec.getLsbD_ushiftRight, BitVec.getLsbD_of_ge x (1+31) (by omega)] at h31
      exact absurd h31 (by decide)
  unfold st at h
  rw [hl] at h
  simp only [Bool.false_eq_true, if_false, BitVec.xor_zero] at h
  apply getLsbD_ext
  intro i hi
  cases i with
  | zero => simpa using hl
  | succ i =>
    have := congrArg (fun z => z.getLsbD i) h
    simpa [Nat.add_comm] using this

def stn : Nat → BitVec 32 → BitVec 32
  | 0, x => x
  | n+1, x => stn n (st x)

theorem stn_xor (n : Nat) : ∀ x y : BitVec 32, stn n (x ^^^ y) = stn n x ^^^ stn n y := by
  induction n with
  | zero => intro x y; rfl
  | succ n ih => intro x y; simp only [stn]; rw [st_xor, ih]
theorem stn_zero (n : Nat) : stn n 0#32 = 0#32 := by
  induction n with
  | zero => rfl
  | succ n ih => simp only [stn]; rw [st_zero, ih]
theorem stn_eq_zero (n : Nat) : ∀ {x : BitVec 32}, stn n x = 0#32 → x = 0#32 := by
  induction n with
  | zero => intro x h; exact h
  | succ n ih => intro x h; exact st_eq_zero (ih h)
theorem stn_add (n m : Nat) : ∀ x, stn (n + m) x = stn m (stn n x) := by
  induction n with
  | zero => intro x; rw [Nat.zero_add]; rfl
  | succ n ih => intro x; rw [Nat.succ_add]; simp only [stn]; exact ih _

/-- a bit as a word -/
def bw (b : Bool) : BitVec 32 := if b then 1#32 else 0#32
/-- bits, one behind the other -/
def run : BitVec 32 → List Bool → BitVec 32
  | s, [] => s
  | s, b :: l => run (st (s ^^^ bw b)) l

theorem run_append (l m : List Bool) : ∀ s, run s (l ++ m) = run (run s l) m := by
  induction l with
  | nil => intro s; rfl
  | cons b l ih => intro s; exact ih _

theorem run_lin (l : List Bool) : ∀ s, run s l = stn l.length s ^^^ run 0#32 l := by
  induction l with
  | nil => intro s; simp [run, stn]
  | cons b l ih =>
    intro s
    simp only [run, List.length_cons, stn]
    rw [ih, ih (st (0#32 ^^^ bw b)), BitVec.zero_xor, st_xor, stn_xor, BitVec.xor_assoc]

/-- bits turned: sums turned -/
theorem run_xor (l : List Bool) : ∀ (m : List Bool) (s t : BitVec 32), l.length = m.length → run (s ^^^ t) (List.zipWith (· ^^ ·) l m) = run s l ^^^ run t m := by
  induction l with
  | nil => intro m s t h; cases m with
    | nil => rfl
    | cons _ _ => simp at h
  | cons b l ih => intro m s t h; cases m with
    | nil => simp at h
    | cons c m =>
      simp only [List.zipWith_cons_cons, run]
      rw [← ih m _ _ (by simpa using h), ← st_xor]
      congr 2
      rw [xcomm]
      congr 1
      cases b <;> cases c <;> decide

theorem run_false (n : Nat) : ∀ s, run s (List.replicate n false) = stn n s := by
  induction n with
  | zero => intro s; rfl
  | succ n ih => intro s; simp only [List.replicate_succ, run, stn]; rw [ih]; simp [bw]

theorem bits_split (T : BitVec 32) (i : Nat) : T >>> i = bw (T.getLsbD i) ^^^ ((T >>> (i+1)) <<< 1) := by
  apply getLsbD_ext
  intro j hj
  cases j with
  | zero =>
    rw [BitVec.getLsbD_ushiftRight, BitVec.getLsbD_xor, BitVec.getLsbD_shiftLeft]
    simp only [Nat.add_zero, Nat.lt_one_iff, decide_true, Bool.not_true, Bool.and_false, Bool.false_and, Bool.xor_false]
    cases T.getLsbD i <;> decide
  | succ j =>
    rw [BitVec.getLsbD_ushiftRight, BitVec.getLsbD_xor, BitVec.getLsbD_shiftLeft, BitVec.getLsbD_ushiftRight]
    have : (bw (T.getLsbD i)).getLsbD (j+1) = false := by
      cases T.getLsbD i
      · simp [bw]
      · show (1#32).getLsbD (j+1) = false
        simp [BitVec.getLsbD_one]
    rw [this]
    simp [hj]
    congr 1
    omega

theorem st_shl {x : BitVec 32} (h : x.getLsbD 31 = false) : st (x <<< 1) = x := by
  unfold st
  have : (x <<< 1).getLsbD 0 = false := by simp
  rw [this]
  simp only [Bool.false_eq_true, if_false, BitVec.xor_zero]
  apply getLsbD_ext
  intro j hj
  rw [BitVec.getLsbD_ushiftRight, BitVec.getLsbD_shiftLeft]
  by_cases h31 : j = 31
  · subst h31; rw [h]; rfl
  · have : 1 + j < 32 := by omega
    simp [this]

/-- the bits of a word from i on -/
def wbits (T : BitVec 32) (i n : Nat) : List Bool := (List.range n).map fun j => T.getLsbD (i + j)

theorem wbits_succ (T : BitVec 32) (i n : Nat) : wbits T i (n+1) = T.getLsbD i :: wbits T (i+1) n := by
  unfold wbits
  rw [List.range_succ_eq_map]
  simp only [List.map_cons, List.map_map, Nat.add_zero, List.cons.injEq, true_and]
  apply List.map_congr_left
  intro a _
  simp only [Function.comp]
  congr 1
  omega

theorem run_wbits (T : BitVec 32) (n : Nat) : ∀ i, i + n = 32 → run 0#32 (wbits T i n) = stn n (T >>> i) := by
  induction n with
  | zero =>
    intro i h
    have : i = 32 := by omega
    subst this
    show 0#32 = T >>> 32
    apply getLsbD_ext
    intro j hj
    rw [BitVec.getLsbD_ushiftRight, BitVec.getLsbD_of_ge T (32+j) (by omega)]
    simp
  | succ n ih =>
    intro i h
    rw [wbits_succ]
    simp only [run, stn]
    rw [BitVec.zero_xor, run_lin, ih (i+1) (by omega), bits_split T i, st_xor, stn_xor]
    have hl : (wbits T (i+1) n).length = n := by simp [wbits]
    rw [hl]
    congr 2
    rw [st_shl]
    rw [BitVec.getLsbD_ushiftRight]
    exact BitVec.getLsbD_of_ge _ _ (by omega)

/-- a turn within 32 bits in a row is told -/
theorem told (T : BitVec 32) (hT : T ≠ 0#32) (a z : Nat) : run 0#32 (List.replicate a false ++ wbits T 0 32 ++ List.replicate z false) ≠ 0#32 := by
  intro h
  rw [run_append, run_append, run_false, run_false, stn_zero, run_wbits T 32 0 rfl] at h
  have := stn_eq_zero _ (stn_eq_zero _ h)
  exact hT (by simpa using this)

end TG.Crc
