/- Where frames begin in bytes, in plain Lean: no program here. Conditions stand in each theorem. -/
import Derived.Test.YtepnillddlemaaaMathFrame3
set_option linter.unusedVariables false
set_option linter.unusedSimpArgs false
namespace TG
open Go TG.Crc

/-- why no frame begins at a place -/
def wE (l : List UInt8) (i : Nat) : Nat := fgE (l.drop i)
/-- the first place from i on, below n, at which q holds; n: there is none -/
def fst (q : Nat → Bool) : Nat → Nat → Nat
  | i, 0 => i
  | i, d + 1 => if q i then i else fst q (i + 1) d
theorem fst_ge (q : Nat → Bool) : ∀ d i, i ≤ fst q i d
  | 0, i => Nat.le_refl _
  | d + 1, i => by
    unfold fst
    split
    · exact Nat.le_refl _
    · exact Nat.le_trans (Nat.le_succ i) (fst_ge q d (i + 1))
theorem fst_le (q : Nat → Bool) : ∀ d i, fst q i d ≤ i + d
  | 0, i => Nat.le_refl _
  | d + 1, i => by
    unfold fst
    split
    · omega
    · have := fst_le q d (i + 1); omega
theorem fst_none (q : Nat → Bool) : ∀ d i j, i ≤ j → j < fst q i d → q j = false
  | 0, i, j, h1, h2 => by simp [fst] at h2; omega
  | d + 1, i, j, h1, h2 => by
    unfold fst at h2
    split at h2
    · omega
    · rename_i hq
      by_cases e : i = j
      · subst e; simpa using hq
      · exact fst_none q d (i + 1) j (by omega) h2
theorem fst_some (q : Nat → Bool) : ∀ d i, fst q i d < i + d → q (fst q i d) = true
  | 0, i, h => by simp [fst] at h
  | d + 1, i, h => by
    unfold fst at h ⊢
    by_cases hq : q i
    · rw [if_pos hq]; exact hq
    · rw [if_neg hq] at h ⊢
      exact fst_some q d (i + 1) (by omega)
/-- what is said of it determines it -/
theorem fst_eq (q : Nat → Bool) (d i j : Nat) (h1 : i ≤ j) (h2 : j ≤ i + d) (h3 : ∀ k, i ≤ k → k < j → q k = false) (h4 : j < i + d → q j = true) : fst q i d = j := by
  have a := fst_ge q d i
  have b := fst_le q d i
  rcases Nat.lt_trichotomy (fst q i d) j with h | h | h
  · have := fst_some q d i (by omega)
    rw [h3 _ a h] at this
    cases this
  · exact h
  · have := fst_none q d i j h1 h
    rw [h4 (by omega)] at this
    cases this
theorem fst_step (q : Nat → Bool) (i d : Nat) (h : q i = false) : fst q i (d + 1) = fst q (i + 1) d := by
  rw [fst, if_neg (by simp [h])]
theorem fst_here (q : Nat → Bool) (i d : Nat) (h : q i = true) : fst q i (d + 1) = i := by
  rw [fst, if_pos h]
theorem fst_congr (q q' : Nat → Bool) (d i : Nat) (h : ∀ k, i ≤ k → k < i + d → q k = q' k) : fst q i d = fst q' i d := by
  apply fst_eq
  · exact fst_ge q' d i
  · exact fst_le q' d i
  · intro k h1 h2
    rw [h k h1 (by have := fst_le q' d i; omega)]
    exact fst_none q' d i k h1 h2
  · intro h1
    rw [h _ (fst_ge q' d i) h1]
    exact fst_some q' d i h1

/-- a frame begins here; or it may yet -/
def isF (l : List UInt8) (i : Nat) : Bool := wE l i == 0
def isO (l : List UInt8) (i : Nat) : Bool := wE l i == 0 || wE l i == 2
/-- the first place from i on at which a frame begins (or may yet); the length: there is none -/
def nxt (l : List UInt8) (i : Nat) : Nat := fst (isF l) i (l.length - i)
def opn (l : List UInt8) (i : Nat) : Nat := fst (isO l) i (l.length - i)
/-- how many places there are -/
def cnt (l : List UInt8) : Nat := (List.range l.length).countP (isF l)
def cntFrom (l : List UInt8) (i : Nat) : Nat := (List.range' i (l.length - i)).countP (isF l)
theorem cntFrom_zero (l : List UInt8) : cntFrom l 0 = cnt l := by
  unfold cntFrom cnt
  rw [List.range_eq_range', Nat.sub_zero]
theorem cntFrom_next (l : List UInt8) : ∀ (d i : Nat), l.length - i = d → cntFrom l i = if nxt l i < l.length then 1 + cntFrom l (nxt l i + 1) else 0 := by
  intro d
  induction d with
  | zero =>
    intro i h
    have hn : nxt l i = i := by unfold nxt; rw [h]; rfl
    rw [hn, if_neg (by omega)]
    unfold cntFrom
    rw [h]
    rfl
  | succ d ih =>
    intro i h
    have hi : i < l.length := by omega
    have hc : cntFrom l i = (if isF l i then 1 else 0) + cntFrom l (i + 1) := by
      unfold cntFrom
      rw [h, show l.length - (i + 1) = d from by omega, List.range'_succ, List.countP_cons]
      omega
    by_cases hq : isF l i = true
    · have hn : nxt l i = i := by unfold nxt; rw [h]; exact fst_here _ _ _ hq
      rw [hc, hn, if_pos hi, if_pos hq]
    · have hq' : isF l i = false := by simpa using hq
      have hn : nxt l i = nxt l (i + 1) := by
        unfold nxt
        rw [h, fst_step _ _ _ hq', show l.length - (i + 1) = d from by omega]
      rw [hc, hn, if_neg hq, Nat.zero_add]
      exact ih (i + 1) (by omega)
theorem nxt_ge (l : List UInt8) (i : Nat) : i ≤ nxt l i := fst_ge _ _ _
theorem nxt_le (l : List UInt8) (i : Nat) (h : i ≤ l.length) : nxt l i ≤ l.length := by
  have := fst_le (isF l) (l.length - i) i
  unfold nxt
  omega
theorem nxt_is (l : List UInt8) (i : Nat) (h : nxt l i < l.length) : wE l (nxt l i) = 0 := by
  have h1 := nxt_ge l i
  have := fst_some (isF l) (l.length - i) i (by unfold nxt at h h1; omega)
  simpa [isF, nxt] using this
theorem nxt_not (l : List UInt8) (i j : Nat) (h1 : i ≤ j) (h2 : j < nxt l i) : wE l j ≠ 0 := by
  have := fst_none (isF l) (l.length - i) i j h1 h2
  simpa [isF] using this
/-- a frame has ten bytes at least, all of them there -/
theorem fg_room (l : List UInt8) (h : fgE l = 0) : 9 ≤ fgB l + 4 ∧ fgB l + 4 ≤ l.length := by
  have := (fg_back l h).2.1
  refine ⟨by unfold fgB fgA; omega, this⟩
theorem wE_end (l : List UInt8) (i : Nat) (h : l.length ≤ i) : wE l i = 2 := by
  unfold wE
  rw [List.drop_eq_nil_of_le h]
  rfl
/-- with whatever behind (the law) -/
theorem wE_more (l r : List UInt8) (i : Nat) (hi : i ≤ l.length) (h : wE l i ≠ 2) : wE (l ++ r) i = wE l i ∧ (wE l i = 0 → fgB ((l ++ r).drop i) = fgB (l.drop i)) := by
  unfold wE at *
  rw [List.drop_append_of_le_length hi]
  obtain ⟨a, b⟩ := fg_more (l.drop i) r h
  exact ⟨a, fun h' => (b h').2.2⟩
end TG
