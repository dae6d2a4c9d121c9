/- How a frame is read off bytes, in plain Lean: no program here. Conditions stand in each theorem. -/
import Derived.Test.YtepnillddlemaaaMathFrame
import Derived.Test.YtepnillddlemaaaMathTold
set_option linter.unusedVariables false
set_option linter.unusedSimpArgs false
namespace TG
open TG.Crc

/-- the mark against bytes: 0: it stands there; 2: the bytes end; 4: another byte -/
def mkE : List UInt8 → List UInt8 → Nat
  | [], _ => 0
  | _ :: _, [] => 2
  | m :: ms, c :: cs => if c = m then mkE ms cs else 4
def mark4 : List UInt8 := [199, 84, 71, 1]
/-- why no frame's head stands there -/
def fgH (l : List UInt8) : Nat :=
  if mkE mark4 l ≠ 0 then mkE mark4 l else
  match l.drop 4 with
  | [] => 2
  | k :: r => if k.toNat = 1 ∨ k.toNat = 2 then (if wgE r ≠ 0 then wgE r else if 4096 < wgN r then 6 else 0) else 4
def fgK (l : List UInt8) : Nat := ((l.drop 4).head?.getD 0).toNat
def fgN (l : List UInt8) : Nat := wgN (l.drop 5)
def fgA (l : List UInt8) : Nat := 5 + wgS (l.drop 5)
def fgB (l : List UInt8) : Nat := fgA l + fgN l
/-- why no frame begins here -/
def fgE (l : List UInt8) : Nat :=
  if fgH l ≠ 0 then fgH l else if l.length < fgB l + 4 then 2 else if b4 (crc ((l.drop 4).take (fgB l - 4))) ≠ (l.drop (fgB l)).take 4 then 5 else 0
def fgP (l : List UInt8) : List UInt8 := (l.drop (fgA l)).take (fgN l)

theorem mkE_zero : ∀ (m l : List UInt8), mkE m l = 0 → m.length ≤ l.length ∧ l.take m.length = m
  | [], l, _ => by simp
  | m :: ms, [], h => by simp [mkE] at h
  | m :: ms, c :: cs, h => by
    simp only [mkE] at h
    split at h
    · rename_i hc
      obtain ⟨a, b⟩ := mkE_zero ms cs h
      simp only [List.length_cons, List.take_succ_cons, b, hc]
      exact ⟨by omega, trivial⟩
    · simp at h
theorem mkE_pre : ∀ (m r : List UInt8), mkE m (m ++ r) = 0
  | [], _ => rfl
  | m :: ms, r => by simp [mkE, mkE_pre ms r]
theorem mkE_take : ∀ (m l : List UInt8) (n : Nat), m.length ≤ n → mkE m (l.take n) = mkE m l
  | [], _, _, _ => rfl
  | m :: ms, [], n, _ => by simp
  | m :: ms, c :: cs, 0, h => by simp at h
  | m :: ms, c :: cs, n + 1, h => by
    simp only [List.take_succ_cons, mkE]
    rw [mkE_take ms cs n (by simpa using h)]
/-- a part of what begins with the mark: the mark, or the bytes end -/
theorem mkE_cut : ∀ (m l : List UInt8) (n : Nat), mkE m l = 0 → mkE m (l.take n) = if n < m.length then 2 else 0
  | [], _, _, _ => by simp [mkE]
  | m :: ms, [], n, h => by simp [mkE] at h
  | m :: ms, c :: cs, 0, h => by simp [mkE]
  | m :: ms, c :: cs, n + 1, h => by
    simp only [mkE] at h
    split at h
    · rename_i hc
      simp only [List.take_succ_cons, mkE, if_pos hc, List.length_cons]
      rw [mkE_cut ms cs n h]
      by_cases hn : n < ms.length
      · rw [if_pos hn, if_pos (by omega)]
      · rw [if_neg hn, if_neg (by omega)]
    · simp at h
/-- what is behind is of no account, but where the bytes end -/
theorem mkE_more : ∀ (m l r : List UInt8), mkE m l ≠ 2 → mkE m (l ++ r) = mkE m l
  | [], _, _, _ => rfl
  | m :: ms, [], _, h => by simp [mkE] at h
  | m :: ms, c :: cs, r, h => by
    simp only [List.cons_append, mkE] at h ⊢
    split
    · rename_i hc
      rw [if_pos hc] at h
      exact mkE_more ms cs r h
    · rfl
theorem mkE_vals : ∀ (m l : List UInt8), mkE m l = 0 ∨ mkE m l = 2 ∨ mkE m l = 4
  | [], _ => .inl rfl
  | m :: ms, [] => .inr (.inl rfl)
  | m :: ms, c :: cs => by
    simp only [mkE]
    split
    · exact mkE_vals ms cs
    · exact .inr (.inr rfl)
/-- a byte that differs among those that are there -/
theorem mkE_four : ∀ (m l : List UInt8), mkE m l = 4 ↔ ∃ j, ∃ (h : j < m.length) (h' : j < l.length), l[j] ≠ m[j]
  | [], l => by simp [mkE]
  | m :: ms, [] => by simp [mkE]
  | m :: ms, c :: cs => by
    simp only [mkE]
    by_cases hc : c = m
    · rw [if_pos hc, mkE_four ms cs]
      constructor
      · rintro ⟨j, h, h', hn⟩
        exact ⟨j + 1, by simp; omega, by simp; omega, by simpa using hn⟩
      · rintro ⟨j, h, h', hn⟩
        cases j with
        | zero => simp [hc] at hn
        | succ j => exact ⟨j, by simpa using h, by simpa using h', by simpa using hn⟩
    · rw [if_neg hc]
      exact ⟨fun _ => ⟨0, by simp, by simp, by simpa using hc⟩, fun _ => rfl⟩

/-- a number's reading hangs on its first ten bytes alone -/
theorem wg_take_at : ∀ (l : List UInt8) (i n : Nat), i ≤ 9 → 10 ≤ i + n → wg i (l.take n) = wg i l := by
  intro l
  induction l with
  | nil => intro i n _ _; simp
  | cons c r ih =>
    intro i n hi hn
    cases n with
    | zero => omega
    | succ n =>
      simp only [List.take_succ_cons, wg]
      by_cases h9 : i = 9
      · subst h9
        by_cases h1 : 9 = 9 ∧ 1 < c.toNat
        · rw [if_pos h1, if_pos h1]
        · have h2 : ¬ 128 ≤ c.toNat := by omega
          simp only [if_neg h1, if_neg h2]
      · rw [ih (i + 1) n (by omega) (by omega)]
theorem wg_take (l : List UInt8) (n : Nat) (h : 10 ≤ n) : wg 0 (l.take n) = wg 0 l := wg_take_at l 0 n (by omega) (by omega)
/-- what is behind is of no account, but where the bytes end -/
theorem wg_more_at : ∀ (l r : List UInt8) (i : Nat), (wg i l).2.2 ≠ 2 → wg i (l ++ r) = wg i l := by
  intro l
  induction l with
  | nil => intro r i h; simp [wg] at h
  | cons c l ih =>
    intro r i h
    simp only [List.cons_append, wg] at h ⊢
    by_cases h1 : i = 9 ∧ 1 < c.toNat
    · rw [if_pos h1, if_pos h1]
    · rw [if_neg h1] at h ⊢
      rw [if_neg h1]
      by_cases h2 : 128 ≤ c.toNat
      · rw [if_pos h2] at h ⊢
        rw [if_pos h2]
        have h3 : (wg (i + 1) l).2.2 ≠ 2 := by
          intro e
          rw [if_neg (by omega)] at h
          exact h e
        rw [ih r (i + 1) h3]
      · rw [if_neg h2, if_neg h2]
theorem wg_more (l r : List UInt8) (h : wgE l ≠ 2) : wg 0 (l ++ r) = wg 0 l := wg_more_at l r 0 (by unfold wgE at h; exact h)
theorem wgE_cut_at : ∀ (l : List UInt8) (i n : Nat), (wg i l).2.2 = 0 → n < (wg i l).2.1 → (wg i (l.take n)).2.2 = 2 := by
  intro l
  induction l with
  | nil => intro i n h _; simp [wg] at h
  | cons c r ih =>
    intro i n h hn
    cases n with
    | zero => simp [wg]
    | succ n =>
      simp only [List.take_succ_cons, wg] at h hn ⊢
      by_cases h1 : i = 9 ∧ 1 < c.toNat
      · rw [if_pos h1] at h; simp at h
      · rw [if_neg h1] at h hn ⊢
        by_cases h2 : 128 ≤ c.toNat
        · rw [if_pos h2] at h hn ⊢
          by_cases h3 : (wg (i + 1) r).2.2 = 0
          · rw [if_pos h3] at hn
            have := ih (i + 1) n h3 (by simp only at hn; omega)
            rw [if_neg (by omega)]
            exact this
          · rw [if_neg h3] at h; exact absurd h h3
        · rw [if_neg h2] at h hn ⊢
          by_cases h4 : c.toNat = 0 ∧ 0 < i
          · rw [if_pos h4] at h; simp at h
          · rw [if_neg h4] at hn; simp at hn
theorem wgE_cut (l : List UInt8) (n : Nat) (h : wgE l = 0) (hn : n < wgS l) : wgE (l.take n) = 2 := by
  unfold wgE at *
  unfold wgS at hn
  exact wgE_cut_at l 0 n h hn
end TG
