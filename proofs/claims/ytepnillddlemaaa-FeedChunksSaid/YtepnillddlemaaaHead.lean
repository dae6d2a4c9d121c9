/- What a frame's head is read as by the cursor is what plain Lean says. Conditions stand in each theorem. -/
import Derived.Test.YtepnillddlemaaaFrame
import Derived.Test.YtepnillddlemaaaMathFrame2
set_option linter.unusedVariables false
set_option linter.unusedSimpArgs false
namespace Go.Proofs.Ytepnillddlemaaa
open Go.RowKit Go.Shelf TG TG.Crc

def mkN (e : Nat) (o : Option UInt8) (x : UInt8) : Nat := if e ≠ 0 then e else match o with
    | none => 2
    | some c => if c = x then 0 else 4
theorem mkN_no {e : Nat} (h : e ≠ 0) (o : Option UInt8) (x : UInt8) : mkN e o x = e := by unfold mkN; rw [if_pos h]
theorem mkE_snoc : ∀ (m l : List UInt8) (x : UInt8), mkE (m ++ [x]) l = mkN (mkE m l) l[m.length]? x
  | [], [], x => by simp [mkE, mkN]
  | [], c :: cs, x => by simp [mkE, mkN]
  | m :: ms, [], x => by simp [mkE, mkN]
  | m :: ms, c :: cs, x => by
    by_cases hc : c = m
    · have h1 : mkE (m :: ms ++ [x]) (c :: cs) = mkE (ms ++ [x]) cs := by simp [mkE, hc]
      have h2 : mkE (m :: ms) (c :: cs) = mkE ms cs := by simp [mkE, hc]
      rw [h1, h2, mkE_snoc ms cs x]
      rfl
    · have h1 : mkE (m :: ms ++ [x]) (c :: cs) = 4 := by simp [mkE, hc]
      have h2 : mkE (m :: ms) (c :: cs) = 4 := by simp [mkE, hc]
      rw [h1, h2]
      rfl
theorem mkB_mark (k : Nat) (h : k < 4) : mark4.take (k + 1) = mark4.take k ++ [UInt8.ofNat (mkB k)] := by
  obtain rfl | rfl | rfl | rfl : k = 0 ∨ k = 1 ∨ k = 2 ∨ k = 3 := by omega
  all_goals rfl
theorem mkB_lt (k : Nat) : mkB k < 256 := by
  unfold mkB
  split <;> decide
theorem mkS_eval (l : List UInt8) : ∀ k, k ≤ 4 → (mkE (mark4.take k) l = 0 → mkS l k = (k, 0)) ∧ (mkE (mark4.take k) l ≠ 0 → (mkS l k).2 = mkE (mark4.take k) l) := by
  intro k
  induction k with
  | zero => intro _; exact ⟨fun _ => by rw [mkS], fun h => absurd rfl h⟩
  | succ k ih =>
    intro hk
    obtain ⟨h1, h2⟩ := ih (by omega)
    have hl : (mark4.take k).length = k := by simp [mark4]; omega
    rw [mkB_mark k (by omega), mkE_snoc, hl, mkS_succ]
    by_cases h0 : mkE (mark4.take k) l = 0
    · rw [h0, h1 h0]
      by_cases hlt : k < l.length
      · obtain ⟨e1, e2, e3⟩ := cb_some hlt
        simp only
        rw [e1, e2, e3, List.getElem?_eq_getElem hlt]
        have hb : l[k].toNat = mkB k ↔ l[k] = UInt8.ofNat (mkB k) := by
          rw [← UInt8.toNat_inj, UInt8.toNat_ofNat', Nat.mod_eq_of_lt (mkB_lt k)]
        by_cases hv : l[k].toNat = mkB k
        · rw [if_pos hv]
          simp [mkN, hb.1 hv]
        · rw [if_neg hv]
          have hv' : ¬ l[k] = UInt8.ofNat (mkB k) := fun h => hv (hb.2 h)
          simp only [mkN, if_neg hv']
          simp
      · obtain ⟨e1, e2, e3⟩ := cb_none (Nat.not_lt.1 hlt)
        simp only
        rw [e1, e2, e3, List.getElem?_eq_none (Nat.not_lt.1 hlt)]
        simp [mkN]
    · rw [mkN_no h0]
      have he := h2 h0
      have hne : (mkS l k).2 ≠ 0 := by rw [he]; exact h0
      obtain ⟨e1, e2, e3⟩ := cb_stop (l := l) (i := (mkS l k).1) hne
      rw [e1, e2, e3]
      refine ⟨fun h => absurd h h0, fun _ => ?_⟩
      simp only
      split
      · exact he
      · first | exact he | (rw [if_neg hne]; exact he)
theorem hd_none (l : List UInt8) (h : mkE mark4 l ≠ 0) : hdE0 l = mkE mark4 l ∧ hdK l = 0 := by
  have h2 := (mkS_eval l 4 (by omega)).2 h
  have hne : (mkS l 4).2 ≠ 0 := by rw [h2]; exact h
  obtain ⟨e1, e2, e3⟩ := cb_stop (l := l) (i := (mkS l 4).1) hne
  unfold hdE0 hdK
  rw [e1, e3]
  exact ⟨h2, rfl⟩
theorem hd_some (l : List UInt8) (h : mkE mark4 l = 0) : hdK l = (if l.length ≤ 4 then 0 else fgK l) ∧ hdI l = (if l.length ≤ 4 then 4 else 5) ∧ hdE0 l = (if l.length ≤ 4 then 2 else 0) := by
  have h1 := (mkS_eval l 4 (by omega)).1 h
  unfold hdK hdI hdE0
  rw [h1]
  by_cases hl : l.length ≤ 4
  · obtain ⟨e1, e2, e3⟩ := cb_none (l := l) (i := 4) hl
    simp only
    rw [e1, e2, e3, if_pos hl, if_pos hl, if_pos hl]
    exact ⟨rfl, rfl, rfl⟩
  · obtain ⟨e1, e2, e3⟩ := cb_some (l := l) (i := 4) (by omega)
    simp only
    rw [e1, e2, e3, if_neg hl, if_neg hl, if_neg hl]
    refine ⟨?_, rfl, rfl⟩
    unfold fgK
    rw [List.drop_eq_getElem_cons (by omega)]
    rfl
theorem head_eval (l : List UInt8) : cnE l (hdI l) (hdE l) 4096 = fgH l ∧ (fgH l = 0 → hdK l = fgK l ∧ cnV l (hdI l) (hdE l) 4096 = fgN l ∧ cnI l (hdI l) (hdE l) 4096 = fgA l) := by
  unfold fgH
  by_cases h : mkE mark4 l = 0
  · rw [if_neg (by omega)]
    obtain ⟨e1, e2, e3⟩ := hd_some l h
    by_cases hl : l.length ≤ 4
    · rw [if_pos hl] at e1 e2 e3
      have hE : hdE l = 2 := by unfold hdE; rw [e1, e3]; rfl
      rw [List.drop_eq_nil_of_le hl, hE]
      simp [cnE]
    · rw [if_neg hl] at e1 e2 e3
      obtain ⟨k, r, hk⟩ : ∃ k r, l.drop 4 = k :: r := by
        cases hd : l.drop 4 with
        | nil => exact absurd (List.drop_eq_nil_iff.1 hd) hl
        | cons k r => exact ⟨k, r, rfl⟩
      have h5 : l.drop 5 = r := by rw [show (5 : Nat) = 4 + 1 from rfl, ← List.drop_drop, hk]; rfl
      have hK : fgK l = k.toNat := by unfold fgK; rw [hk]; rfl
      rw [hk]
      simp only
      by_cases h12 : k.toNat = 1 ∨ k.toNat = 2
      · have hE : hdE l = 0 := by unfold hdE; rw [e1, e3, hK, if_pos h12]
        rw [if_pos h12, hE, e2, e1]
        unfold fgN fgA cnE cnV cnI cnE0
        rw [h5]
        by_cases h0 : wgE r = 0
        · by_cases h4 : 4096 < wgN r <;> simp [h0, h4]
        · simp [h0]
      · have hE : hdE l = 4 := by unfold hdE; rw [e1, e3, hK, if_neg h12]; rfl
        rw [if_neg h12, hE]
        simp [cnE]
  · rw [if_pos h]
    obtain ⟨e1, e2⟩ := hd_none l h
    have hE : hdE l = mkE mark4 l := by unfold hdE; rw [e2, e1]; simp [h]
    rw [hE]
    refine ⟨?_, fun h' => absurd h' h⟩
    unfold cnE
    rw [if_neg h]
end Go.Proofs.Ytepnillddlemaaa
