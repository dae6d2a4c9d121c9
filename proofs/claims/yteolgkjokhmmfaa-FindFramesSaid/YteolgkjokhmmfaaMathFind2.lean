/- Frames, one behind the other: where they begin, in plain Lean: no program here. Conditions stand in each theorem. -/
import Derived.Test.YteolgkjokhmmfaaMathFind
set_option linter.unusedVariables false
set_option linter.unusedSimpArgs false
namespace TG
open Go TG.Crc

abbrev Fr := Int × List UInt8
def okF (x : Fr) : Prop := (x.1 = 1 ∨ x.1 = 2) ∧ x.2.length ≤ 4096
def fo (x : Fr) : List UInt8 := fp x.1.toNat x.2
/-- their bytes, behind other ones -/
def bod (a : List UInt8) (fs : List Fr) : List UInt8 := a ++ (fs.map fo).flatten
def pl (a : List UInt8) (fs : List Fr) (i : Nat) : Nat := (bod a (fs.take i)).length
theorem fo_pos (x : Fr) : 0 < (fo x).length := by unfold fo; rw [fp_length]; omega
theorem bod_take (a : List UInt8) (fs : List Fr) (i : Nat) (hi : i < fs.length) : bod a (fs.take (i + 1)) = bod a (fs.take i) ++ fo fs[i] := by
  unfold bod
  rw [List.take_succ_eq_append_getElem hi, List.map_append, List.flatten_append, List.append_assoc]
  simp
theorem bod_split (a : List UInt8) (fs : List Fr) (i : Nat) (hi : i < fs.length) : bod a fs = bod a (fs.take i) ++ (fo fs[i] ++ ((fs.drop (i + 1)).map fo).flatten) := by
  have h : fs = fs.take i ++ fs[i] :: fs.drop (i + 1) := by
    rw [← List.drop_eq_getElem_cons hi, List.take_append_drop]
  unfold bod
  conv => lhs; rw [h]
  rw [List.map_append, List.flatten_append, List.map_cons, List.flatten_cons, List.append_assoc]
theorem pl_zero (a : List UInt8) (fs : List Fr) : pl a fs 0 = a.length := by simp [pl, bod]
theorem pl_next (a : List UInt8) (fs : List Fr) (i : Nat) (hi : i < fs.length) : pl a fs (i + 1) = pl a fs i + (fo fs[i]).length := by
  unfold pl
  rw [bod_take a fs i hi, List.length_append]
theorem pl_room (a : List UInt8) (fs : List Fr) (i : Nat) (hi : i < fs.length) : pl a fs i + (fo fs[i]).length ≤ (bod a fs).length := by
  rw [bod_split a fs i hi]
  simp only [List.length_append]
  unfold pl
  omega
theorem bod_drop (a : List UInt8) (fs : List Fr) (i : Nat) (hi : i < fs.length) : (bod a fs).drop (pl a fs i) = fo fs[i] ++ ((fs.drop (i + 1)).map fo).flatten := by
  rw [bod_split a fs i hi]
  unfold pl
  rw [List.drop_left]
/-- each is found where it stands -/
theorem at_frame (a : List UInt8) (fs : List Fr) (i : Nat) (hi : i < fs.length) (h : okF fs[i]) :
    fgE ((bod a fs).drop (pl a fs i)) = 0 ∧ (gK ((bod a fs).drop (pl a fs i)) : Int) = fs[i].1 ∧ gP ((bod a fs).drop (pl a fs i)) = fs[i].2 ∧ gS ((bod a fs).drop (pl a fs i)) = (fo fs[i]).length := by
  rw [bod_drop a fs i hi]
  obtain ⟨hk, hp⟩ := h
  obtain ⟨h1, h2, h3, h4⟩ := fg_put fs[i].1.toNat (by omega) fs[i].2 ((fs.drop (i + 1)).map fo).flatten hp
  obtain ⟨e1, e2, e3⟩ := g_some h1
  unfold fo at *
  refine ⟨h1, ?_, ?_, ?_⟩
  · rw [e1, h2]; omega
  · rw [e2, h3]
  · rw [e3, h4]
theorem isF_frame (a : List UInt8) (fs : List Fr) (i : Nat) (hi : i < fs.length) (h : okF fs[i]) : isF (bod a fs) (pl a fs i) = true := by
  unfold isF wE
  rw [(at_frame a fs i hi h).1]
  rfl
theorem nxt_frame (a : List UInt8) (fs : List Fr) (i : Nat) (hi : i < fs.length) (h : okF fs[i]) : nxt (bod a fs) (pl a fs i) = pl a fs i := by
  have hr := pl_room a fs i hi
  have hp := fo_pos fs[i]
  unfold nxt
  rw [show (bod a fs).length - pl a fs i = ((bod a fs).length - pl a fs i - 1) + 1 from by omega]
  exact fst_here _ _ _ (isF_frame a fs i hi h)
/-- none begins ahead of the first -/
theorem nxt_first (a : List UInt8) (fs : List Fr) (ha : opn a 0 = a.length) (hi : 0 < fs.length) (h : okF fs[0]) : nxt (bod a fs) 0 = a.length := by
  have hF := isF_frame a fs 0 hi h
  rw [pl_zero] at hF
  have hr := pl_room a fs 0 hi
  rw [pl_zero] at hr
  unfold nxt
  refine fst_eq _ _ _ _ (Nat.zero_le _) (by omega) ?_ (fun _ => hF)
  intro k _ hk
  have h1 := fst_none (isO a) (a.length - 0) 0 k (Nat.zero_le _) (by unfold opn at ha; omega)
  unfold isO at h1
  simp only [Bool.or_eq_false_iff, beq_eq_false_iff_ne] at h1
  unfold isF bod
  rw [(wE_more a _ k (by omega) h1.2).1, beq_eq_false_iff_ne]
  exact h1.1
theorem cntFrom_step (l : List UInt8) (i : Nat) (hi : i < l.length) : cntFrom l i = (if isF l i then 1 else 0) + cntFrom l (i + 1) := by
  unfold cntFrom
  rw [show l.length - i = (l.length - (i + 1)) + 1 from by omega, List.range'_succ, List.countP_cons]
  omega
theorem cntFrom_mono (l : List UInt8) (i : Nat) : ∀ d, i + d ≤ l.length → cntFrom l (i + d) ≤ cntFrom l i
  | 0, _ => Nat.le_refl _
  | d + 1, h => by
    have h1 := cntFrom_mono l i d (by omega)
    have h2 := cntFrom_step l (i + d) (by omega)
    rw [show i + (d + 1) = i + d + 1 from by omega]
    omega
theorem cnt_frames (a : List UInt8) (fs : List Fr) (h : ∀ x ∈ fs, okF x) : fs.length ≤ cnt (bod a fs) := by
  have key : ∀ d i, i + d = fs.length → d ≤ cntFrom (bod a fs) (pl a fs i) := by
    intro d
    induction d with
    | zero => intro i _; exact Nat.zero_le _
    | succ d ih =>
      intro i hd
      have hi : i < fs.length := by omega
      have h1 := ih (i + 1) (by omega)
      have h2 := pl_next a fs i hi
      have h3 := fo_pos fs[i]
      have h4 := pl_room a fs i hi
      have h5 := cntFrom_step (bod a fs) (pl a fs i) (by omega)
      rw [if_pos (isF_frame a fs i hi (h _ (List.getElem_mem hi)))] at h5
      have h6 := cntFrom_mono (bod a fs) (pl a fs i + 1) ((fo fs[i]).length - 1) (by omega)
      rw [show pl a fs i + 1 + ((fo fs[i]).length - 1) = pl a fs (i + 1) from by omega] at h6
      omega
  have h0 := key fs.length 0 (by omega)
  have h1 : (pl a fs 0) ≤ (bod a fs).length := by rw [pl_zero]; unfold bod; simp
  have h2 := cntFrom_mono (bod a fs) 0 (pl a fs 0) (by omega)
  rw [Nat.zero_add, cntFrom_zero] at h2
  omega
end TG
