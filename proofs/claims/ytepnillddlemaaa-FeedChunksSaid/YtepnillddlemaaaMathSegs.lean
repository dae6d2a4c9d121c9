/- The parts of bytes, in plain Lean: no program here. Conditions stand in each theorem. -/
import Derived.Test.YtepnillddlemaaaMathFind
set_option linter.unusedVariables false
set_option linter.unusedSimpArgs false
namespace TG
open Go TG.Crc

/-- a part: where it begins, how many bytes, whether it is a frame, its kind and payload -/
structure Sg where
  fr : Nat
  n : Nat
  is : Bool
  k : Nat
  p : List UInt8
def skp (i n : Nat) : Sg := ⟨i, n, false, 0, []⟩
def frm (l : List UInt8) (j : Nat) : Sg := ⟨j, fgB (l.drop j) + 4, true, fgK (l.drop j), fgP (l.drop j)⟩
def sgs (l : List UInt8) (i : Nat) : List Sg :=
  if h : i < l.length then
    if nxt l i < l.length then (if i < nxt l i then [skp i (nxt l i - i)] else []) ++ frm l (nxt l i) :: sgs l (nxt l i + (fgB (l.drop (nxt l i)) + 4))
    else [skp i (l.length - i)]
  else []
termination_by l.length - i
decreasing_by
  have := nxt_ge l i
  omega
theorem sgs_end (l : List UInt8) (i : Nat) (h : l.length ≤ i) : sgs l i = [] := by
  rw [sgs, dif_neg (by omega)]
theorem sgs_last (l : List UInt8) (i : Nat) (h : i < l.length) (hn : ¬ nxt l i < l.length) : sgs l i = [skp i (l.length - i)] := by
  rw [sgs, dif_pos h, if_neg hn]
theorem sgs_next (l : List UInt8) (i : Nat) (h : i < l.length) (hn : nxt l i < l.length) :
    sgs l i = (if i < nxt l i then [skp i (nxt l i - i)] else []) ++ frm l (nxt l i) :: sgs l (nxt l i + (fgB (l.drop (nxt l i)) + 4)) := by
  rw [sgs, dif_pos h, if_pos hn]
theorem nxt_here (l : List UInt8) (i : Nat) (h : i < l.length) (hE : wE l i = 0) : nxt l i = i := by
  unfold nxt
  rw [show l.length - i = (l.length - i - 1) + 1 from by omega]
  exact fst_here _ _ _ (by simp [isF, hE])
theorem nxt_step (l : List UInt8) (i : Nat) (h : i < l.length) (hE : wE l i ≠ 0) : nxt l i = nxt l (i + 1) := by
  unfold nxt
  rw [show l.length - i = (l.length - (i + 1)) + 1 from by omega]
  exact fst_step _ _ _ (by simp [isF, hE])
theorem sgs_frame (l : List UInt8) (i : Nat) (h : i < l.length) (hE : wE l i = 0) : sgs l i = frm l i :: sgs l (i + (fgB (l.drop i) + 4)) := by
  have hn := nxt_here l i h hE
  rw [sgs_next l i h (by omega), hn, if_neg (by omega)]
  rfl
/-- where none begins: a part more at the front, or a longer one -/
theorem sgs_skip (l : List UInt8) (i : Nat) (h : i < l.length) (hE : wE l i ≠ 0) :
    ∃ m r, sgs l i = skp i (m + 1) :: r ∧ (∀ x, r.head? = some x → x.is = true) ∧ sgs l (i + 1) = if m = 0 then r else skp (i + 1) m :: r := by
  have hs := nxt_step l i h hE
  have h1 := nxt_ge l (i + 1)
  have h2 := nxt_le l (i + 1) (by omega)
  by_cases hn : nxt l (i + 1) < l.length
  · refine ⟨nxt l (i + 1) - (i + 1), frm l (nxt l (i + 1)) :: sgs l (nxt l (i + 1) + (fgB (l.drop (nxt l (i + 1))) + 4)), ?_, ?_, ?_⟩
    · rw [sgs_next l i h (by omega), hs, if_pos (by omega), show nxt l (i + 1) - i = nxt l (i + 1) - (i + 1) + 1 from by omega]
      rfl
    · intro x hx
      simp only [List.head?_cons, Option.some.injEq] at hx
      rw [← hx]
      rfl
    · rw [sgs_next l (i + 1) (by omega) hn]
      by_cases e : nxt l (i + 1) = i + 1
      · rw [if_neg (by omega), if_pos (by omega)]; rfl
      · rw [if_pos (by omega), if_neg (by omega)]; rfl
  · refine ⟨l.length - (i + 1), [], ?_, ?_, ?_⟩
    · rw [sgs_last l i h (by omega), show l.length - i = l.length - (i + 1) + 1 from by omega]
    · intro x hx; simp at hx
    · by_cases e : l.length = i + 1
      · rw [sgs_end l (i + 1) (by omega), if_pos (by omega)]
      · rw [sgs_last l (i + 1) (by omega) hn, if_neg (by omega)]

/-- the first part, and the others -/
theorem sgs_cons (l : List UInt8) (i : Nat) (h : i < l.length) : ∃ s, sgs l i = s :: sgs l (i + s.n) ∧ s.fr = i ∧ 1 ≤ s.n ∧ i + s.n ≤ l.length ∧ (s.is = true → s = frm l i ∧ wE l i = 0) ∧
    (s.is = false → s = skp i s.n ∧ (∀ j, i ≤ j → j < i + s.n → wE l j ≠ 0) ∧ (i + s.n < l.length → wE l (i + s.n) = 0)) := by
  have h1 := nxt_ge l i
  have h2 := nxt_le l i (by omega)
  by_cases hE : wE l i = 0
  · have hr := fg_room (l.drop i) hE
    rw [List.length_drop] at hr
    exact ⟨frm l i, sgs_frame l i h hE, rfl, by simp only [frm]; omega, by simp only [frm]; omega, fun _ => ⟨rfl, hE⟩, fun hf => by simp [frm] at hf⟩
  · by_cases hn : nxt l i < l.length
    · have hEn := nxt_is l i hn
      have hne : i < nxt l i := by
        rcases Nat.lt_or_ge i (nxt l i) with h3 | h3
        · exact h3
        · have : nxt l i = i := by omega
          rw [this] at hEn
          exact absurd hEn hE
      refine ⟨skp i (nxt l i - i), ?_, rfl, by simp only [skp]; omega, by simp only [skp]; omega, fun hf => by simp [skp] at hf, fun _ => ⟨rfl, fun j a b => ?_, fun _ => ?_⟩⟩
      · simp only [skp]
        rw [show i + (nxt l i - i) = nxt l i from by omega, sgs_frame l (nxt l i) hn hEn, sgs_next l i h hn, if_pos hne]
        rfl
      · simp only [skp] at b
        exact nxt_not l i j a (by omega)
      · simp only [skp]
        rw [show i + (nxt l i - i) = nxt l i from by omega]
        exact hEn
    · refine ⟨skp i (l.length - i), ?_, rfl, by simp only [skp]; omega, by simp only [skp]; omega, fun hf => by simp [skp] at hf, fun _ => ⟨rfl, fun j a b => ?_, fun a => ?_⟩⟩
      · rw [show (skp i (l.length - i)).n = l.length - i from rfl, sgs_end l (i + (l.length - i)) (by omega), sgs_last l i h hn]
      · simp only [skp] at b
        exact nxt_not l i j a (by omega)
      · simp only [skp] at a
        omega
/-- the parts from a place on are those of the bytes from there on -/
def shS (d : Nat) (s : Sg) : Sg := ⟨s.fr + d, s.n, s.is, s.k, s.p⟩
theorem wE_drop (l : List UInt8) (d i : Nat) : wE (l.drop d) i = wE l (d + i) := by
  unfold wE
  rw [List.drop_drop]
theorem sgs_behind (l : List UInt8) (d : Nat) (hd : d ≤ l.length) : ∀ (m i : Nat), (l.length - d) - i = m → (sgs (l.drop d) i).map (shS d) = sgs l (d + i) := by
  intro m
  induction m using Nat.strongRecOn with
  | _ m ih =>
    intro i hm
    by_cases h : i < (l.drop d).length
    · have hl : (l.drop d).length = l.length - d := List.length_drop
      obtain ⟨s, e1, e2, e3, e4, e5, e6⟩ := sgs_cons (l.drop d) i h
      obtain ⟨t, f1, f2, f3, f4, f5, f6⟩ := sgs_cons l (d + i) (by omega)
      have hst : shS d s = t := by
        by_cases hE : wE l (d + i) = 0
        · have hs : s.is = true := by
            cases hb : s.is with
            | true => rfl
            | false => exact absurd ((wE_drop l d i).trans hE) ((e6 hb).2.1 i (Nat.le_refl _) (by omega))
          have ht : t.is = true := by
            cases hb : t.is with
            | true => rfl
            | false => exact absurd hE ((f6 hb).2.1 (d + i) (Nat.le_refl _) (by omega))
          rw [(e5 hs).1, (f5 ht).1]
          unfold shS frm
          simp only [List.drop_drop]
          rw [Nat.add_comm i d]
        · have hs : s.is = false := by
            cases hb : s.is with
            | false => rfl
            | true => exact absurd ((wE_drop l d i).symm.trans (e5 hb).2) hE
          have ht : t.is = false := by
            cases hb : t.is with
            | false => rfl
            | true => exact absurd (f5 hb).2 hE
          obtain ⟨g1, g2, g3⟩ := e6 hs
          obtain ⟨k1, k2, k3⟩ := f6 ht
          have hn : s.n = t.n := by
            rcases Nat.lt_trichotomy s.n t.n with c | c | c
            · have := g3 (by omega)
              rw [wE_drop] at this
              exact absurd this (k2 (d + (i + s.n)) (by omega) (by omega))
            · exact c
            · have := k3 (by omega)
              rw [show d + i + t.n = d + (i + t.n) from by omega, ← wE_drop] at this
              exact absurd this (g2 (i + t.n) (by omega) (by omega))
          rw [g1, k1, hn]
          unfold shS skp
          simp only [Nat.add_comm i d]
      have hsn : s.n = t.n := by rw [← hst]; rfl
      rw [e1, f1, List.map_cons, hst, ih ((l.length - d) - (i + s.n)) (by omega) (i + s.n) rfl, hsn, Nat.add_assoc]
    · have hl : (l.drop d).length = l.length - d := List.length_drop
      rw [sgs_end _ _ (by omega), sgs_end _ _ (by omega)]
      rfl

/-- parts that were told, and those to come: two that are skipped, side by side, are one -/
def joinS : List Sg → List Sg → List Sg
  | [], r => r
  | [x], y :: r => if x.is = false ∧ y.is = false then skp x.fr (x.n + y.n) :: r else x :: y :: r
  | [x], [] => [x]
  | x :: y :: l, r => x :: joinS (y :: l) r
theorem joinS_nil : ∀ l : List Sg, joinS l [] = l
  | [] => rfl
  | [x] => rfl
  | x :: y :: l => by rw [joinS, joinS_nil (y :: l)]
theorem joinS_snoc : ∀ (l : List Sg) (x : Sg) (r : List Sg), joinS (l ++ [x]) r = l ++ joinS [x] r
  | [], x, r => rfl
  | [y], x, r => rfl
  | y :: z :: l, x, r => by
    have := joinS_snoc (z :: l) x r
    simp only [List.cons_append] at this ⊢
    rw [joinS, this]
theorem joinS_true (l : List Sg) (x : Sg) (r : List Sg) (h : x.is = true) : joinS (l ++ [x]) r = l ++ x :: r := by
  rw [joinS_snoc]
  cases r <;> simp [joinS, h]
theorem joinS_head (l : List Sg) (r : List Sg) (h : ∀ x, r.head? = some x → x.is = true) : joinS l r = l ++ r := by
  rcases List.eq_nil_or_concat l with rfl | ⟨q, x, rfl⟩
  · cases r <;> simp [joinS]
  · rw [List.concat_eq_append, joinS_snoc]
    cases r with
    | nil => simp [joinS]
    | cons y r =>
      have := h y rfl
      simp [joinS, this]
theorem joinS_skip (l : List Sg) (f n m : Nat) (r : List Sg) (x : Sg) (hx : x = skp f n) (y : Sg) (hy : y.is = false) (hm : y.n = m) : joinS (l ++ [x]) (y :: r) = l ++ skp f (n + m) :: r := by
  subst hx hm
  rw [joinS_snoc]
  simp [joinS, hy, skp]
theorem joinS_one (l : List Sg) (r : List Sg) (h : ∀ x, l.getLast? = some x → x.is = true) : joinS l r = l ++ r := by
  rcases List.eq_nil_or_concat l with rfl | ⟨q, x, rfl⟩
  · cases r <;> simp [joinS]
  · rw [List.concat_eq_append] at *
    have := h x (by simp)
    rw [joinS_true _ _ _ this]
    simp
/-- the reference's step: a frame -/
theorem joinS_frame (l : List UInt8) (out : List Sg) (i : Nat) (h : i < l.length) (hE : wE l i = 0) : joinS (out ++ [frm l i]) (sgs l (i + (fgB (l.drop i) + 4))) = joinS out (sgs l i) := by
  rw [joinS_true _ _ _ rfl, sgs_frame l i h hE, joinS_head]
  intro x hx
  simp only [List.head?_cons, Option.some.injEq] at hx
  rw [← hx]
  rfl
/-- a byte more of the last part, which is skipped -/
theorem joinS_longer (l : List UInt8) (out : List Sg) (f n i : Nat) (h : i < l.length) (hE : wE l i ≠ 0) : joinS (out ++ [skp f (n + 1)]) (sgs l (i + 1)) = joinS (out ++ [skp f n]) (sgs l i) := by
  obtain ⟨m, r, h1, h2, h3⟩ := sgs_skip l i h hE
  rw [h1, h3, joinS_skip out f n (m + 1) r _ rfl _ rfl rfl]
  by_cases hm : m = 0
  · subst hm
    rw [if_pos rfl, joinS_head _ _ h2]
    simp
  · rw [if_neg hm, joinS_skip out f (n + 1) m r _ rfl _ rfl rfl, show n + 1 + m = n + (m + 1) from by omega]
/-- a part more, which is skipped -/
theorem joinS_first (l : List UInt8) (out : List Sg) (i : Nat) (h : i < l.length) (hE : wE l i ≠ 0) (ho : ∀ x, out.getLast? = some x → x.is = true) : joinS (out ++ [skp i 1]) (sgs l (i + 1)) = joinS out (sgs l i) := by
  obtain ⟨m, r, h1, h2, h3⟩ := sgs_skip l i h hE
  rw [joinS_one out _ ho, h1, h3]
  by_cases hm : m = 0
  · subst hm
    rw [if_pos rfl, joinS_head _ _ h2]
    simp
  · rw [if_neg hm, joinS_skip out i 1 m r _ rfl _ rfl rfl, show 1 + m = m + 1 from by omega]
end TG
