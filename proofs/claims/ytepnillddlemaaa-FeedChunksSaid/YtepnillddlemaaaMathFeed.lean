/- Bytes in chunks: what is told of them, in plain Lean: no program here. Conditions stand in each theorem. -/
import Derived.Test.YtepnillddlemaaaMathSegs
set_option linter.unusedVariables false
set_option linter.unusedSimpArgs false
namespace TG
open Go TG.Crc

/-- the place that is looked for: a frame; or what may yet be one -/
def lookF (e : Bool) (l : List UInt8) (i : Nat) : Nat := if e then nxt l i else opn l i
def tl (sk a : Nat) : List Sg := if sk < a then [skp sk (a - sk)] else []
theorem look_ge (e : Bool) (l : List UInt8) (i : Nat) : i ≤ lookF e l i := by
  unfold lookF nxt opn
  split <;> exact fst_ge _ _ _
theorem look_le (e : Bool) (l : List UInt8) (i : Nat) (h : i ≤ l.length) : lookF e l i ≤ l.length := by
  unfold lookF nxt opn
  split
  · have := fst_le (isF l) (l.length - i) i; omega
  · have := fst_le (isO l) (l.length - i) i; omega
theorem fst_shift (q : Nat → Bool) (d : Nat) : ∀ n i, fst (fun k => q (d + k)) i n + d = fst q (d + i) n
  | 0, i => by simp [fst]; omega
  | n + 1, i => by
    unfold fst
    have := fst_shift q d n (i + 1)
    rw [show d + (i + 1) = d + i + 1 from by omega] at this
    by_cases h : q (d + i) = true
    · simp [h]; omega
    · simp only [h]
      simpa using this
theorem look_drop (e : Bool) (l : List UInt8) (d : Nat) (h : d ≤ l.length) : lookF e (l.drop d) 0 + d = lookF e l d := by
  have h1 : (l.drop d).length = l.length - d := List.length_drop
  have hF : isF (l.drop d) = fun k => isF l (d + k) := by funext k; unfold isF; rw [wE_drop]
  have hO : isO (l.drop d) = fun k => isO l (d + k) := by funext k; unfold isO; rw [wE_drop]
  unfold lookF nxt opn
  split
  · rw [hF, fst_shift, h1]; rfl
  · rw [hO, fst_shift, h1]; rfl
theorem look_not (e : Bool) (l : List UInt8) (i j : Nat) (h1 : i ≤ j) (h2 : j < lookF e l i) : wE l j ≠ 0 ∧ (e = false → wE l j ≠ 2) := by
  unfold lookF nxt opn at h2
  cases e with
  | true => exact ⟨by have := fst_none (isF l) (l.length - i) i j h1 h2; simpa [isF] using this, fun h => by cases h⟩
  | false =>
    have := fst_none (isO l) (l.length - i) i j h1 h2
    simp [isO] at this
    exact ⟨this.1, fun _ => this.2⟩
theorem look_is (l : List UInt8) (i : Nat) (h : lookF true l i < l.length) : wE l (lookF true l i) = 0 := nxt_is l i h
/-- what is told from P on, all ahead of sk being told; where it stops; up to where all is told -/
def pM (e : Bool) (l : List UInt8) (P sk : Nat) : List Sg × Nat × Nat :=
  if h : lookF e l P < l.length ∧ wE l (lookF e l P) = 0 then
    let b := lookF e l P + (fgB (l.drop (lookF e l P)) + 4)
    let r := pM e l b b
    (tl sk (lookF e l P) ++ frm l (lookF e l P) :: r.1, r.2)
  else ([], lookF e l P, sk)
termination_by l.length - P
decreasing_by
  have := look_ge e l P
  omega
theorem pM_stop (e : Bool) (l : List UInt8) (P sk : Nat) (h : ¬ (lookF e l P < l.length ∧ wE l (lookF e l P) = 0)) : pM e l P sk = ([], lookF e l P, sk) := by
  rw [pM, dif_neg h]
theorem pM_next (e : Bool) (l : List UInt8) (P sk a b : Nat) (ha : lookF e l P = a) (h : a < l.length) (h0 : wE l a = 0) (hb : b = a + (fgB (l.drop a) + 4)) : pM e l P sk = (tl sk a ++ frm l a :: (pM e l b b).1, (pM e l b b).2) := by
  subst ha hb
  rw [pM, dif_pos ⟨h, h0⟩]
theorem frm_room (l : List UInt8) (a : Nat) (h : wE l a = 0) : a + (fgB (l.drop a) + 4) ≤ l.length ∧ a < l.length := by
  have := fg_room (l.drop a) h
  rw [List.length_drop] at this
  omega
theorem frm_more (l r : List UInt8) (a : Nat) (h : a ≤ l.length) (h0 : wE l a = 0) : frm (l ++ r) a = frm l a ∧ wE (l ++ r) a = 0 := by
  unfold wE at *
  have hd : (l ++ r).drop a = l.drop a ++ r := List.drop_append_of_le_length h
  obtain ⟨h1, h2⟩ := fg_more (l.drop a) r (by omega)
  obtain ⟨h3, h4, h5⟩ := h2 h0
  unfold frm
  rw [hd, h1, h3, h4, h5]
  exact ⟨rfl, h0⟩
theorem sgs_until (l : List UInt8) (sk a : Nat) (h1 : sk ≤ a) (h2 : ∀ j, sk ≤ j → j < a → wE l j ≠ 0) (h3 : wE l a = 0) : sgs l sk = tl sk a ++ frm l a :: sgs l (a + (fgB (l.drop a) + 4)) := by
  obtain ⟨h4, h5⟩ := frm_room l a h3
  have hn : nxt l sk = a := by
    unfold nxt
    exact fst_eq _ _ _ _ h1 (by omega) (fun k a1 a2 => by simp [isF, h2 k a1 a2]) (fun _ => by simp [isF, h3])
  rw [sgs_next l sk (by omega) (by omega), hn]
  rfl
/-- what was told of the first bytes is told of all, whatever comes -/
def Still (l : List UInt8) (T : List Sg) (P sk : Nat) : Prop := sk ≤ P ∧ P ≤ l.length ∧ (∀ j, sk ≤ j → j < P → wE l j ≠ 0 ∧ wE l j ≠ 2) ∧ ∀ r, sgs (l ++ r) 0 = T ++ sgs (l ++ r) sk
theorem still_nil : Still [] [] 0 0 := ⟨Nat.le_refl _, Nat.le_refl _, fun j h1 h2 => by omega, fun r => rfl⟩
theorem still_more {l : List UInt8} {T : List Sg} {P sk : Nat} (h : Still l T P sk) (r : List UInt8) : Still (l ++ r) T P sk := by
  obtain ⟨h1, h2, h3, h4⟩ := h
  refine ⟨h1, by simp; omega, fun j a b => ?_, fun r' => by rw [List.append_assoc]; exact h4 _⟩
  obtain ⟨k1, k2⟩ := h3 j a b
  rw [(wE_more l r j (by omega) k2).1]
  exact ⟨k1, k2⟩
theorem still_parts (l : List UInt8) : ∀ (m P sk : Nat) (T : List Sg), l.length - P = m → Still l T P sk → Still l (T ++ (pM false l P sk).1) (pM false l P sk).2.1 (pM false l P sk).2.2 := by
  intro m
  induction m using Nat.strongRecOn with
  | _ m ih =>
    intro P sk T hm h
    obtain ⟨h1, h2, h3, h4⟩ := h
    have hge := look_ge false l P
    have hle := look_le false l P h2
    have hno : ∀ j, sk ≤ j → j < lookF false l P → wE l j ≠ 0 ∧ wE l j ≠ 2 := fun j a b => by
      by_cases hj : j < P
      · exact h3 j a hj
      · exact ⟨(look_not false l P j (by omega) b).1, (look_not false l P j (by omega) b).2 rfl⟩
    by_cases hc : lookF false l P < l.length ∧ wE l (lookF false l P) = 0
    · obtain ⟨c1, c2⟩ := hc
      generalize ha : lookF false l P = a at *
      obtain ⟨b1, _⟩ := frm_room l a c2
      rw [pM_next false l P sk a _ ha c1 c2 rfl]
      have := ih (l.length - (a + (fgB (l.drop a) + 4))) (by omega) (a + (fgB (l.drop a) + 4)) (a + (fgB (l.drop a) + 4)) (T ++ (tl sk a ++ [frm l a])) rfl
        ⟨Nat.le_refl _, b1, fun j x y => by omega, fun r => by
          rw [h4 r, sgs_until (l ++ r) sk a (by omega) (fun j x y => by
            obtain ⟨k1, k2⟩ := hno j x y
            rw [(wE_more l r j (by omega) k2).1]
            exact k1) (frm_more l r a (by omega) c2).2]
          have hB : fgB ((l ++ r).drop a) = fgB (l.drop a) := (wE_more l r a (by omega) (by omega)).2 c2
          rw [hB, (frm_more l r a (by omega) c2).1]
          simp⟩
      simpa using this
    · rw [pM_stop false l P sk hc]
      exact ⟨by show sk ≤ lookF false l P; omega, hle, hno, by simpa using h4⟩
theorem still_end (l : List UInt8) : ∀ (m P sk : Nat) (T : List Sg), l.length - P = m → sk ≤ P → P ≤ l.length → (∀ j, sk ≤ j → j < P → wE l j ≠ 0) → sgs l 0 = T ++ sgs l sk →
    T ++ ((pM true l P sk).1 ++ tl (pM true l P sk).2.2 (pM true l P sk).2.1) = sgs l 0 := by
  intro m
  induction m using Nat.strongRecOn with
  | _ m ih =>
    intro P sk T hm h1 h2 h3 h4
    have hge := look_ge true l P
    have hle := look_le true l P h2
    have hno : ∀ j, sk ≤ j → j < lookF true l P → wE l j ≠ 0 := fun j a b => by
      by_cases hj : j < P
      · exact h3 j a hj
      · exact (look_not true l P j (by omega) b).1
    have his := look_is l P
    by_cases hc : lookF true l P < l.length ∧ wE l (lookF true l P) = 0
    · obtain ⟨c1, c2⟩ := hc
      generalize ha : lookF true l P = a at *
      obtain ⟨b1, _⟩ := frm_room l a c2
      rw [pM_next true l P sk a _ ha c1 c2 rfl]
      have := ih (l.length - (a + (fgB (l.drop a) + 4))) (by omega) (a + (fgB (l.drop a) + 4)) (a + (fgB (l.drop a) + 4)) (T ++ (tl sk a ++ [frm l a])) rfl (Nat.le_refl _) b1 (fun j x y => by omega)
        (by rw [h4, sgs_until l sk a (by omega) hno c2]; simp)
      simpa using this
    · rw [pM_stop true l P sk hc]
      have hn : lookF true l P = l.length := by
        rcases Nat.lt_or_ge (lookF true l P) l.length with k | k
        · exact absurd ⟨k, his k⟩ hc
        · omega
      rw [hn] at hno ⊢
      rw [h4, List.nil_append]
      congr 1
      unfold tl
      by_cases hs : sk < l.length
      · rw [if_pos hs, sgs_last l sk hs]
        have : nxt l sk = l.length := by
          unfold nxt
          exact fst_eq _ _ _ _ (by omega) (by omega) (fun k a1 a2 => by simp [isF, hno k a1 a2]) (fun a => by omega)
        omega
      · rw [if_neg hs, sgs_end l sk (by omega)]
/-- all is told once it is closed -/
theorem still_close {l : List UInt8} {T : List Sg} {P sk : Nat} (h : Still l T P sk) : T ++ ((pM true l P sk).1 ++ tl (pM true l P sk).2.2 (pM true l P sk).2.1) = sgs l 0 :=
  still_end l _ P sk T rfl h.1 h.2.1 (fun j a b => (h.2.2.1 j a b).1) (by have := h.2.2.2 []; rwa [List.append_nil] at this)
theorem tl_len (sk a : Nat) : (tl sk a).length ≤ 1 := by unfold tl; split <;> simp
theorem pM_len (e : Bool) (l : List UInt8) : ∀ (m P sk : Nat), l.length - P = m → P ≤ l.length → sk ≤ P → (pM e l P sk).1.length + (pM e l P sk).2.1 ≤ P + 2 * (l.length - P) ∧ P ≤ (pM e l P sk).2.1 ∧ (pM e l P sk).2.1 ≤ l.length ∧ (pM e l P sk).2.2 ≤ (pM e l P sk).2.1 := by
  intro m
  induction m using Nat.strongRecOn with
  | _ m ih =>
    intro P sk hm h2 hs
    have hge := look_ge e l P
    have hle := look_le e l P h2
    by_cases hc : lookF e l P < l.length ∧ wE l (lookF e l P) = 0
    · obtain ⟨c1, c2⟩ := hc
      generalize ha : lookF e l P = a at *
      obtain ⟨b1, _⟩ := frm_room l a c2
      have hr := fg_room (l.drop a) c2
      rw [pM_next e l P sk a _ ha c1 c2 rfl]
      obtain ⟨k1, k2, k3, k4⟩ := ih (l.length - (a + (fgB (l.drop a) + 4))) (by omega) (a + (fgB (l.drop a) + 4)) (a + (fgB (l.drop a) + 4)) rfl b1 (Nat.le_refl _)
      have ht := tl_len sk a
      simp only [List.length_append, List.length_cons]
      refine ⟨by omega, by omega, k3, k4⟩
    · rw [pM_stop e l P sk hc]
      refine ⟨by simp; omega, hge, hle, by simp; omega⟩
end TG
