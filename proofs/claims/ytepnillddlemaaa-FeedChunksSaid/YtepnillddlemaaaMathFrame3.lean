/- The laws of frames, in plain Lean: no program here. Conditions stand in each theorem. -/
import Derived.Test.YtepnillddlemaaaMathFrame2
set_option linter.unusedVariables false
set_option linter.unusedSimpArgs false
namespace TG
open Go TG.Crc

/-- a frame's head and payload, behind the mark, and then t -/
def fr (k : Nat) (p t : List UInt8) : List UInt8 := mark4 ++ (fb k p ++ t)
theorem fp_fr (k : Nat) (p r : List UInt8) : fp k p ++ r = fr k p (b4 (crc (fb k p)) ++ r) := by
  unfold fp fr mark4
  simp
theorem fp_fr0 (k : Nat) (p : List UInt8) : fp k p = fr k p (b4 (crc (fb k p))) := by
  have := fp_fr k p []
  simpa using this
theorem fr_length (k : Nat) (p t : List UInt8) : (fr k p t).length = 5 + (nb p.length).length + p.length + t.length := by
  unfold fr mark4
  simp [fb_length]
  omega
theorem fp_length (k : Nat) (p : List UInt8) : (fp k p).length = 9 + (nb p.length).length + p.length := by
  rw [fp_fr0, fr_length, b4_length]
  omega
theorem fr_drop4 (k : Nat) (p t : List UInt8) : (fr k p t).drop 4 = fb k p ++ t := by
  unfold fr
  exact List.drop_left' rfl
theorem fr_drop5 (k : Nat) (p t : List UInt8) : (fr k p t).drop 5 = nb p.length ++ (p ++ t) := by
  rw [show (5 : Nat) = 4 + 1 from rfl, ← List.drop_drop, fr_drop4]
  unfold fb
  simp
theorem fr_read (k : Nat) (hk : k = 1 ∨ k = 2) (p t : List UInt8) (hp : p.length ≤ 4096) :
    fgH (fr k p t) = 0 ∧ fgK (fr k p t) = k ∧ fgN (fr k p t) = p.length ∧ fgA (fr k p t) = 5 + (nb p.length).length ∧ fgB (fr k p t) = 5 + (nb p.length).length + p.length ∧ fgP (fr k p t) = p := by
  have h64 : p.length < 2 ^ 64 := by omega
  have hd5 := fr_drop5 k p t
  have hN : fgN (fr k p t) = p.length := by unfold fgN; rw [hd5, wgN_nb h64]
  have hA : fgA (fr k p t) = 5 + (nb p.length).length := by unfold fgA; rw [hd5, wgS_nb h64]
  have hkb : (UInt8.ofNat k).toNat = k := by rw [UInt8.toNat_ofNat', Nat.mod_eq_of_lt (by omega)]
  have hd4 : (fr k p t).drop 4 = UInt8.ofNat k :: (nb p.length ++ (p ++ t)) := by
    rw [fr_drop4]; unfold fb; simp
  refine ⟨?_, ?_, hN, hA, ?_, ?_⟩
  · unfold fgH
    rw [show mkE mark4 (fr k p t) = 0 from mkE_pre _ _, if_neg (by omega), hd4]
    simp only
    rw [hkb, if_pos hk, wgE_nb h64, wgN_nb h64, if_neg (by omega), if_neg (by omega)]
  · unfold fgK
    rw [hd4]
    exact hkb
  · unfold fgB
    rw [hN, hA]
  · unfold fgP
    rw [hN, hA, ← List.drop_drop, hd5, List.drop_left' rfl, List.take_left' rfl]
theorem fr_E (k : Nat) (hk : k = 1 ∨ k = 2) (p t : List UInt8) (hp : p.length ≤ 4096) (ht : 4 ≤ t.length) :
    fgE (fr k p t) = if b4 (crc (fb k p)) ≠ t.take 4 then 5 else 0 := by
  obtain ⟨h1, h2, h3, h4, h5, h6⟩ := fr_read k hk p t hp
  have hl := fr_length k p t
  have hb : ((fr k p t).drop 4).take (fgB (fr k p t) - 4) = fb k p := by
    rw [fr_drop4, h5]
    exact List.take_left' (by rw [fb_length]; omega)
  have hd : (fr k p t).drop (fgB (fr k p t)) = t := by
    rw [h5, show 5 + (nb p.length).length + p.length = 4 + (1 + (nb p.length).length + p.length) from by omega, ← List.drop_drop, fr_drop4]
    exact List.drop_left' (by rw [fb_length])
  unfold fgE
  rw [if_neg (by omega), if_neg (by omega), hb, hd]
/-- what was put is read, whatever is behind -/
theorem fg_put (k : Nat) (hk : k = 1 ∨ k = 2) (p r : List UInt8) (hp : p.length ≤ 4096) :
    fgE (fp k p ++ r) = 0 ∧ fgK (fp k p ++ r) = k ∧ fgP (fp k p ++ r) = p ∧ fgB (fp k p ++ r) + 4 = (fp k p).length := by
  rw [fp_fr]
  obtain ⟨h1, h2, h3, h4, h5, h6⟩ := fr_read k hk p (b4 (crc (fb k p)) ++ r) hp
  refine ⟨?_, h2, h6, ?_⟩
  · rw [fr_E k hk p _ hp (by rw [List.length_append, b4_length]; omega), List.take_left' (b4_length _)]
    simp
  · rw [h5, fp_length]
    omega
/-- what is read was put -/
theorem fg_back (l : List UInt8) (h : fgE l = 0) : l.take (fgB l + 4) = fp (fgK l) (fgP l) ∧ fgB l + 4 ≤ l.length ∧ (fgK l = 1 ∨ fgK l = 2) ∧ (fgP l).length ≤ 4096 ∧ fgH l = 0 ∧ (fgP l).length = fgN l := by
  unfold fgE at h
  by_cases hH : fgH l = 0
  · rw [if_neg (by omega)] at h
    by_cases hL : l.length < fgB l + 4
    · rw [if_pos hL] at h; simp at h
    · rw [if_neg hL] at h
      by_cases hc : b4 (crc ((l.drop 4).take (fgB l - 4))) ≠ (l.drop (fgB l)).take 4
      · rw [if_pos hc] at h; simp at h
      · have hc' := Decidable.of_not_not hc
        have hH' := hH
        unfold fgH at hH'
        by_cases hm : mkE mark4 l = 0
        · rw [if_neg (by omega)] at hH'
          obtain ⟨_, hm4⟩ := mkE_zero mark4 l hm
          cases hd : l.drop 4 with
          | nil => rw [hd] at hH'; simp at hH'
          | cons k r =>
            rw [hd] at hH'
            simp only at hH'
            have h5 : l.drop 5 = r := by rw [show (5 : Nat) = 4 + 1 from rfl, ← List.drop_drop, hd]; rfl
            have hK : fgK l = k.toNat := by unfold fgK; rw [hd]; rfl
            by_cases hk : k.toNat = 1 ∨ k.toNat = 2
            · rw [if_pos hk] at hH'
              by_cases hw : wgE r = 0
              · rw [if_neg (by omega)] at hH'
                by_cases hn : 4096 < wgN r
                · rw [if_pos hn] at hH'; simp at hH'
                · obtain ⟨b1, b2, b3⟩ := wg_back hw
                  have hN : fgN l = wgN r := by unfold fgN; rw [h5]
                  have hA : fgA l = 5 + wgS r := by unfold fgA; rw [h5]
                  have hB : fgB l = 5 + wgS r + wgN r := by unfold fgB; rw [hN, hA]
                  have hlen : l.length = 5 + r.length := by
                    have := congrArg List.length hd
                    simp at this
                    omega
                  have hP : fgP l = (r.drop (wgS r)).take (wgN r) := by
                    unfold fgP
                    rw [hA, hN, ← List.drop_drop, h5]
                  have hPl : (fgP l).length = wgN r := by
                    rw [hP, List.length_take, List.length_drop]
                    omega
                  have hbody : (l.drop 4).take (fgB l - 4) = fb (fgK l) (fgP l) := by
                    rw [hd, hB, show 5 + wgS r + wgN r - 4 = (wgS r + wgN r) + 1 from by omega, List.take_succ_cons]
                    unfold fb
                    rw [hPl, hK, ← b1, hP, ← List.take_add]
                    simp
                  refine ⟨?_, by omega, by rw [hK]; exact hk, by omega, hH, by rw [hPl, hN]⟩
                  rw [fp_fr0]
                  unfold fr
                  rw [← hbody, hc', show fgB l + 4 = 4 + (fgB l - 4 + 4) from by omega, List.take_add, List.take_add, List.drop_drop, show 4 + (fgB l - 4) = fgB l from by omega]
                  congr 1
              · rw [if_pos hw] at hH'; exact absurd hH' hw
            · rw [if_neg hk] at hH'; simp at hH'
        · rw [if_pos hm] at hH'; exact absurd hH' hm
  · rw [if_pos hH] at h; exact absurd h hH
/-- cut off anywhere, none is read -/
theorem fg_short (k : Nat) (hk : k = 1 ∨ k = 2) (p : List UInt8) (hp : p.length ≤ 4096) (m : Nat) (hm : m < (fp k p).length) : fgE ((fp k p).take m) = 2 := by
  have h64 : p.length < 2 ^ 64 := by omega
  rw [fp_length] at hm
  have hlen : ((fp k p).take m).length = m := by rw [List.length_take, fp_length]; omega
  have hkb : (UInt8.ofNat k).toNat = k := by rw [UInt8.toNat_ofNat', Nat.mod_eq_of_lt (by omega)]
  have hmk : mkE mark4 ((fp k p).take m) = if m < 4 then 2 else 0 := mkE_cut mark4 (fp k p) m (by rw [fp_fr0]; exact mkE_pre _ _)
  by_cases h4 : m < 4
  · rw [if_pos h4] at hmk
    unfold fgE fgH
    rw [hmk]
    rfl
  · rw [if_neg h4] at hmk
    have hd4 : ((fp k p).take m).drop 4 = (UInt8.ofNat k :: (nb p.length ++ (p ++ b4 (crc (fb k p))))).take (m - 4) := by
      rw [fp_fr0, List.drop_take, fr_drop4]; unfold fb; simp
    by_cases h5 : m = 4
    · subst h5
      unfold fgE fgH
      rw [hmk, hd4]
      rfl
    · obtain ⟨j, rfl⟩ : ∃ j, m = j + 5 := ⟨m - 5, by omega⟩
      rw [show j + 5 - 4 = j + 1 from by omega, List.take_succ_cons] at hd4
      have hd5 : ((fp k p).take (j + 5)).drop 5 = (nb p.length ++ (p ++ b4 (crc (fb k p)))).take j := by
        rw [show (5 : Nat) = 4 + 1 from rfl, ← List.drop_drop, show j + (4 + 1) = j + 5 from rfl, hd4]; rfl
      have hH : fgH ((fp k p).take (j + 5)) = if wgE ((nb p.length ++ (p ++ b4 (crc (fb k p)))).take j) ≠ 0 then wgE ((nb p.length ++ (p ++ b4 (crc (fb k p)))).take j) else if 4096 < wgN ((nb p.length ++ (p ++ b4 (crc (fb k p)))).take j) then 6 else 0 := by
        unfold fgH
        rw [hmk, if_neg (by omega), hd4]
        simp only
        rw [hkb, if_pos hk]
      by_cases hj : j < (nb p.length).length
      · have := wgE_cut (nb p.length ++ (p ++ b4 (crc (fb k p)))) j (wgE_nb h64 _) (by rw [wgS_nb h64]; exact hj)
        unfold fgE
        rw [hH, this]
        rfl
      · have ht : (nb p.length ++ (p ++ b4 (crc (fb k p)))).take j = nb p.length ++ (p ++ b4 (crc (fb k p))).take (j - (nb p.length).length) := by
          rw [List.take_append, List.take_of_length_le (by omega)]
        have hB : fgB ((fp k p).take (j + 5)) = 5 + (nb p.length).length + p.length := by
          unfold fgB fgA fgN
          rw [hd5, ht, wgS_nb h64, wgN_nb h64]
        have hH0 : fgH ((fp k p).take (j + 5)) = 0 := by
          rw [hH, ht, wgE_nb h64, wgN_nb h64, if_neg (by omega), if_neg (by omega)]
        unfold fgE
        rw [hH0, if_neg (by omega), hB, hlen, if_pos (by omega)]

/-- a word's bytes, as bits -/
theorem bitL_b4 (x : BitVec 32) : bitL (b4 x) = wbits x 0 32 := by
  apply List.ext_getElem
  · rw [bitL_length, b4_length]; simp [wbits]
  · intro i h1 h2
    have hi : i < 32 := by rw [bitL_length, b4_length] at h1; omega
    rw [bitL_get]
    simp only [wbits, List.getElem_map, List.getElem_range, Nat.zero_add]
    have hx := x.isLt
    have key : ∀ q, q < 4 → ∀ r, r < 8 → (x.toNat / 2 ^ (8 * q) % 256).testBit r = x.getLsbD (8 * q + r) := by
      intro q hq r hr
      rw [show (256 : Nat) = 2 ^ 8 from rfl, Nat.testBit_mod_two_pow, ← Nat.shiftRight_eq_div_pow, Nat.testBit_shiftRight]
      simp [hr, BitVec.getLsbD]
    have h8 : i = 8 * (i / 8) + i % 8 := by omega
    have hr : i % 8 < 8 := Nat.mod_lt _ (by decide)
    have hq : i / 8 = 0 ∨ i / 8 = 1 ∨ i / 8 = 2 ∨ i / 8 = 3 := by omega
    have key' := fun q hq => key q hq (i % 8) hr
    conv => rhs; rw [h8]
    unfold bit
    rcases hq with e | e | e | e
    · rw [e, ← key' 0 (by decide)]; simp [b4]
    · rw [e, ← key' 1 (by decide)]; simp [b4]
    · rw [e, ← key' 2 (by decide)]; simp [b4]
    · rw [e, ← key' 3 (by decide)]
      simp only [b4, List.getElem?_cons_succ, List.getElem?_cons_zero, UInt8.toNat_ofNat']
theorem ups_b4 (v x : BitVec 32) : ups v (b4 x) = stn 32 (v ^^^ x) := by
  rw [ups_run, bitL_b4, run_lin, run_wbits x 32 0 rfl]
  simp only [wbits, List.length_map, List.length_range]
  rw [stn_xor]
  simp
/-- bytes and their sum, together: always the same -/
theorem ups_sum (l : List UInt8) : ups (~~~0#32) (l ++ b4 (crc l)) = stn 32 (~~~0#32) := by
  rw [ups_append, ups_b4]
  unfold crc
  congr 1
  have ones : ∀ i : Fin 32, (4294967295#32)[i.val] = true := by decide
  apply getLsbD_ext
  intro i hi
  simp [hi]
  exact ones ⟨i, hi⟩
/-- some bits of payload or sum are turned, within 32 in a row: the sum is not that of the payload -/
theorem sum_told (b m : List UInt8) (t : List UInt8) (T : BitVec 32) (hT : T ≠ 0#32) (frm : Nat) (h : frm + 32 ≤ 8 * (b.length + 4)) (hl : m.length = b.length) (ht : t.length = 4)
    (hb : ∀ i, i < 8 * (b.length + 4) → bit (m ++ t) i = (bit (b ++ b4 (crc b)) i ^^ turnAt T frm 32 i)) : b4 (crc m) ≠ t := by
  intro e
  subst e
  have h1 := told_bytes (b ++ b4 (crc b)) (m ++ b4 (crc m)) T hT frm (by rw [List.length_append, b4_length]; exact h) (by simp [hl, b4_length]) (by rw [List.length_append, b4_length]; exact hb) (~~~0#32)
  rw [ups_sum, ups_sum] at h1
  exact h1 rfl
/-- with whatever behind -/
theorem fgH_more (l r : List UInt8) (h : fgH l ≠ 2) : fgH (l ++ r) = fgH l ∧ (fgH l = 0 → fgK (l ++ r) = fgK l ∧ fgN (l ++ r) = fgN l ∧ fgA (l ++ r) = fgA l ∧ fgB (l ++ r) = fgB l) := by
  unfold fgH at h ⊢
  by_cases hm : mkE mark4 l = 0
  · rw [if_neg (by omega)] at h
    rw [mkE_more _ _ r (by omega), if_neg (by omega), if_neg (by omega)]
    have hlen := (mkE_zero _ _ hm).1
    have hl4 : 4 ≤ l.length := hlen
    rw [List.drop_append_of_le_length hl4]
    cases hd : l.drop 4 with
    | nil => rw [hd] at h; simp at h
    | cons k q =>
      rw [hd] at h
      simp only [List.cons_append] at h ⊢
      have hl5 : 5 ≤ l.length := by have := congrArg List.length hd; simp at this; omega
      have h5 : l.drop 5 = q := by rw [show (5 : Nat) = 4 + 1 from rfl, ← List.drop_drop, hd]; rfl
      have h5' : (l ++ r).drop 5 = q ++ r := by rw [List.drop_append_of_le_length hl5, h5]
      have hK : fgK (l ++ r) = fgK l := by unfold fgK; rw [List.drop_append_of_le_length hl4, hd]; rfl
      by_cases hk : k.toNat = 1 ∨ k.toNat = 2
      · rw [if_pos hk] at h
        rw [if_pos hk, if_pos hk]
        have hw2 : wgE q ≠ 2 := by
          intro e
          rw [e] at h
          simp at h
        have hwg := wg_more q r hw2
        have hE : wgE (q ++ r) = wgE q := by unfold wgE; rw [hwg]
        have hN : wgN (q ++ r) = wgN q := by unfold wgN; rw [hwg]
        have hS : wgS (q ++ r) = wgS q := by unfold wgS; rw [hwg]
        rw [hE, hN]
        refine ⟨rfl, fun _ => ⟨hK, ?_, ?_, ?_⟩⟩
        · unfold fgN; rw [h5', h5, hN]
        · unfold fgA; rw [h5', h5, hS]
        · unfold fgB fgA fgN; rw [h5', h5, hS, hN]
      · rw [if_neg hk, if_neg hk]
        exact ⟨rfl, fun h => absurd h (by decide)⟩
  · rw [if_pos hm] at h
    rw [mkE_more _ _ r h, if_pos hm, if_pos hm]
    exact ⟨rfl, fun h' => absurd h' hm⟩
theorem fg_more (l r : List UInt8) (h : fgE l ≠ 2) : fgE (l ++ r) = fgE l ∧ (fgE l = 0 → fgK (l ++ r) = fgK l ∧ fgP (l ++ r) = fgP l ∧ fgB (l ++ r) = fgB l) := by
  have hH2 : fgH l ≠ 2 := by
    intro e
    unfold fgE at h
    rw [e] at h
    exact h rfl
  obtain ⟨e1, e2⟩ := fgH_more l r hH2
  unfold fgE at h ⊢
  by_cases hH : fgH l = 0
  · obtain ⟨eK, eN, eA, eB⟩ := e2 hH
    have hne : ¬ fgH l ≠ 0 := by omega
    rw [if_neg hne] at h
    rw [e1, if_neg hne, if_neg hne, eB]
    by_cases hL : l.length < fgB l + 4
    · rw [if_pos hL] at h; exact absurd rfl h
    · have hL' : ¬ (l ++ r).length < fgB l + 4 := by simp; omega
      rw [if_neg hL, if_neg hL']
      have hA : fgA l ≤ fgB l := by unfold fgB; omega
      have h5 : 5 ≤ fgA l := by unfold fgA; omega
      have d1 : ((l ++ r).drop 4).take (fgB l - 4) = (l.drop 4).take (fgB l - 4) := by
        rw [List.drop_append_of_le_length (by omega), List.take_append_of_le_length (by simp; omega)]
      have d2 : ((l ++ r).drop (fgB l)).take 4 = (l.drop (fgB l)).take 4 := by
        rw [List.drop_append_of_le_length (by omega), List.take_append_of_le_length (by simp; omega)]
      rw [d1, d2]
      refine ⟨rfl, fun _ => ⟨eK, ?_, rfl⟩⟩
      unfold fgP
      rw [eA, eN, List.drop_append_of_le_length (by omega), List.take_append_of_le_length (by simp [fgB] at *; omega)]
  · rw [e1, if_pos hH, if_pos hH]
    exact ⟨rfl, fun h' => absurd h' hH⟩
/-- the first 4107 bytes tell the head -/
theorem fgH_take (l : List UInt8) (n : Nat) (h : 15 ≤ n) : fgH (l.take n) = fgH l ∧ fgK (l.take n) = fgK l ∧ fgN (l.take n) = fgN l ∧ fgA (l.take n) = fgA l := by
  have hwg : ∀ q : List UInt8, wgE (q.take (n - 5)) = wgE q ∧ wgN (q.take (n - 5)) = wgN q ∧ wgS (q.take (n - 5)) = wgS q := fun q => by
    have := wg_take q (n - 5) (by omega)
    unfold wgE wgN wgS
    rw [this]
    exact ⟨rfl, rfl, rfl⟩
  have h5 : (l.take n).drop 5 = (l.drop 5).take (n - 5) := List.drop_take
  have h4 : (l.take n).drop 4 = (l.drop 4).take (n - 4) := List.drop_take
  refine ⟨?_, ?_, ?_, ?_⟩
  · unfold fgH
    rw [mkE_take mark4 l n (by simp [mark4]; omega), h4]
    by_cases hm : mkE mark4 l = 0
    · rw [if_neg (by omega), if_neg (by omega)]
      cases hd : l.drop 4 with
      | nil => simp
      | cons k q =>
        rw [show n - 4 = (n - 5) + 1 from by omega, List.take_succ_cons]
        simp only
        rw [(hwg q).1, (hwg q).2.1]
    · rw [if_pos hm, if_pos hm]
  · unfold fgK
    rw [h4]
    cases hd : l.drop 4 with
    | nil => simp
    | cons k q => rw [show n - 4 = (n - 5) + 1 from by omega, List.take_succ_cons]; rfl
  · unfold fgN
    rw [h5, (hwg _).2.1]
  · unfold fgA
    rw [h5, (hwg _).2.2]
/-- what is answered: kind, payload, how many bytes (and the error fgE) -/
def gK (l : List UInt8) : Nat := if fgE l = 0 then fgK l else 0
def gP (l : List UInt8) : List UInt8 := if fgE l = 0 then fgP l else []
def gS (l : List UInt8) : Nat := if fgE l = 0 then fgB l + 4 else 0
theorem g_none {l : List UInt8} (h : fgE l ≠ 0) : gK l = 0 ∧ gP l = [] ∧ gS l = 0 := by
  unfold gK gP gS
  rw [if_neg h, if_neg h, if_neg h]
  exact ⟨rfl, rfl, rfl⟩
theorem g_some {l : List UInt8} (h : fgE l = 0) : gK l = fgK l ∧ gP l = fgP l ∧ gS l = fgB l + 4 := by
  unfold gK gP gS
  rw [if_pos h, if_pos h, if_pos h]
  exact ⟨rfl, rfl, rfl⟩
/-- the ways through the head, as a program goes them -/
theorem fgE_mark {l : List UInt8} (h : mkE mark4 l ≠ 0) : fgE l = mkE mark4 l := by
  have : fgH l = mkE mark4 l := by unfold fgH; rw [if_pos h]
  unfold fgE
  rw [this, if_pos h]
theorem fgE_few {l : List UInt8} (h : mkE mark4 l ≠ 4) (h5 : l.length < 5) : fgE l = 2 := by
  rcases mkE_vals mark4 l with e | e | e
  · have : fgH l = 2 := by
      unfold fgH
      rw [e, if_neg (by decide), List.drop_eq_nil_of_le (by omega)]
    unfold fgE
    rw [this]
    rfl
  · rw [fgE_mark (by omega), e]
  · exact absurd e h
theorem fgH_some {l : List UInt8} (h : mkE mark4 l = 0) (h5 : 5 ≤ l.length) : fgK l = l[4].toNat ∧ fgH l = if fgK l = 1 ∨ fgK l = 2 then (if wgE (l.drop 5) ≠ 0 then wgE (l.drop 5) else if 4096 < wgN (l.drop 5) then 6 else 0) else 4 := by
  have hd : l.drop 4 = l[4] :: l.drop 5 := List.drop_eq_getElem_cons (by omega)
  have hK : fgK l = l[4].toNat := by unfold fgK; rw [hd]; rfl
  refine ⟨hK, ?_⟩
  rw [hK]
  unfold fgH
  rw [h, if_neg (by decide), hd]
theorem fgE_head {l : List UInt8} (h : fgH l ≠ 0) : fgE l = fgH l := by unfold fgE; rw [if_pos h]
theorem fgE_room {l : List UInt8} (h : fgH l = 0) (h2 : l.length < fgB l + 4) : fgE l = 2 := by
  have hne : ¬ fgH l ≠ 0 := by omega
  unfold fgE; rw [if_neg hne, if_pos h2]
theorem fgE_sum {l : List UInt8} (h : fgH l = 0) (h2 : ¬ l.length < fgB l + 4) : fgE l = if b4 (crc ((l.drop 4).take (fgB l - 4))) ≠ (l.drop (fgB l)).take 4 then 5 else 0 := by
  have hne : ¬ fgH l ≠ 0 := by omega
  unfold fgE; rw [if_neg hne, if_neg h2]
theorem mkE_part {l : List UInt8} (k : Nat) (hk : k ≤ 4) (hl : k ≤ l.length) (h : ∀ j, (hj : j < k) → l[j]'(by omega) = mark4[j]'(by simp [mark4]; omega)) : (l.length = k ∨ k = 4) → mkE mark4 l ≠ 4 := by
  intro h1 h4
  obtain ⟨j, a, b, c⟩ := (mkE_four mark4 l).1 h4
  have : mark4.length = 4 := rfl
  exact c (h j (by omega))
theorem mkE_whole {l : List UInt8} (h : mkE mark4 l ≠ 4) (h5 : 5 ≤ l.length) : mkE mark4 l = 0 := by
  rcases mkE_vals mark4 l with e | e | e
  · exact e
  · exfalso
    have : ∀ (m r : List UInt8), mkE m r = 2 → r.length < m.length := by
      intro m
      induction m with
      | nil => intro r h; simp [mkE] at h
      | cons x m ih =>
        intro r h
        cases r with
        | nil => simp
        | cons y r =>
          simp only [mkE] at h
          split at h
          · have := ih r h; simp; omega
          · simp at h
    have := this mark4 l e
    simp [mark4] at this
    omega
  · exact absurd e h
attribute [irreducible] gK gP gS
end TG
