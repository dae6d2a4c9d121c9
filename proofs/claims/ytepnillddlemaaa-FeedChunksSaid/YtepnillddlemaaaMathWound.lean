/- Edits of bytes, and what parts stand still, in plain Lean: no program here. Conditions stand in each theorem. -/
import Derived.Test.YtepnillddlemaaaMathSegs
set_option linter.unusedVariables false
set_option linter.unusedSimpArgs false
namespace TG
open Go TG.Crc

/-- an edit: from where on, how many bytes, what they become -/
abbrev Ed := Int × Int × List UInt8
/-- edits may be made, the ones ahead ending at en -/
def mayB (sz : Int) : Int → List Ed → Bool
  | en, [] => decide (en ≤ sz)
  | en, e :: r => !(decide (e.1 < en) || decide (e.2.1 < 0) || decide (sz - e.1 < e.2.1)) && mayB sz (e.1 + e.2.1) r
theorem mayB_cons {sz en : Int} {e : Ed} {r : List Ed} (h : mayB sz en (e :: r) = true) : en ≤ e.1 ∧ 0 ≤ e.2.1 ∧ e.1 + e.2.1 ≤ sz ∧ mayB sz (e.1 + e.2.1) r = true := by
  simp only [mayB, Bool.and_eq_true, Bool.not_eq_true', Bool.or_eq_false_iff, decide_eq_false_iff_not] at h
  obtain ⟨⟨⟨h1, h2⟩, h3⟩, h4⟩ := h
  exact ⟨by omega, by omega, by omega, h4⟩
theorem mayB_mono {sz : Int} : ∀ {es : List Ed} {en en' : Int}, en' ≤ en → mayB sz en es = true → mayB sz en' es = true
  | [], en, en', h, hm => by simp [mayB] at hm ⊢; omega
  | e :: r, en, en', h, hm => by
    obtain ⟨h1, h2, h3, h4⟩ := mayB_cons hm
    simp only [mayB, Bool.and_eq_true, Bool.not_eq_true', Bool.or_eq_false_iff, decide_eq_false_iff_not]
    exact ⟨⟨⟨by omega, by omega⟩, by omega⟩, h4⟩
theorem mayB_le {sz : Int} : ∀ {es : List Ed} {en : Int}, mayB sz en es = true → en ≤ sz
  | [], en, hm => by simpa [mayB] using hm
  | e :: r, en, hm => by obtain ⟨h1, h2, h3, h4⟩ := mayB_cons hm; omega
/-- the edited bytes from a place on -/
def ap (l : List UInt8) : Nat → List Ed → List UInt8
  | i, [] => l.drop i
  | i, e :: r => (l.drop i).take (e.1.toNat - i) ++ e.2.2 ++ ap l (e.1 + e.2.1).toNat r
/-- an edit hits a part -/
def hit (fr n : Nat) (e : Ed) : Bool := if 0 < e.2.1 then decide (e.1 < (fr : Int) + n) && decide ((fr : Int) < e.1 + e.2.1) else decide (0 < e.2.2.length) && decide ((fr : Int) < e.1) && decide (e.1 < (fr : Int) + n)
theorem not_hit {fr n : Nat} {e : Ed} (h : hit fr n e = false) : (0 < e.2.1 → (fr : Int) + n ≤ e.1 ∨ e.1 + e.2.1 ≤ fr) ∧ (e.2.1 ≤ 0 → e.2.2 = [] ∨ e.1 ≤ fr ∨ (fr : Int) + n ≤ e.1) := by
  unfold hit at h
  refine ⟨fun h0 => ?_, fun h0 => ?_⟩
  · rw [if_pos h0, Bool.and_eq_false_iff, decide_eq_false_iff_not, decide_eq_false_iff_not] at h
    omega
  · rw [if_neg (by omega), Bool.and_eq_false_iff, Bool.and_eq_false_iff, decide_eq_false_iff_not, decide_eq_false_iff_not, decide_eq_false_iff_not] at h
    rcases h with (h | h) | h
    · left; exact List.eq_nil_of_length_eq_zero (by omega)
    · omega
    · omega
def leftB (es : List Ed) (p : Sg) : Bool := es.all fun e => !hit p.fr p.n e
theorem leftB_iff {es : List Ed} {p : Sg} : leftB es p = true ↔ ∀ e ∈ es, hit p.fr p.n e = false := by simp [leftB]
/-- by how much a place is further on -/
def mv (fr : Nat) : List Ed → Int
  | [] => 0
  | e :: r => (if e.1 ≤ fr then (e.2.2.length : Int) - e.2.1 else 0) + mv fr r
theorem mv_zero {sz : Int} {fr : Nat} : ∀ {es : List Ed} {en : Int}, mayB sz en es = true → (fr : Int) < en → mv fr es = 0
  | [], _, _, _ => rfl
  | e :: r, en, hm, h => by
    obtain ⟨h1, h2, h3, h4⟩ := mayB_cons hm
    rw [mv, if_neg (by omega), mv_zero h4 (by omega)]
    rfl
def keep (es : List Ed) (p : Sg) : Sg := ⟨((p.fr : Int) + mv p.fr es).toNat, p.n, p.is, p.k, p.p⟩
def kept (x : List Sg) (es : List Ed) : List Sg := (x.filter (leftB es)).map (keep es)

theorem ap_skip (l : List UInt8) (i j : Nat) (h : i ≤ j) (hj : j ≤ l.length) : ∀ (es : List Ed), mayB l.length j es = true → (l.drop i).take (j - i) ++ ap l j es = ap l i es
  | [], _ => by
    show (l.drop i).take (j - i) ++ l.drop j = l.drop i
    rw [show l.drop j = (l.drop i).drop (j - i) from by rw [List.drop_drop, show i + (j - i) = j from by omega], List.take_append_drop]
  | e :: r, hm => by
    obtain ⟨h1, h2, h3, h4⟩ := mayB_cons hm
    show (l.drop i).take (j - i) ++ ((l.drop j).take (e.1.toNat - j) ++ e.2.2 ++ ap l (e.1 + e.2.1).toNat r) = (l.drop i).take (e.1.toNat - i) ++ e.2.2 ++ ap l (e.1 + e.2.1).toNat r
    rw [← List.append_assoc, ← List.append_assoc]
    congr 2
    rw [show l.drop j = (l.drop i).drop (j - i) from by rw [List.drop_drop, show i + (j - i) = j from by omega], show e.1.toNat - i = (j - i) + (e.1.toNat - j) from by omega, List.take_add]
theorem take_in {A R : List UInt8} {q n a : Nat} (h : q + n ≤ a) (ha : a ≤ A.length) : ((A.take a ++ R).drop q).take n = (A.drop q).take n := by
  have hl : (A.take a).length = a := by simp; omega
  rw [List.drop_append_of_le_length (by omega), List.take_append_of_le_length (by simp; omega), List.drop_take, List.take_take, Nat.min_eq_left (by omega)]

/-- A PART THAT NO EDIT HITS HAS ITS BYTES STILL. -/
theorem still (l : List UInt8) (fr n : Nat) (hn : 1 ≤ n) (hl : fr + n ≤ l.length) : ∀ (es : List Ed) (i : Nat), mayB l.length i es = true → i ≤ fr → (∀ e ∈ es, hit fr n e = false) →
    0 ≤ (fr : Int) - i + mv fr es ∧ ((ap l i es).drop ((fr : Int) - i + mv fr es).toNat).take n = (l.drop fr).take n
  | [], i, hm, hi, hh => by
    refine ⟨by simp only [mv]; omega, ?_⟩
    rw [show ((fr : Int) - i + mv fr []).toNat = fr - i from by simp only [mv]; omega]
    show ((l.drop i).drop (fr - i)).take n = _
    rw [List.drop_drop, show i + (fr - i) = fr from by omega]
  | e :: r, i, hm, hi, hh => by
    obtain ⟨h1, h2, h3, h4⟩ := mayB_cons hm
    obtain ⟨n1, n2⟩ := not_hit (hh e (by simp))
    have hr : ∀ e ∈ r, hit fr n e = false := fun e he => hh e (by simp [he])
    have hA : ((l.drop i).take (e.1.toNat - i)).length = e.1.toNat - i := by simp; omega
    by_cases c1 : (fr : Int) + n ≤ e.1
    · have hz : mv fr (e :: r) = 0 := by rw [mv, if_neg (by omega), mv_zero h4 (by omega)]; rfl
      rw [hz]
      refine ⟨by omega, ?_⟩
      rw [show ((fr : Int) - i + 0).toNat = fr - i from by omega]
      show (((l.drop i).take (e.1.toNat - i) ++ e.2.2 ++ ap l (e.1 + e.2.1).toNat r).drop (fr - i)).take n = _
      rw [List.append_assoc, take_in (by omega) (by simp; omega), List.drop_drop, show i + (fr - i) = fr from by omega]
    · by_cases c2 : e.1 ≤ fr
      · have c3 : e.1 + e.2.1 ≤ fr := by
          rcases Int.lt_or_le 0 e.2.1 with c | c
          · have := n1 c; omega
          · omega
        have hm' : mayB (l.length : Int) ((e.1 + e.2.1).toNat : Int) r = true := by rw [show (((e.1 + e.2.1).toNat : Nat) : Int) = e.1 + e.2.1 from by omega]; exact h4
        obtain ⟨k1, k2⟩ := still l fr n hn hl r (e.1 + e.2.1).toNat hm' (by omega) hr
        have hmv : mv fr (e :: r) = (e.2.2.length : Int) - e.2.1 + mv fr r := by rw [mv, if_pos c2]
        rw [hmv]
        refine ⟨by omega, ?_⟩
        have hq : ((fr : Int) - i + ((e.2.2.length : Int) - e.2.1 + mv fr r)).toNat = ((l.drop i).take (e.1.toNat - i) ++ e.2.2).length + ((fr : Int) - ((e.1 + e.2.1).toNat : Nat) + mv fr r).toNat := by
          rw [List.length_append, hA]
          omega
        show (((l.drop i).take (e.1.toNat - i) ++ e.2.2 ++ ap l (e.1 + e.2.1).toNat r).drop _).take n = _
        rw [hq, List.drop_append, List.drop_eq_nil_of_le (by omega), List.nil_append, Nat.add_sub_cancel_left]
        exact k2
      · have c4 : e.2.1 = 0 ∧ e.2.2 = [] := by
          rcases Int.lt_or_le 0 e.2.1 with c | c
          · have := n1 c; omega
          · have := n2 c
            refine ⟨by omega, ?_⟩
            rcases this with h | h
            · exact h
            · omega
        have hm' : mayB (l.length : Int) (i : Int) r = true := mayB_mono (by omega) h4
        obtain ⟨k1, k2⟩ := still l fr n hn hl r i hm' hi hr
        have hmv : mv fr (e :: r) = mv fr r := by rw [mv, if_neg c2, Int.zero_add]
        rw [hmv]
        refine ⟨k1, ?_⟩
        have hap : ap l i (e :: r) = ap l i r := by
          show (l.drop i).take (e.1.toNat - i) ++ e.2.2 ++ ap l (e.1 + e.2.1).toNat r = _
          rw [c4.1, c4.2, List.append_nil, Int.add_zero]
          exact ap_skip l i e.1.toNat (by omega) (by omega) r (by rw [show ((e.1.toNat : Nat) : Int) = e.1 from by omega]; rw [c4.1, Int.add_zero] at h4; exact h4)
        rw [hap]
        exact k2
theorem still0 {l : List UInt8} {es : List Ed} {p : Sg} (hm : mayB l.length 0 es = true) (hn : 1 ≤ p.n) (hl : p.fr + p.n ≤ l.length) (hp : leftB es p = true) :
    0 ≤ (p.fr : Int) + mv p.fr es ∧ ((ap l 0 es).drop (keep es p).fr).take p.n = (l.drop p.fr).take p.n ∧ (keep es p).fr + p.n ≤ (ap l 0 es).length := by
  obtain ⟨h1, h2⟩ := still l p.fr p.n hn hl es 0 hm (Nat.zero_le _) (leftB_iff.1 hp)
  rw [show (p.fr : Int) - (0 : Nat) + mv p.fr es = (p.fr : Int) + mv p.fr es from by omega] at h1 h2
  refine ⟨h1, h2, ?_⟩
  have := congrArg List.length h2
  simp only [List.length_take, List.length_drop] at this
  show ((p.fr : Int) + mv p.fr es).toNat + p.n ≤ _
  omega
/-- two that no edit hits stand one behind the other still -/
theorem gap {sz : Int} (fr n fr' n' : Nat) (hn : 1 ≤ n) (hn' : 1 ≤ n') (hf : fr + n ≤ fr') : ∀ (es : List Ed) (en : Int), mayB sz en es = true → (∀ e ∈ es, hit fr n e = false) → (∀ e ∈ es, hit fr' n' e = false) →
    min 0 (max en ((fr : Int) + n) - fr') ≤ mv fr' es - mv fr es
  | [], en, _, _, _ => by simp only [mv]; omega
  | e :: r, en, hm, h1, h2 => by
    obtain ⟨m1, m2, m3, m4⟩ := mayB_cons hm
    have ih := gap fr n fr' n' hn hn' hf r _ m4 (fun e he => h1 e (by simp [he])) (fun e he => h2 e (by simp [he]))
    obtain ⟨a1, a2⟩ := not_hit (h1 e (by simp))
    obtain ⟨b1, b2⟩ := not_hit (h2 e (by simp))
    simp only [mv]
    by_cases c1 : e.1 ≤ (fr : Int)
    · rw [if_pos c1, if_pos (by omega)]
      omega
    · rw [if_neg c1]
      by_cases c2 : e.1 ≤ (fr' : Int)
      · rw [if_pos c2]
        rcases Int.lt_or_le 0 e.2.1 with c | c
        · have := a1 c
          have := b1 c
          omega
        · omega
      · rw [if_neg c2]
        omega

/-- frames, one behind the other, in bytes -/
def okW (c : List UInt8) : Nat → List Sg → Prop
  | _, [] => True
  | i, w :: ws => i ≤ w.fr ∧ 1 ≤ w.n ∧ w.fr + w.n ≤ c.length ∧ wE c w.fr = 0 ∧ frm c w.fr = w ∧ okW c (w.fr + w.n) ws
theorem okW_ge {c : List UInt8} : ∀ {W : List Sg} {i : Nat}, okW c i W → ∀ w ∈ W, i ≤ w.fr
  | [], _, _, w, hw => by cases hw
  | v :: W, i, h, w, hw => by
    obtain ⟨h1, h2, h3, h4, h5, h6⟩ := h
    rcases List.mem_cons.1 hw with rfl | hw
    · exact h1
    · have := okW_ge h6 w hw
      omega
/-- THE FRAMES OF BYTES IN WHICH NONE BEGINS BESIDE THESE ARE THESE. -/
theorem frames_are (c : List UInt8) : ∀ (m i : Nat) (W : List Sg), c.length - i = m → okW c i W → (∀ j, i ≤ j → j < c.length → wE c j = 0 → ∃ w ∈ W, w.fr ≤ j ∧ j < w.fr + w.n) → (sgs c i).filter (·.is) = W := by
  intro m
  induction m using Nat.strongRecOn with
  | _ m ih =>
    intro i W hm hW hc
    by_cases hi : i < c.length
    · obtain ⟨s, e1, e2, e3, e4, e5, e6⟩ := sgs_cons c i hi
      rw [e1]
      cases hs : s.is with
      | true =>
        obtain ⟨g1, g2⟩ := e5 hs
        obtain ⟨w, hw, w1, w2⟩ := hc i (Nat.le_refl _) hi g2
        cases W with
        | nil => cases hw
        | cons w0 ws =>
          obtain ⟨o1, o2, o3, o4, o5, o6⟩ := hW
          have hw0 : w0.fr = i := by
            rcases List.mem_cons.1 hw with rfl | hw
            · omega
            · have := okW_ge o6 w hw; omega
          rw [List.filter_cons_of_pos (by simpa using hs)]
          have hsw : s = w0 := by rw [g1, ← o5, hw0]
          subst hsw
          congr 1
          refine ih (c.length - (i + s.n)) (by omega) (i + s.n) ws rfl (by rw [← hw0]; exact o6) (fun j a b d => ?_)
          obtain ⟨v, v1, v2, v3⟩ := hc j (by omega) b d
          rcases List.mem_cons.1 v1 with rfl | v1
          · omega
          · exact ⟨v, v1, v2, v3⟩
      | false =>
        obtain ⟨g1, g2, g3⟩ := e6 hs
        rw [List.filter_cons_of_neg (by simp [hs])]
        refine ih (c.length - (i + s.n)) (by omega) (i + s.n) W rfl ?_ (fun j a b d => hc j (by omega) b d)
        cases W with
        | nil => trivial
        | cons w0 ws =>
          obtain ⟨o1, o2, o3, o4, o5, o6⟩ := hW
          refine ⟨?_, o2, o3, o4, o5, o6⟩
          rcases Nat.lt_or_ge w0.fr (i + s.n) with h | h
          · exact absurd o4 (g2 w0.fr o1 h)
          · exact h
    · rw [sgs_end c i (by omega)]
      cases W with
      | nil => rfl
      | cons w0 ws =>
        obtain ⟨o1, o2, o3, _⟩ := hW
        omega
theorem sgs_from (l : List UInt8) : ∀ (m i : Nat), l.length - i = m → ∀ s ∈ sgs l i, i ≤ s.fr ∧ 1 ≤ s.n ∧ s.fr + s.n ≤ l.length ∧ (s.is = true → s = frm l s.fr ∧ wE l s.fr = 0) := by
  intro m
  induction m using Nat.strongRecOn with
  | _ m ih =>
    intro i hm s hs
    by_cases h : i < l.length
    · obtain ⟨t, e1, e2, e3, e4, e5, _⟩ := sgs_cons l i h
      rw [e1] at hs
      rcases List.mem_cons.1 hs with rfl | hs
      · rw [e2]; exact ⟨Nat.le_refl _, e3, e4, e5⟩
      · obtain ⟨a, b⟩ := ih (l.length - (i + t.n)) (by omega) (i + t.n) rfl s hs
        exact ⟨by omega, b⟩
    · rw [sgs_end l i (by omega)] at hs
      cases hs
/-- bytes that stand elsewhere are the same frame there -/
theorem frm_moved {l c : List UInt8} {i j : Nat} (hE : wE l i = 0) (h : (c.drop j).take (fgB (l.drop i) + 4) = (l.drop i).take (fgB (l.drop i) + 4)) : wE c j = 0 ∧ frm c j = ⟨j, fgB (l.drop i) + 4, true, fgK (l.drop i), fgP (l.drop i)⟩ := by
  obtain ⟨f1, f2, f3, f4, f5, f6⟩ := fg_back (l.drop i) hE
  rw [f1] at h
  have hc : c.drop j = fp (fgK (l.drop i)) (fgP (l.drop i)) ++ (c.drop j).drop (fgB (l.drop i) + 4) := by rw [← h, List.take_append_drop]
  obtain ⟨p1, p2, p3, p4⟩ := fg_put (fgK (l.drop i)) (by omega) (fgP (l.drop i)) ((c.drop j).drop (fgB (l.drop i) + 4)) f4
  rw [← hc] at p1 p2 p3 p4
  refine ⟨p1, ?_⟩
  unfold frm
  rw [p2, p3, p4, ← f1]
  rw [List.length_drop] at f2
  simp only [Sg.mk.injEq, true_and, and_true]
  simp
  omega
theorem okW_of {l : List UInt8} {es : List Ed} (hm : mayB l.length 0 es = true) : ∀ (m i j : Nat), l.length - i = m → (∀ s ∈ sgs l i, leftB es s = true → j ≤ (keep es s).fr) →
    okW (ap l 0 es) j ((kept (sgs l i) es).filter (·.is)) := by
  intro m
  induction m using Nat.strongRecOn with
  | _ m ih =>
    intro i j hm' hj
    by_cases h : i < l.length
    · obtain ⟨s, e1, e2, e3, e4, e5, _⟩ := sgs_cons l i h
      rw [e1] at hj ⊢
      unfold kept
      by_cases hl : leftB es s = true
      · rw [List.filter_cons_of_pos hl, List.map_cons]
        cases hs : s.is with
        | true =>
          rw [List.filter_cons_of_pos (by simpa [keep] using hs)]
          obtain ⟨g1, g2⟩ := e5 hs
          obtain ⟨s1, s2, s3⟩ := still0 hm e3 (by omega) hl
          have hsn : s.n = fgB (l.drop i) + 4 := by rw [g1]; rfl
          rw [e2, hsn] at s2
          obtain ⟨t1, t2⟩ := frm_moved g2 s2
          refine ⟨hj s (by simp) hl, e3, s3, t1, ?_, ?_⟩
          · rw [t2]
            unfold keep
            rw [hsn, hs]
            have hk : s.k = fgK (l.drop i) := by rw [g1]; rfl
            have hp : s.p = fgP (l.drop i) := by rw [g1]; rfl
            rw [hk, hp]
          · refine ih (l.length - (i + s.n)) (by omega) (i + s.n) _ rfl (fun t ht hlt => ?_)
            obtain ⟨u1, u2, u3, _⟩ := sgs_from l _ (i + s.n) rfl t ht
            have hg := gap s.fr s.n t.fr t.n e3 u2 (by omega) es 0 hm (leftB_iff.1 hl) (leftB_iff.1 hlt)
            have v1 := (still0 hm u2 u3 hlt).1
            show ((s.fr : Int) + mv s.fr es).toNat + s.n ≤ ((t.fr : Int) + mv t.fr es).toNat
            omega
        | false =>
          rw [List.filter_cons_of_neg (by simp [keep, hs])]
          exact ih (l.length - (i + s.n)) (by omega) (i + s.n) j rfl (fun t ht => hj t (by simp [ht]))
      · rw [List.filter_cons_of_neg hl]
        exact ih (l.length - (i + s.n)) (by omega) (i + s.n) j rfl (fun t ht => hj t (by simp [ht]))
    · rw [sgs_end l i (by omega)]
      trivial
/-- no frame begins beside parts -/
def cleanAt (c : List UInt8) (W : List Sg) (a : Nat) : Bool := (W.any fun w => decide (w.fr ≤ a) && decide (a < w.fr + w.n)) || !(wE c a == 0)
def cleanB (c : List UInt8) (W : List Sg) : Bool := (List.range c.length).all (cleanAt c W)
/-- THE LAW. -/
theorem wound_still {l : List UInt8} {es : List Ed} (hm : mayB l.length 0 es = true) (hc : cleanB (ap l 0 es) ((kept (sgs l 0) es).filter (·.is)) = true) :
    (sgs (ap l 0 es) 0).filter (·.is) = (kept (sgs l 0) es).filter (·.is) := by
  refine frames_are _ _ 0 _ rfl (okW_of hm _ 0 0 rfl (fun _ _ _ => Nat.zero_le _)) (fun j _ hj hE => ?_)
  have := List.all_eq_true.1 hc j (List.mem_range.2 hj)
  unfold cleanAt at this
  rw [Bool.or_eq_true] at this
  rcases this with h | h
  · obtain ⟨w, h1, h2⟩ := List.any_eq_true.1 h
    simp only [Bool.and_eq_true, decide_eq_true_eq] at h2
    exact ⟨w, h1, h2⟩
  · simp [hE] at h
end TG
