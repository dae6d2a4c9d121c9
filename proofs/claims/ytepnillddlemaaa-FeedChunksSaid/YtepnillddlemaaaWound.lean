/- The functions of package wound: whether edits may be made, whether one hits a part; how great edits are. Conditions stand in each theorem. -/
import Derived.Test.YtepnillddlemaaaMathWound
import Derived.Test.YtepnillddlemaaaOpen
import Derived.Test.YtepnillddlemaaaRef07b
set_option linter.unusedVariables false
set_option linter.unusedSimpArgs false
namespace Go.Proofs.Ytepnillddlemaaa
open Go.RowKit Go.Shelf TG TG.Crc
attribute [local go_sem] Oper.semAt_some

abbrev RdE := Rd.pair (Rd.num .i64) (Rd.pair (Rd.num .i64) (Rd.slice Rd.u8 (by decide)))
theorem ed_at {w : World} {A : Option Addr} {c : Nat} {x : List Ed} (h : RdE.S (fun _ => True) w A c x) (i : Nat) (hi : i < x.length) :
    ∃ ad A5 c5, A = some ad ∧ RB w A5 c5 x[i].2.2 ∧ ((Lit.int .i64 x[i].1).wf = true ∧ (Lit.int .i64 x[i].2.1).wf = true) ∧ ∀ W, Below w.heap.size w W → W.cell? (ad.add (i * 3)) = some (.int .i64 x[i].1) ∧ W.cell? ⟨(ad.add (i * 3)).block, (ad.add (i * 3)).off + 1, none⟩ = some (.int .i64 x[i].2.1) ∧ W.cell? ⟨(ad.add (i * 3)).block, (ad.add (i * 3)).off + 2, none⟩ = some (.slice A5 x[i].2.2.length c5) := by
  obtain ⟨ad, h1, _, cs, ⟨c1, c2, rfl, ⟨rfl, w1⟩, ⟨c3, c4, rfl, ⟨rfl, w2⟩, ⟨A5, c5, rfl, hS⟩⟩⟩, h3⟩ := Rd.S_at h i hi
  have key : ∀ W, Below w.heap.size w W → ∀ j u, ([Value.int .i64 x[i].1, .int .i64 x[i].2.1, .slice A5 x[i].2.2.length c5])[j]? = some u → W.cell? ((ad.add (i * 3)).add j) = some u := fun W hW j u hj => by
    have h4 := h3 j u hj
    rw [show RdE.sz = 3 from rfl, ← add_add] at h4
    exact (hW.cell (World.block_lt_of_cell? w _ h4)).trans h4
  refine ⟨ad, A5, c5, h1, Rd.S_RB hS, ⟨w1, w2⟩, fun W hW => ⟨?_, ?_, ?_⟩⟩
  · have := key W hW 0 _ rfl
    rwa [show (ad.add (i * 3)).add 0 = ad.add (i * 3) from by simp [Addr.add]] at this
  · exact key W hW 1 _ rfl
  · exact key W hW 2 _ rfl
/-- numbers that are not too great -/
def okE (es : List Ed) : Prop := ∀ e ∈ es, -1099511627776 ≤ e.1 ∧ e.1 ≤ 1099511627776 ∧ -1099511627776 ≤ e.2.1 ∧ e.2.1 ≤ 1099511627776
def lenE (es : List Ed) : Nat := (es.map fun e => e.2.2.length).sum
def badE (e : Ed) : Bool := decide (1099511627776 < e.2.1) || decide (e.2.1 < -1099511627776) || decide (1099511627776 < e.1) || decide (e.1 < -1099511627776)
def greatB (es : List Ed) : Bool := es.any badE || decide (300 < es.length + lenE es)
theorem badE_not {e : Ed} (h : badE e = false) : -1099511627776 ≤ e.1 ∧ e.1 ≤ 1099511627776 ∧ -1099511627776 ≤ e.2.1 ∧ e.2.1 ≤ 1099511627776 := by
  simp only [badE, Bool.or_eq_false_iff, decide_eq_false_iff_not] at h
  omega
theorem greatB_not {es : List Ed} (h : greatB es = false) : okE es ∧ es.length + lenE es ≤ 300 := by
  unfold greatB at h
  rw [Bool.or_eq_false_iff, decide_eq_false_iff_not] at h
  refine ⟨fun e he => badE_not ?_, by omega⟩
  have := List.any_eq_false.1 h.1 e he
  simpa using this
theorem lenE_take (es : List Ed) (k : Nat) (h : k < es.length) : lenE (es.take (k + 1)) = lenE (es.take k) + es[k].2.2.length := by
  rw [List.take_succ_eq_append_getElem h]
  simp only [lenE, List.map_append, List.sum_append, List.map_cons, List.map_nil, List.sum_cons, List.sum_nil, Nat.add_zero]
theorem lenE_le (es : List Ed) (k : Nat) : lenE (es.take k) ≤ lenE es := by
  have h : lenE es = lenE (es.take k) + lenE (es.drop k) := by
    conv => lhs; rw [← List.take_append_drop k es]
    simp only [lenE, List.map_append, List.sum_append]
  omega

set_option maxRecDepth 100000 in
set_option maxHeartbeats 1000000 in
theorem great25_calls (A : Option Addr) (c : Nat) (x : List Ed) (w : World) (h1 : RdE.S (fun _ => True) w A c x) (hx : x.length + lenE x ≤ 1048576) :
    Calls Try.prog 48 #[.slice A x.length c] w fun e w' => e = .returned (.bool (greatB x)) ∧ Below w.heap.size w w' := by
  go_enter Try.func48, Try.ntmps48
  go_wp2
  go_loopw [3, 10] (fun n i wr => ∃ k : Nat, k ≤ x.length ∧ i = .int .i64 k ∧ n = .int .i64 ((x.length : Int) + lenE (x.take k)) ∧ Hid ((x.take k).any badE = false) ∧ Below w.heap.size w wr) (fun _ i _ => x.length - (intOf i).toNat)
  case atStart => exact ⟨0, Nat.zero_le _, rfl, by simp [lenE], by simp [RowKit.Hid], Below.refl _ _⟩
  case round =>
    obtain ⟨k, hk, rfl, rfl, hb, hB⟩ := hrel
    have j1 : (0 : Int) ≤ (k : Int) := Int.natCast_nonneg _
    have hle := lenE_le x k
    by_cases hlt : k < x.length
    · obtain ⟨ad, P1, d1, rfl, hr1, hwf, hz⟩ := ed_at (Rd.S_below (by decide) h1 hB) k hlt
      obtain ⟨y0, y1, y2⟩ := hz _ (Below.refl _ _)
      have hst := lenE_take x k hlt
      have hle2 := lenE_le x (k + 1)
      have htk : x.take (k + 1) = x.take k ++ [x[k]] := List.take_succ_eq_append_getElem hlt
      have hmem := List.getElem_mem hlt
      generalize x[k] = s at *
      obtain ⟨f, n, b⟩ := s
      dsimp only at *
      generalize hN : lenE (x.take k) = N at *
      generalize hM : lenE (x.take (k + 1)) = M at *
      have HN := Lib.hid hN
      have HM := Lib.hid hM
      have Hst := Lib.hid hst
      have Htk := Lib.hid htk
      have HB := Lib.hid (below_new hB (.cells #[.int .i64 f, .int .i64 n, .slice P1 b.length d1] 148))
      have n0 : (0 : Int) ≤ (N : Int) := Int.natCast_nonneg _
      have n1 : (N : Int) + (b.length : Int) + (x.length : Int) ≤ 1048576 := by omega
      clear hN hM hst htk hB hz hr1
      have hcase : (1099511627776 < n) ∨ (n ≤ 1099511627776 ∧ n < -1099511627776) ∨ ((n ≤ 1099511627776 ∧ -1099511627776 ≤ n) ∧ 1099511627776 < f) ∨ ((n ≤ 1099511627776 ∧ -1099511627776 ≤ n) ∧ f ≤ 1099511627776 ∧ f < -1099511627776) ∨ (n ≤ 1099511627776 ∧ -1099511627776 ≤ n ∧ f ≤ 1099511627776 ∧ -1099511627776 ≤ f) := by omega
      have hgr : badE (f, n, b) = true → greatB x = true := fun hbad => by
        unfold greatB
        rw [Bool.or_eq_true]
        exact .inl (List.any_eq_true.2 ⟨_, hmem, hbad⟩)
      have Hgr := Lib.hid hgr
      clear hgr
      rcases hcase with h | ⟨h1, h2⟩ | ⟨⟨h1, h2⟩, h3⟩ | ⟨⟨h1, h2⟩, h3, h4⟩ | ⟨h1, h2, h3, h4⟩
      case inr.inr.inr.inr =>
        have Hok := Lib.hid (show badE (f, n, b) = false by simp only [badE, Bool.or_eq_false_iff, decide_eq_false_iff_not]; omega)
        go_wp2
        go_roundw
        case rel => exact ⟨k + 1, by omega, by go_num, by rw [HM.out, Hst.out]; congr 1; omega, by unfold RowKit.Hid; rw [Htk.out, List.any_append, hb.out]; simpa using Hok.out, HB.out⟩
        case measure => simp [intOf]; omega
      all_goals
        have HG := Lib.hid (Hgr.out (by simp only [badE, Bool.or_eq_true, decide_eq_true_eq]; omega))
        go_wp2
        go_ret
        exact ⟨by rw [HG.out]; rfl, HB.out⟩
    · have htk : x.take k = x := List.take_of_length_le (by omega)
      rw [htk] at hb ⊢
      have HG := Lib.hid (show greatB x = decide ((300 : Int) < (x.length : Int) + (lenE x : Int)) by
        unfold greatB
        rw [hb.out, Bool.false_or]
        congr 1
        rw [eq_iff_iff]
        omega)
      clear htk
      generalize lenE x = N at *
      have n0 : (0 : Int) ≤ (N : Int) := Int.natCast_nonneg _
      go_wp2
      go_ret
      exact ⟨by rw [HG.out]; rfl, hB⟩

set_option maxRecDepth 100000 in
set_option maxHeartbeats 1000000 in
theorem hits_calls (A : Option Addr) (c : Nat) (p : Sg) (B : Option Addr) (d : Nat) (e : Ed) (w : World) (hp : p.fr ≤ 1048576 ∧ p.n ≤ 1048576) (he : -1099511627776 ≤ e.1 ∧ e.1 ≤ 1099511627776 ∧ -1099511627776 ≤ e.2.1 ∧ e.2.1 ≤ 1099511627776) :
    Calls Try.prog 142 #[.agg (segC (p, A, c)).toArray, .agg #[.int .i64 e.1, .int .i64 e.2.1, .slice B e.2.2.length d]] w fun r w' => r = .returned (.bool (hit p.fr p.n e)) ∧ Below w.heap.size w w' := by
  obtain ⟨fr, n, is, k, pp⟩ := p
  obtain ⟨f, m, b⟩ := e
  dsimp only [segC] at *
  obtain ⟨p1, p2⟩ := hp
  obtain ⟨e1, e2, e3, e4⟩ := he
  have q1 : (0 : Int) ≤ (fr : Int) := Int.natCast_nonneg _
  have q2 : (0 : Int) ≤ (n : Int) := Int.natCast_nonneg _
  have q3 : (fr : Int) ≤ 1048576 := by omega
  have q4 : (n : Int) ≤ 1048576 := by omega
  have hh : hit fr n (f, m, b) = if 0 < m then decide (f < (fr : Int) + n) && decide ((fr : Int) < f + m) else decide (0 < b.length) && decide ((fr : Int) < f) && decide (f < (fr : Int) + n) := rfl
  have hcase : (0 < m ∧ f < (fr : Int) + n ∧ (fr : Int) < f + m) ∨ (0 < m ∧ f < (fr : Int) + n ∧ f + m ≤ (fr : Int)) ∨ (0 < m ∧ (fr : Int) + n ≤ f) ∨
      (m ≤ 0 ∧ (b.length : Int) ≤ 0) ∨ (m ≤ 0 ∧ 0 < (b.length : Int) ∧ f ≤ (fr : Int)) ∨ (m ≤ 0 ∧ 0 < (b.length : Int) ∧ (fr : Int) < f ∧ (fr : Int) + n ≤ f) ∨ (m ≤ 0 ∧ 0 < (b.length : Int) ∧ (fr : Int) < f ∧ f < (fr : Int) + n) := by omega
  have fin : ∀ V : Bool, hit fr n (f, m, b) = V → Hid (hit fr n (f, m, b) = V) := fun _ h => h
  have Hh := Lib.hid hh
  have Fin := Lib.hid fin
  clear hh fin
  rcases hcase with ⟨c1, c2, c3⟩ | ⟨c1, c2, c3⟩ | ⟨c1, c2⟩ | ⟨c1, c2⟩ | ⟨c1, c2, c3⟩ | ⟨c1, c2, c3, c4⟩ | ⟨c1, c2, c3, c4⟩
  · have HV := Fin.out true (by rw [Hh.out, if_pos c1]; simp; omega)
    go_enter Try.func142, Try.ntmps142
    go_wp2
    go_ret
    exact ⟨by rw [HV.out]; first | rfl | (simp; omega), below_new (below_new (Below.refl _ _) _) _⟩
  · have HV := Fin.out false (by rw [Hh.out, if_pos c1]; simp; omega)
    go_enter Try.func142, Try.ntmps142
    go_wp2
    go_ret
    exact ⟨by rw [HV.out]; first | rfl | (simp; omega), below_new (below_new (Below.refl _ _) _) _⟩
  · have HV := Fin.out false (by rw [Hh.out, if_pos c1]; simp; omega)
    go_enter Try.func142, Try.ntmps142
    go_wp2
    go_ret
    exact ⟨by rw [HV.out]; first | rfl | (simp; omega), below_new (below_new (Below.refl _ _) _) _⟩
  · have HV := Fin.out false (by rw [Hh.out, if_neg (by omega), show decide (0 < b.length) = false from decide_eq_false (by omega)]; rfl)
    go_enter Try.func142, Try.ntmps142
    go_wp2
    go_ret
    exact ⟨by rw [HV.out]; first | rfl | (simp; omega), below_new (below_new (Below.refl _ _) _) _⟩
  · have HV := Fin.out false (by rw [Hh.out, if_neg (by omega), show decide ((fr : Int) < f) = false from by simp; omega]; simp)
    go_enter Try.func142, Try.ntmps142
    go_wp2
    go_ret
    exact ⟨by rw [HV.out]; first | rfl | (simp; omega), below_new (below_new (Below.refl _ _) _) _⟩
  · have HV := Fin.out false (by rw [Hh.out, if_neg (by omega), show decide (f < (fr : Int) + n) = false from by simp; omega]; simp)
    go_enter Try.func142, Try.ntmps142
    go_wp2
    go_ret
    exact ⟨by rw [HV.out]; first | rfl | (simp; omega), below_new (below_new (Below.refl _ _) _) _⟩
  · have HV := Fin.out true (by rw [Hh.out, if_neg (by omega)]; simp; omega)
    go_enter Try.func142, Try.ntmps142
    go_wp2
    go_ret
    exact ⟨by rw [HV.out]; first | rfl | (simp; omega), below_new (below_new (Below.refl _ _) _) _⟩

theorem mayB_round (sz en f n : Int) (b : List UInt8) (r : List Ed) : mayB sz en ((f, n, b) :: r) = (!(decide (f < en) || decide (n < 0) || decide (sz - f < n)) && mayB sz (f + n) r) := rfl
set_option maxRecDepth 100000 in
set_option maxHeartbeats 1000000 in
theorem may_calls (sz : Nat) (hsz : sz ≤ 140737488355328) (A : Option Addr) (c : Nat) (x : List Ed) (w : World) (h1 : RdE.S (fun _ => True) w A c x) (hx : okE x) :
    Calls Try.prog 98 #[.int .i64 sz, .slice A x.length c] w fun e w' => e = .returned (.bool (mayB sz 0 x)) ∧ Below w.heap.size w w' := by
  have hxl := h1.2.1
  have s0 : (0 : Int) ≤ (sz : Int) := Int.natCast_nonneg _
  have s1 : (sz : Int) ≤ 140737488355328 := by omega
  go_enter Try.func98, Try.ntmps98
  go_wp2
  go_loopw [5, 10] (fun n i wr => ∃ (k : Nat) (en : Int), k ≤ x.length ∧ i = .int .i64 k ∧ n = .int .i64 en ∧ (0 ≤ en ∧ en ≤ 2199023255552) ∧ Hid (mayB sz 0 x = mayB sz en (x.drop k)) ∧ Below w.heap.size w wr) (fun _ i _ => x.length - (intOf i).toNat)
  case atStart => exact ⟨0, 0, Nat.zero_le _, rfl, rfl, by decide, rfl, Below.refl _ _⟩
  case round =>
    obtain ⟨k, en, hk, rfl, rfl, ⟨b1, b2⟩, hm, hB⟩ := hrel
    have j1 : (0 : Int) ≤ (k : Int) := Int.natCast_nonneg _
    by_cases hlt : k < x.length
    · obtain ⟨ad, P1, d1, rfl, hr1, hwf, hz⟩ := ed_at (Rd.S_below (by decide) h1 hB) k hlt
      obtain ⟨y0, y1, y2⟩ := hz _ (Below.refl _ _)
      have hdr := List.drop_eq_getElem_cons hlt
      obtain ⟨e1, e2, e3, e4⟩ := hx _ (List.getElem_mem hlt)
      generalize x[k] = s at *
      obtain ⟨f, n, b⟩ := s
      dsimp only at *
      have Hst := Lib.hid (hm.out.trans (by rw [hdr, mayB_round]))
      have HB := Lib.hid (below_new hB (.cells #[.int .i64 f, .int .i64 n, .slice P1 b.length d1] 148))
      clear hB hz hr1 hdr hwf
      have hcase : f < en ∨ (en ≤ f ∧ n < 0) ∨ ((en ≤ f ∧ 0 ≤ n) ∧ (sz : Int) - f < n) ∨ ((en ≤ f ∧ 0 ≤ n) ∧ (n ≤ (sz : Int) - f)) := by omega
      rcases hcase with h | ⟨h, h'⟩ | ⟨⟨h, h'⟩, h''⟩ | ⟨⟨h, h'⟩, h''⟩
      case inr.inr.inr =>
        have HN := Lib.hid (show mayB sz 0 x = mayB sz (f + n) (x.drop (k + 1)) by
          rw [Hst.out]
          simp [show ¬ f < en from by omega, show ¬ n < 0 from by omega, show ¬ (sz : Int) - f < n from by omega])
        go_wp2
        go_roundw
        case rel => exact ⟨k + 1, f + n, by omega, by go_num, rfl, ⟨by omega, by omega⟩, HN, HB.out⟩
        case measure => simp [intOf]; omega
      all_goals
        have HN := Lib.hid (show mayB sz 0 x = false by
          rw [Hst.out, Bool.and_eq_false_iff]
          left
          simp
          omega)
        go_wp2
        go_ret
        exact ⟨by rw [HN.out]; rfl, HB.out⟩
    · have HN := Lib.hid (show mayB sz 0 x = decide (en ≤ sz) by rw [hm.out, List.drop_eq_nil_of_le (by omega)]; rfl)
      go_wp2
      go_ret
      exact ⟨by rw [HN.out]; rfl, hB⟩
end Go.Proofs.Ytepnillddlemaaa
