/- The iterator of package segs: what it hands on. Conditions stand in each theorem. -/
import Derived.Test.YtepnillddlemaaaFind2
import Derived.Test.YtepnillddlemaaaMathSegs
import Derived.Test.YtepnillddlemaaaRf2
import Derived.Test.YtepnillddlemaaaOwnL
set_option linter.unusedVariables false
set_option linter.unusedSimpArgs false
namespace TG
open Go Go.RowKit Go.Proofs
/-- a part, and where its payload lies -/
abbrev PS := Sg × Option Addr × Nat
def segC (y : PS) : List Value := [.int .i64 (y.1.fr : Int), .int .i64 (y.1.n : Int), .bool y.1.is, .int .i64 (y.1.k : Int), .slice y.2.1 y.1.p.length y.2.2]
namespace Rd
/-- a part, in five cells -/
def seg : Rd Sg where
  sz := 5
  K := fun F w x cs => ∃ A c, cs = segC (x, A, c) ∧ u8.S F w A c x.p
  len := fun ⟨A, c, h, _⟩ => by rw [h]; rfl
  one := fun ⟨A, c, h, _⟩ u hu => by
    rw [h] at hu
    simp [segC] at hu
    rcases hu with rfl | rfl | rfl | rfl | rfl <;> rfl
  mono := fun hf ⟨A, c, h, k⟩ => ⟨A, c, h, S_mono k hf⟩
  bound := fun ⟨A, c, h, k⟩ => ⟨A, c, h, S_bound (by decide) k⟩
  move := fun hm ⟨A, c, h, k⟩ => ⟨A, c, h, S_move (by decide) k (fun b hb _ => hm b hb)⟩
theorem cb_seg : seg.CB := fun ⟨A, c, h, k⟩ => ⟨A, c, h, S_cb (cb_plain _ _) (by decide) k⟩
end Rd
end TG
namespace Go.Proofs.Ytepnillddlemaaa
open Go.RowKit Go.Shelf TG TG.Crc
attribute [local go_sem] Oper.semAt_some

theorem seg_type : TypeOK Try.prog 26 31 5 56 := typeOK_of (z := .agg #[.int .i64 0, .int .i64 0, .bool false, .int .i64 0, .slice none 0 0]) Try.underlying26 (by kernel_rfl) rfl (by decide)

set_option maxRecDepth 100000 in
set_option maxHeartbeats 1000000 in
theorem parts_in (k : Nat) (A : Option Addr) (c n : Nat) (w : World) :
    CallsIn Fence.wide k Try.prog 66 #[.slice A n c] w fun e w' => e = .returned (.func (.func 113) #[] #[.pointer (some ⟨w.heap.size, 0, none⟩)]) ∧ w' = w.alloc (.cells #[.slice A n c] 25) := by
  refine callsIn_of_wp Try.func66 rfl trivial ?_ rfl
  simp only [Try.ntmps66, List.size_toArray, List.length_cons, List.length_nil, Nat.reduceAdd, Nat.reduceSub, Array.replicate_succ, Array.replicate_zero, List.push_toArray, List.append_toArray, List.nil_append, List.cons_append]
  gi_wp2
  go_ret
  exact ⟨rfl, rfl⟩

/-- what the iterator reads -/
def PR (Bb : Nat) (A : Option Addr) (c : Nat) (l : List UInt8) (W : World) : Prop := RB W A c l ∧ W.heap[Bb]? = some (.cells #[.slice A l.length c] 25 (0, 0))
/-- what holds of what it hands on -/
def PF (l : List UInt8) (pre : List PS) (y : PS) (A0 A : World) : Prop := ((pre ++ [y]).map (·.1)) <+: sgs l 0 ∧ RB A y.2.1 y.2.2 y.1.p ∧ ∀ ad, y.2.1 = some ad → A0.heap.size ≤ ad.block
theorem wide_any (P : Program) (f : FuncId) (args : Array Value) (k : Nat) (w : World) (R : Ending → World → Prop) (h : Calls P f args w R) : CallsIn Fence.wide k P f args w R := callsIn_wide.2 h

set_option maxRecDepth 100000 in
set_option maxHeartbeats 2000000 in
theorem parts1_seq (k : Nat) (hk : 1 ≤ k) (Bb : Nat) (A : Option Addr) (c : Nat) (l : List UInt8) (hl : l.length ≤ 140737488355328) (hlc : l.length ≤ c) :
    Rf.SeqOf Fence.wide k Try.prog 113 #[.pointer (some ⟨Bb, 0, none⟩)] (fun y : PS => #[.agg (segC y).toArray]) (PR Bb A c l) (PF l) (fun ys => ys.map (·.1) = sgs l 0) := by
  intro lp J W hJR hJb hY h0
  refine callsIn_of_wp Try.func113 rfl trivial ?_ rfl
  simp only [Try.ntmps113, List.size_toArray, List.length_cons, List.length_nil, Nat.reduceAdd, Nat.reduceSub, Array.replicate_succ, Array.replicate_zero, List.push_toArray, List.append_toArray, List.nil_append, List.cons_append]
  gi_wp2
  gi_loopw [3] (fun a wr => ∃ (pre : List PS) (i : Nat), a = .int .i64 i ∧ i ≤ l.length ∧ Hid (pre.map (·.1) ++ sgs l i = sgs l 0) ∧ J pre wr) (fun a _ => l.length - (intOf a).toNat)
  case atStart => exact ⟨[], 0, rfl, Nat.zero_le _, rfl, h0⟩
  case round =>
    obtain ⟨pre, i, rfl, hi, hpre, hJ⟩ := hrel
    obtain ⟨hr, hbx⟩ := hJR pre wr hJ
    have hc : wr.cell? ⟨Bb, 0, none⟩ = some (.slice A l.length c) := Boxed.cell (t := 25) hbx
    have Hbx := Lib.hid hbx
    clear hbx
    have j1 : (0 : Int) ≤ (i : Int) := Int.natCast_nonneg _
    have j2 : (i : Int) ≤ (l.length : Int) := by omega
    by_cases hlt : i < l.length
    · have j3 : (i : Int) < (l.length : Int) := by omega
      have hnx := next_calls A c l i (by omega) wr hr hl
      rw [show (i : Int).toNat = i from rfl] at hnx
      have hj1 := nxt_ge l i
      have hj2 := nxt_le l i (by omega)
      by_cases hn : nxt l i < l.length
      · rw [show nv l (nxt l i) = nxt l i from if_pos hn, show decide (nxt l i < l.length) = true from by simp [hn]] at hnx
        have hE := nxt_is l i hn
        have hS := sgs_next l i hlt hn
        generalize nxt l i = j at *
        obtain ⟨e1, e2, e3⟩ := g_some hE
        have hroom := (fg_room (l.drop j) hE).2
        have hroom1 := (fg_room (l.drop j) hE).1
        have hfe : fgE (l.drop j) = 0 := hE
        have hF : frm l j = ⟨j, fgB (l.drop j) + 4, true, fgK (l.drop j), fgP (l.drop j)⟩ := rfl
        have hat : ∀ W, RB W A c l → Calls Try.prog 100 #[.slice A l.length c, .int .i64 j] W fun e w' => ∃ A2 c2, e = .returned (.tuple #[.agg #[.int .i64 (fgK (l.drop j) : Int), .slice A2 (fgP (l.drop j)).length c2], .int .i64 ((fgB (l.drop j) + 4 : Nat) : Int), .int .i64 0]) ∧ RB w' A2 c2 (fgP (l.drop j)) ∧ (∀ ad, A2 = some ad → W.heap.size ≤ ad.block) ∧ Below W.heap.size W w' := fun W hrW => (at_calls A c l j hj2 W hrW hl).mono fun e w' h => by
          obtain ⟨A2, c2, h1, h2, h3, h4⟩ := h
          rw [e1, e2, e3, hfe] at h1
          rw [e2] at h2
          exact ⟨A2, c2, h1, h2, h3, h4⟩
        rw [List.length_drop] at hroom
        have j4 : (0 : Int) ≤ (j : Int) := Int.natCast_nonneg _
        have j5 : (j : Int) < (l.length : Int) := by omega
        generalize fgB (l.drop j) + 4 = n at *
        generalize fgK (l.drop j) = kk at *
        generalize fgP (l.drop j) = pp at *
        by_cases hij : i < j
        · rw [if_pos hij] at hS
          have Hy := fun w1 hB1 => Lib.hid (hY pre (skp i (j - i), none, 0) wr w1 hJ hB1 ⟨by rw [← (show pre.map (·.1) ++ sgs l i = sgs l 0 from hpre), hS]; simp, RB.nil _ _, fun ad h => by cases h⟩)
          have HS := Lib.hid hS
          have j6 : (i : Int) < (j : Int) := by omega
          have Hnx := Lib.hid hnx
          have Hat := Lib.hid hat
          have HF := Lib.hid hF
          have HY := Lib.hid hY
          clear hS hE hfe e1 e2 e3 hnx hat hF hY
          gi_wp2_with fail
          refine ⟨trivial, ?_⟩
          refine (callsIn_wide.2 Hnx.out).mono ?_
          rintro e w1 ⟨rfl, hB1⟩
          have hc1 : w1.cell? ⟨Bb, 0, none⟩ = some (.slice A l.length c) := Boxed.cell (t := 25) (hJR _ _ (hJb _ _ _ hJ hB1)).2
          obtain ⟨fn, tmps, assign, body, hy, hR⟩ := (Hy w1 hB1).out
          have hy' : (Instr.yield lp #[.agg #[.int .i64 (i : Int), .int .i64 ((j : Int) - (i : Int)), .bool false, .int .i64 0, .slice none 0 0]]).run Try.prog w1 = .ok (.round lp fn tmps assign body) w1 := by
            have : ((j - i : Nat) : Int) = (j : Int) - (i : Int) := by omega
            rw [← this]; exact hy
          clear hy hc
          gi_wp2_with fail
          refine hR.mono ?_
          rintro e W2 ⟨rfl, hJ2⟩
          clear hy' hR hc1
          obtain ⟨hr2, hx2⟩ := hJR _ _ hJ2
          have hc2 : W2.cell? ⟨Bb, 0, none⟩ = some (.slice A l.length c) := Boxed.cell (t := 25) hx2
          clear hx2
          gi_wp2_with fail
          refine ⟨trivial, ?_⟩
          refine (callsIn_wide.2 (Hat.out W2 hr2)).mono ?_
          rintro e W3 ⟨A2, c2, rfl, hr3, hn3, hB3⟩
          have HB4 := below_new hB3 (.cells #[.int .i64 (kk : Int), .slice A2 pp.length c2] 29)
          have hPF : PF l (pre ++ [(skp i (j - i), none, 0)]) (frm l j, A2, c2) W2 (W3.alloc (.cells #[.int .i64 (kk : Int), .slice A2 pp.length c2] 29)) := ⟨by rw [← (show pre.map (·.1) ++ sgs l i = sgs l 0 from hpre), HS.out]; simp, by rw [HF.out]; exact hr3.alloc _, hn3⟩
          obtain ⟨fn, tmps, assign, body, hy, hR⟩ := HY.out (pre ++ [(skp i (j - i), none, 0)]) (frm l j, A2, c2) W2 _ hJ2 HB4 hPF
          rw [HF.out] at hy
          dsimp only [segC] at hy
          clear HB4 hPF hB3 hn3 hr3 hc2
          gi_wp2_with fail
          refine hR.mono ?_
          rintro e W5 ⟨rfl, hJ5⟩
          clear hy hR
          gi_wp2
          go_roundw
          case rel => exact ⟨_, j + n, by go_num, by omega, by rw [← (show pre.map (·.1) ++ sgs l i = sgs l 0 from hpre), HS.out]; simp [RowKit.Hid], hJ5⟩
          case measure => simp [intOf]; omega
        · obtain rfl : j = i := by omega
          rw [if_neg hij] at hS
          have HS := Lib.hid hS
          have Hnx := Lib.hid hnx
          have Hat := Lib.hid hat
          have HF := Lib.hid hF
          have HY := Lib.hid hY
          clear hS hE hfe e1 e2 e3 hnx hat hF hY hij hj1
          gi_wp2_with fail
          refine ⟨trivial, ?_⟩
          refine (callsIn_wide.2 Hnx.out).mono ?_
          rintro e w1 ⟨rfl, hB1⟩
          have hJ2 := hJb _ _ _ hJ hB1
          obtain ⟨hr2, hx2⟩ := hJR _ _ hJ2
          have hc2 : w1.cell? ⟨Bb, 0, none⟩ = some (.slice A l.length c) := Boxed.cell (t := 25) hx2
          clear hx2 hc
          gi_wp2_with fail
          refine ⟨(fun _ h => by cases h), ?_⟩
          gi_wp2_with fail
          refine ⟨trivial, ?_⟩
          refine (callsIn_wide.2 (Hat.out w1 hr2)).mono ?_
          rintro e W3 ⟨A2, c2, rfl, hr3, hn3, hB3⟩
          have HB4 := below_new hB3 (.cells #[.int .i64 (kk : Int), .slice A2 pp.length c2] 29)
          have hPF : PF l pre (frm l j, A2, c2) w1 (W3.alloc (.cells #[.int .i64 (kk : Int), .slice A2 pp.length c2] 29)) := ⟨by rw [← (show pre.map (·.1) ++ sgs l j = sgs l 0 from hpre), HS.out]; simp, by rw [HF.out]; exact hr3.alloc _, hn3⟩
          obtain ⟨fn, tmps, assign, body, hy, hR⟩ := HY.out pre (frm l j, A2, c2) w1 _ hJ2 HB4 hPF
          rw [HF.out] at hy
          dsimp only [segC] at hy
          clear HB4 hPF hB3 hn3 hr3 hc2
          gi_wp2_with fail
          refine hR.mono ?_
          rintro e W5 ⟨rfl, hJ5⟩
          clear hy hR
          gi_wp2
          go_roundw
          case rel => exact ⟨_, j + n, by go_num, by omega, by rw [← (show pre.map (·.1) ++ sgs l j = sgs l 0 from hpre), HS.out]; simp [RowKit.Hid], hJ5⟩
          case measure => simp [intOf]; omega
      · rw [show nv l (nxt l i) = 0 from if_neg hn, show decide (nxt l i < l.length) = false from by simp; omega] at hnx
        have hS := sgs_last l i hlt hn
        have Hy := fun w1 hB1 => Lib.hid (hY pre (skp i (l.length - i), none, 0) wr w1 hJ hB1 ⟨by rw [← (show pre.map (·.1) ++ sgs l i = sgs l 0 from hpre), hS]; simp, RB.nil _ _, fun ad h => by cases h⟩)
        have HS := Lib.hid hS
        have Hnx := Lib.hid hnx
        clear hS hnx hY hj1 hj2 hn
        gi_wp2_with fail
        refine ⟨trivial, ?_⟩
        refine (callsIn_wide.2 Hnx.out).mono ?_
        rintro e w1 ⟨rfl, hB1⟩
        have hc1 : w1.cell? ⟨Bb, 0, none⟩ = some (.slice A l.length c) := Boxed.cell (t := 25) (hJR _ _ (hJb _ _ _ hJ hB1)).2
        obtain ⟨fn, tmps, assign, body, hy, hR⟩ := (Hy w1 hB1).out
        have hy' : (Instr.yield lp #[.agg #[.int .i64 (i : Int), .int .i64 ((l.length : Int) - (i : Int)), .bool false, .int .i64 0, .slice none 0 0]]).run Try.prog w1 = .ok (.round lp fn tmps assign body) w1 := by
          have : ((l.length - i : Nat) : Int) = (l.length : Int) - (i : Int) := by omega
          rw [← this]; exact hy
        clear hy hc
        gi_wp2_with fail
        refine hR.mono ?_
        rintro e W2 ⟨rfl, hJ2⟩
        clear hy' hR hc1
        gi_wp2
        exact bodyPost_ret (results_none rfl _ _ _) rfl ⟨⟨_, rfl⟩, _, by rw [← (show pre.map (·.1) ++ sgs l i = sgs l 0 from hpre), HS.out]; simp, hJ2⟩
    · have HE := Lib.hid (show pre.map (·.1) = sgs l 0 by have := hpre; unfold RowKit.Hid at this; rw [← this, sgs_end l i (by omega), List.append_nil])
      gi_wp2
      go_end0
      exact ⟨⟨_, rfl⟩, pre, HE.out, hJ⟩
end Go.Proofs.Ytepnillddlemaaa
