/- The law FrameGets: as which frame any bytes are read, or why they are not, is the document's; what is read has just those bytes. The condition: the bytes are read from memory. -/
import Derived.Test.YteolgkjokhmmfaaLaw05
import Derived.Lib.QuietBelow
import Derived.BigQuiet
set_option linter.unusedVariables false
set_option linter.unusedSimpArgs false
namespace Go.Proofs.Yteolgkjokhmmfaa
open Go.RowKit Go.Shelf TG TG.Crc
attribute [local go_sem] Oper.semAt_some

set_option maxRecDepth 100000 in
set_option maxHeartbeats 1000000 in
theorem gets_main (w : World) (A : Option Addr) (c : Nat) (l : List UInt8) (hr : RB w A c l) (hl : l.length ≤ 5000) :
    Calls Try.prog 7 #[.slice A l.length c] w fun e w' => e = .returned (.bool true) ∧ Below w.heap.size w w' := by
  have hlc := hr.1
  obtain ⟨i0, hi, hz0, hz1, hz2⟩ := info_parts info_u8
  go_enter Try.func7, Try.ntmps7
  go_wp2_with fail
  refine (fget_calls A c l w hr (by omega)).mono ?_
  rintro e w1 ⟨A1, c1, rfl, hr1, hn1, hB1⟩
  have hcv := conv_str (P := Try.prog) 27 9 5 Try.underlying27 Try.underlying5 Try.underlying9 ((hr.below hB1).alloc (.cells #[.int .i64 (gK l), .slice A1 (gP l).length c1] 39))
  go_wp2_with fail
  refine (refget5_calls l _ (by omega)).mono ?_
  rintro e w2 ⟨A2, c2, rfl, hr2, hn2, hB2⟩
  have hX : Blk w2 w1.heap.size 39 [.int .i64 (gK l), .slice A1 (gP l).length c1] := (Blk.new w1 39 [.int .i64 (gK l), .slice A1 (gP l).length c1]).below hB2
  have hB2' : Below w1.heap.size w1 w2 := below_chain (below_new (Below.refl _ _) _) hB2
  have hr12 := hr1.below hB2'
  have hBB := below_chain hB1 hB2'
  have hr02 := hr.below hBB
  have hsz2 := hB2'.size
  have hX3 := hX.alloc (.cells #[.int .i64 (gK l), .slice A2 (gP l).length c2] 39)
  have hc0 := hX3.cell 0
  have hc1 := hX3.cell 1
  simp only [List.getElem?_cons_zero, List.getElem?_cons_succ] at hc0 hc1
  have hlt1 : w1.heap.size < w2.heap.size := hX.lt
  have hsm := fsame_calls (gK l) (gK l) A1 c1 (gP l) A2 c2 (gP l) (w2.alloc (.cells #[.int .i64 (gK l), .slice A2 (gP l).length c2] 39)) (hr12.alloc _) (hr2.alloc _)
  rw [show ((((gK l : Nat) : Int) == ((gK l : Nat) : Int)) && (gP l == gP l)) = true from by simp] at hsm
  have HX3 := Lib.hid hX3
  clear hcv hX hX3 hB2 hB2'
  go_wp2_with fail
  refine hsm.mono ?_
  rintro e w3 ⟨rfl, hB3⟩
  have hX4 := HX3.out.below hB3
  have hc0' := hX4.cell 0
  have hc1' := hX4.cell 1
  simp only [List.getElem?_cons_zero, List.getElem?_cons_succ] at hc0' hc1'
  have hB3' : Below w2.heap.size w2 w3 := below_chain (below_new (Below.refl _ _) _) hB3
  have hr13 := hr12.below hB3'
  have hr03 := hr02.below hB3'
  have hBw := below_chain hBB hB3'
  clear hc0 hc1 hsm hX4 hB3
  go_wp2_with fail
  by_cases hE : fgE l = 0
  · obtain ⟨e1, e2, e3⟩ := g_some hE
    obtain ⟨f1, f2, f3, f4, f5, f6⟩ := fg_back l hE
    rw [← e1, ← e2, ← e3] at f1
    rw [← e3] at f2
    rw [← e1] at f3
    rw [← e2] at f4
    refine (fput_calls (gK l) f3 A1 c1 (gP l) w3 hr13 f4).mono ?_
    rintro e w4 ⟨v4, rfl, hown4, hB4⟩
    have hfl : (fp (gK l) (gP l)).length ≤ 6000 := by rw [← f1]; simp; omega
    obtain ⟨A4, c4, rfl⟩ := own_form hown4
    have hr4 := own_RB hown4 (by omega)
    obtain ⟨A5, c5, hcut, hrc, hbc⟩ := cut_h (P := Try.prog) 27 5 Try.underlying27 hi hz1 A c l (gS l) f2 hlc
    have hr5 := hrc w4 (hr03.below hB4)
    rw [f1] at hcut hr5
    have hb0 : ((fgE l : Int) != 0) = false := by rw [bne_eq_false_iff_eq]; omega
    have hb1 : (gS l : Int) ≤ (l.length : Int) := by omega
    have hb2 : (0 : Int) ≤ (gS l : Int) := by omega
    have hb3 : decide (gS l ≤ l.length) = true := decide_eq_true f2
    have hb4 : decide ((gS l : Int) ≤ (l.length : Int)) = true := decide_eq_true hb1
    have hB9 := Lib.hid (below_chain hBw hB4)
    clear hr02 hr12 hr13 hr03 hBB hBw hB3' hr1 hr2 hn1 hn2 hB4 hB1 e1 e2 e3 f1 f2 f3 f4 f5 f6 hE hown4 hrc
    generalize fp (gK l) (gP l) = fo at *
    generalize fgE l = E at *
    have k1 : ∀ d os, (convert 27 9 (.slice A4 fo.length c4)).run Try.prog (Sort.grow (redrawn w4 d) os) = .ok (.string (mk8 fo)) (Sort.grow (redrawn w4 d) os) := fun d os => conv_str (P := Try.prog) 27 9 5 Try.underlying27 Try.underlying5 Try.underlying9 (hr4.below (below_regrown w4 d os))
    have k2 : ∀ d os, (convert 27 9 (.slice A5 fo.length c5)).run Try.prog (Sort.grow (redrawn w4 d) os) = .ok (.string (mk8 fo)) (Sort.grow (redrawn w4 d) os) := fun d os => conv_str (P := Try.prog) 27 9 5 Try.underlying27 Try.underlying5 Try.underlying9 (hr5.below (below_regrown w4 d os))
    clear hr4 hr5
    go_wp2_with fail
    refine wp_region_quiet_below (by kernel_rfl) (by kernel_rfl) ?_
    repeat (first | go_big_quiet_step (exact Calls.regrown_of (fixed5_calls _)) | quiet_step (exact Calls.regrown_of (fixed5_calls _)))
    refine wpQuiet_nil ?_
    intro _ hw'
    obtain ⟨⟨dq, osq⟩, hw''⟩ := hw'
    subst hw''
    go_wp2
    go_ret
    exact ⟨rfl, below_chain hB9.out (below_regrown w4 dq osq)⟩
  · obtain ⟨e1, e2, e3⟩ := g_none hE
    refine (fput_kind (gK l) (by rw [e1]; decide) A1 c1 (gP l) w3 hr13).mono ?_
    rintro e w4 ⟨rfl, hB4⟩
    have hb0 : ((fgE l : Int) != 0) = true := by rw [bne_iff_ne]; omega
    have hb1 : ((fgE l : Int) == 0) = false := by rw [beq_eq_false_iff_ne]; omega
    have hb2 : (fgE l == 0) = false := by rw [beq_eq_false_iff_ne]; exact hE
    have hb3 : (fgE l != 0) = true := by rw [bne_iff_ne]; exact hE
    have hb4 : ¬ fgE l = 0 := hE
    have hb5 : ¬ (fgE l : Int) = 0 := by omega
    have hB9 := Lib.hid (below_chain hBw hB4)
    clear hr02 hr12 hr13 hr03 hBB hBw hB3' hr1 hr2 hn1 hn2 hB4 hB1 e1 e2 e3 hE
    generalize fgE l = E at *
    go_wp2_with fail
    refine wp_region_quiet_below (by kernel_rfl) (by kernel_rfl) ?_
    repeat (first | go_big_quiet_step (exact Calls.regrown_of (fixed5_calls _)) | quiet_step (exact Calls.regrown_of (fixed5_calls _)))
    refine wpQuiet_nil ?_
    intro _ hw'
    obtain ⟨⟨dq, osq⟩, hw''⟩ := hw'
    subst hw''
    go_wp2
    go_ret
    exact ⟨rfl, below_chain hB9.out (below_regrown w4 dq osq)⟩

set_option maxRecDepth 100000 in
theorem walk_FrameGets (w : World) (A : Option Addr) (c : Nat) (l : List UInt8) (hr : RB w A c l) :
    Calls Try.prog 7 #[.slice A l.length c] w fun e w' => e = .returned (.bool true) ∧ Below w.heap.size w w' := by
  have hl := hr.2.1
  by_cases h1 : 5000 < l.length
  · go_enter Try.func7, Try.ntmps7
    go_wp2_with fail
    refine (fixed5_calls _).mono ?_
    rintro e w1 ⟨rfl, hB⟩
    go_wp2
    go_ret
    exact ⟨rfl, hB⟩
  · exact gets_main w A c l hr (by omega)
end Go.Proofs.Yteolgkjokhmmfaa
