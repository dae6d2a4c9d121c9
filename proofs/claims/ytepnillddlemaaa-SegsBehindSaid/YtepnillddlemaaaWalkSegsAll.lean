/- The law SegsAll: parts stand one behind the other, and have all bytes; no two that are skipped stand side by side; each frame's bytes are its own; where bytes are skipped no frame begins. The condition: the bytes are read from memory. -/
import Derived.Test.YtepnillddlemaaaLaw07
set_option linter.unusedVariables false
set_option linter.unusedSimpArgs false
namespace Go.Proofs.Ytepnillddlemaaa
open Go.RowKit Go.Shelf TG TG.Crc
attribute [local go_sem] Oper.semAt_some

theorem all_step {l : List UInt8} {x : List Sg} {k i : Nat} (hx : x.drop k = sgs l i) (hk : k < x.length) :
    i < l.length ∧ x[k].fr = i ∧ 1 ≤ x[k].n ∧ i + x[k].n ≤ l.length ∧ x.drop (k + 1) = sgs l (i + x[k].n) ∧ (x[k].is = true → x[k] = frm l i ∧ wE l i = 0) ∧ (x[k].is = false → (∀ j, i ≤ j → j < i + x[k].n → wE l j ≠ 0) ∧ (i + x[k].n < l.length → wE l (i + x[k].n) = 0)) := by
  have hi : i < l.length := by
    rcases Nat.lt_or_ge i l.length with h | h
    · exact h
    · rw [sgs_end l i h] at hx
      have := congrArg List.length hx
      simp at this
      omega
  obtain ⟨s, e1, e2, e3, e4, e5, e6⟩ := sgs_cons l i hi
  rw [e1, List.drop_eq_getElem_cons hk] at hx
  obtain ⟨h1, h2⟩ := List.cons.inj hx
  rw [h1]
  exact ⟨hi, e2, e3, e4, h2, e5, fun h => ⟨(e6 h).2.1, (e6 h).2.2⟩⟩

set_option maxRecDepth 100000 in
set_option maxHeartbeats 4000000 in
theorem segsall_main (w : World) (A : Option Addr) (c : Nat) (l : List UInt8) (hr : RB w A c l) (hl : l.length ≤ 1000) :
    Calls Try.prog 4 #[.slice A l.length c] w fun e w' => e = .returned (.bool true) ∧ Below w.heap.size w w' := by
  have hlc := hr.1
  obtain ⟨i1, hi1, hz0, hz1, hz2⟩ := info_parts info_u8
  have hof := of_calls A c l w hr (by omega)
  have hxl := sgs_len l
  have hend := sgs_end l
  obtain ⟨x, hx⟩ : ∃ x, x = sgs l 0 := ⟨_, rfl⟩
  rw [← hx] at hof hxl
  have Hx := Lib.hid hx
  have Hend := Lib.hid hend
  clear hx hend
  go_enter Try.func4, Try.ntmps4
  go_wp2_with fail
  refine hof.mono ?_
  rintro e w1 ⟨v, rfl, hO, hB1⟩
  obtain ⟨A3, c3, rfl⟩ := hO.form
  have hS := hO.S (by omega)
  clear hof hO
  go_wp2_with fail
  go_loopw [3, 4, 20] (fun a sb n wr => ∃ (k i : Nat) (sk : Bool), n = .int .i64 k ∧ a = .int .i64 i ∧ sb = .bool sk ∧ k ≤ x.length ∧ i ≤ l.length ∧ Hid (x.drop k = sgs l i) ∧ Hid (sk = true → i < l.length → wE l i = 0) ∧ Below w1.heap.size w1 wr) (fun _ _ n _ => x.length - (intOf n).toNat)
  case atStart => exact ⟨0, 0, false, rfl, rfl, rfl, Nat.zero_le _, Nat.zero_le _, by rw [List.drop_zero]; exact Hx.out, Lib.hid (fun h => by cases h), Below.refl _ _⟩
  case round =>
    obtain ⟨k, i, sk, rfl, rfl, rfl, hk, hi, hxs, hsk, hB⟩ := hrel
    have j1 : (0 : Int) ≤ (k : Int) := Int.natCast_nonneg _
    have j2 : (0 : Int) ≤ (i : Int) := Int.natCast_nonneg _
    by_cases hlt : k < x.length
    · obtain ⟨ad, P1, d1, rfl, hsp, hz⟩ := seg_at (Rd.S_below (by decide) hS hB) k hlt
      obtain ⟨y0, y1, y2, y3, y4⟩ := hz _ (Below.refl _ _)
      obtain ⟨q1, q2, q3, q4, q5, q6, q7⟩ := all_step hxs.out hlt
      clear hz
      have hrp := Rd.S_RB hsp
      clear hsp
      generalize x[k] = s at *
      obtain ⟨fr, n, is, kk, p⟩ := s
      dsimp only at *
      subst q2
      have hBx := below_new hB (.cells #[.int .i64 (fr : Int), .int .i64 (n : Int), .bool is, .int .i64 (kk : Int), .slice P1 p.length d1] 31)
      have hbx := Blk.new wr 31 [.int .i64 (fr : Int), .int .i64 (n : Int), .bool is, .int .i64 (kk : Int), .slice P1 p.length d1]
      have hrx := hrp.alloc (.cells #[.int .i64 (fr : Int), .int .i64 (n : Int), .bool is, .int .i64 (kk : Int), .slice P1 p.length d1] 31)
      have n0 : (1 : Int) ≤ (n : Int) := by omega
      have n1 : (fr : Int) + (n : Int) ≤ (l.length : Int) := by omega
      have n2 : (n : Int) ≤ (l.length : Int) - (fr : Int) := by omega
      have HQ5 := Lib.hid q5
      have HQ6 := Lib.hid q6
      have HQ7 := Lib.hid q7
      clear q5 q6 q7 hrp
      cases is with
      | true =>
        obtain ⟨g1, g2⟩ := HQ6.out rfl
        obtain ⟨f1, f2, f3, f4, f5, f6⟩ := fg_back (l.drop fr) g2
        rw [show frm l fr = ⟨fr, fgB (l.drop fr) + 4, true, fgK (l.drop fr), fgP (l.drop fr)⟩ from rfl] at g1
        simp only [Sg.mk.injEq, true_and] at g1
        obtain ⟨g3, g4, g5⟩ := g1
        rw [← g3, ← g4, ← g5] at f1
        rw [← g4] at f3
        rw [← g5] at f4
        obtain ⟨A5, c5, hcut, hrc, hbc⟩ := cut_lh (P := Try.prog) 25 5 Try.underlying25 hi1 hz1 A c l fr (fr + n) (by omega) q4 hlc
        rw [show fr + n - fr = n from by omega, f1, show ((fr + n : Nat) : Int) = (fr : Int) + (n : Int) from by omega] at hcut
        rw [show fr + n - fr = n from by omega, f1] at hrc
        have hfl : (fp kk p).length ≤ 6000 := by rw [← f1]; simp; omega
        obtain ⟨W0, hW0⟩ : ∃ W0, W0 = wr.alloc (.cells #[.int .i64 (fr : Int), .int .i64 (n : Int), .bool true, .int .i64 (kk : Int), .slice P1 p.length d1] 31) := ⟨_, rfl⟩
        have hput := fput_calls kk f3 P1 d1 p _ hrx f4
        generalize hfo : fp kk p = fo at *
        have hr5 := hrc w hr
        have HW0 := Lib.hid hW0
        have HBx := Lib.hid hBx
        have HB1 := Lib.hid hB1
        have Hbx := Lib.hid hbx
        have Hput := Lib.hid hput
        clear g2 g3 g4 g5 f1 f2 f3 f4 f5 f6 hfo hrc hbc HQ7 HQ6 hW0 hBx hB1 hbx hrx hput hB
        cases sk
        all_goals
          go_wp2_with fail
          refine Hput.out.mono ?_
          rintro e w5 ⟨v5, rfl, hown5, hB5⟩
          obtain ⟨A6, c6, rfl⟩ := own_form hown5
          have hr6 := own_RB hown5 (by omega)
          have hX := Hbx.out.below hB5
          have hBw := below_chain HBx.out hB5
          have hr56 := hr5.below (below_chain HB1.out hBw)
          have HX := Lib.hid hX
          have HBw := Lib.hid hBw
          have z1 : ∀ d os, (Sort.grow (redrawn w5 d) os).cell? ⟨wr.heap.size, 1, none⟩ = some (.int .i64 (n : Int)) := fun d os => (HX.out.below (below_regrown w5 d os)).cell 1
          have k1 : ∀ d os, (convert 25 9 (.slice A6 fo.length c6)).run Try.prog (Sort.grow (redrawn w5 d) os) = .ok (.string (mk8 fo)) (Sort.grow (redrawn w5 d) os) := fun d os => conv_str (P := Try.prog) 25 9 5 Try.underlying25 Try.underlying5 Try.underlying9 (hr6.below (below_regrown w5 d os))
          have k2 : ∀ d os, (convert 25 9 (.slice A5 fo.length c5)).run Try.prog (Sort.grow (redrawn w5 d) os) = .ok (.string (mk8 fo)) (Sort.grow (redrawn w5 d) os) := fun d os => conv_str (P := Try.prog) 25 9 5 Try.underlying25 Try.underlying5 Try.underlying9 (hr56.below (below_regrown w5 d os))
          clear hown5 hB5 hX hBw hr56 hr6 y0 y1 y2 y3 y4
          go_wp2_with fail
          refine wp_region_quiet_below (by kernel_rfl) (by kernel_rfl) ?_
          repeat (first | go_big_quiet_step (fail) | quiet_step (fail))
          refine wpQuiet_nil ?_
          intro _ hw'
          obtain ⟨⟨dq, osq⟩, hw''⟩ := hw'
          subst hw''
          clear z1 k1 k2 hcut
          have HX6 := Lib.hid (HX.out.below (below_regrown w5 dq osq))
          have HB6 := Lib.hid (below_chain HBw.out (below_regrown w5 dq osq))
          obtain ⟨W6, hW6⟩ : ∃ W6, W6 = Sort.grow (redrawn w5 dq) osq := ⟨_, rfl⟩
          rw [← hW6] at HX6 HB6 ⊢
          clear hW6
          go_wp2_with fail
          go_loopw [9] (fun a wq => a = .int .i64 fr ∧ wq = W6) (fun _ _ => 0)
          case atStart => exact ⟨rfl, rfl⟩
          case round =>
            obtain ⟨rfl, rfl⟩ := hrel
            have x2 := HX6.out.cell 2
            simp only [List.getElem?_cons_zero, List.getElem?_cons_succ] at x2
            have z1 : ∀ d os, (Sort.grow (redrawn wr d) os).cell? ⟨_, 1, none⟩ = some (.int .i64 (n : Int)) := fun d os => (HX6.out.below (below_regrown wr d os)).cell 1
            have z2 : ∀ d os, (Sort.grow (redrawn wr d) os).cell? ⟨_, 2, none⟩ = some (.bool true) := fun d os => (HX6.out.below (below_regrown wr d os)).cell 2
            go_wp2_with fail
            refine wp_region_quiet_below (by kernel_rfl) (by kernel_rfl) ?_
            repeat (first | go_big_quiet_step (fail) | quiet_step (fail))
            refine wpQuiet_nil ?_
            intro _ hw'
            obtain ⟨⟨dq, osq⟩, hw''⟩ := hw'
            subst hw''
            clear z1 z2 x2
            go_wp2
            refine ⟨⟨k + 1, fr + n, false, by go_num, by go_num, rfl, by omega, by omega, HQ5, Lib.hid (fun h => by cases h), below_chain HB6.out (below_regrown wr dq osq)⟩, ?measure⟩
            case measure => simp [intOf]; omega
      | false =>
        have hsf : sk = false := by
          cases hsk2 : sk with
          | false => rfl
          | true => exact absurd (hsk.out hsk2 q1) ((HQ7.out rfl).1 fr (Nat.le_refl _) (by omega))
        subst hsf
        have HN1 := Lib.hid (HQ7.out rfl).1
        have HN2 := Lib.hid (HQ7.out rfl).2
        clear HQ7 HQ6
        go_wp2_with fail
        obtain ⟨W0, hW0⟩ : ∃ W0, W0 = wr.alloc (.cells #[.int .i64 (fr : Int), .int .i64 (n : Int), .bool false, .int .i64 (kk : Int), .slice P1 p.length d1] 31) := ⟨_, rfl⟩
        rw [← hW0] at hBx hbx hrx ⊢
        obtain ⟨Bx, hBxx⟩ : ∃ Bx, Bx = wr.heap.size := ⟨_, rfl⟩
        rw [← hBxx] at hbx ⊢
        have HBx := Lib.hid hBx
        have Hbx := Lib.hid hbx
        have HB1 := Lib.hid hB1
        clear hW0 hBxx hBx hbx hB y0 y1 y2 y3 y4 hrx hB1
        go_loopw [9] (fun a wq => ∃ j : Nat, fr ≤ j ∧ j ≤ fr + n ∧ a = .int .i64 j ∧ Hid (Below W0.heap.size W0 wq)) (fun a _ => fr + n - (intOf a).toNat)
        case atStart => exact ⟨fr, Nat.le_refl _, by omega, rfl, Lib.hid (Below.refl _ _)⟩
        case round =>
          obtain ⟨j, hj1, hj2, rfl, hBq⟩ := hrel
          have m1 : (fr : Int) ≤ (j : Int) := by omega
          have m2 : (j : Int) ≤ (fr : Int) + (n : Int) := by omega
          have hX := Hbx.out.below hBq.out
          have x0 := hX.cell 0
          have x1 := hX.cell 1
          have x2 := hX.cell 2
          simp only [List.getElem?_cons_zero, List.getElem?_cons_succ] at x0 x1 x2
          have HX := Lib.hid hX
          clear hX
          by_cases hjl : j < fr + n
          · have m3 : (j : Int) < (fr : Int) + (n : Int) := by omega
            obtain ⟨A1, c1, hcut, hrc, hbc⟩ := cut_l (P := Try.prog) 25 5 Try.underlying25 hi1 hz1 A c l j (by omega) hlc
            have hget := fget_calls A1 c1 (l.drop j) wr (hrc wr (hr.below (below_chain (below_chain HB1.out HBx.out) hBq.out))) (by simp; omega)
            have hne := HN1.out j hj1 hjl
            have hb : ((fgE (l.drop j) : Int) == 0) = false := by rw [beq_eq_false_iff_ne]; unfold wE at hne; omega
            generalize l.drop j = dl at *
            clear hrc hbc hne
            go_wp2_with fail
            refine hget.mono ?_
            rintro e w5 ⟨A5, c5, rfl, _, _, hB5⟩
            have HB5 := Lib.hid (below_new (below_chain hBq.out hB5) (.cells #[.int .i64 (gK dl), .slice A5 (gP dl).length c5] 29))
            clear hB5 x0 x1 x2 hget hcut
            generalize fgE dl = E at *
            go_wp2
            go_roundw
            case rel => exact ⟨j + 1, by omega, by omega, by go_num, HB5.out⟩
            case measure => simp [intOf]; omega
          · obtain rfl : j = fr + n := by omega
            have z1 : ∀ d os, (Sort.grow (redrawn wr d) os).cell? ⟨Bx, 1, none⟩ = some (.int .i64 (n : Int)) := fun d os => (HX.out.below (below_regrown wr d os)).cell 1
            have z2 : ∀ d os, (Sort.grow (redrawn wr d) os).cell? ⟨Bx, 2, none⟩ = some (.bool false) := fun d os => (HX.out.below (below_regrown wr d os)).cell 2
            go_wp2_with fail
            refine wp_region_quiet_below (by kernel_rfl) (by kernel_rfl) ?_
            repeat (first | go_big_quiet_step (fail) | quiet_step (fail))
            refine wpQuiet_nil ?_
            intro _ hw'
            obtain ⟨⟨dq, osq⟩, hw''⟩ := hw'
            subst hw''
            clear z1 z2 x0 x1 x2
            go_wp2
            refine ⟨⟨k + 1, fr + n, true, by go_num, by go_num, rfl, by omega, by omega, HQ5, Lib.hid (fun _ h => HN2.out h), below_chain (below_chain HBx.out hBq.out) (below_regrown wr dq osq)⟩, ?measure⟩
            case measure => simp [intOf]; omega
    · have hil : l.length ≤ i := by
        rcases Nat.lt_or_ge i l.length with h | h
        · obtain ⟨s, e1, _⟩ := sgs_cons l i h
          have := hxs.out
          rw [e1] at this
          have := congrArg List.length this
          simp at this
          omega
        · exact h
      have hil2 : (i : Int) = (l.length : Int) := by omega
      have HB := Lib.hid (below_chain hB1 hB)
      obtain rfl : i = l.length := by omega
      clear hil2 hil hB hB1
      go_wp2_with fail
      refine (fixed7_calls _).mono ?_
      rintro e w5 ⟨rfl, hB5⟩
      go_wp2
      go_ret
      exact ⟨rfl, below_chain HB.out hB5⟩

set_option maxRecDepth 100000 in
theorem walk_SegsAll (w : World) (A : Option Addr) (c : Nat) (l : List UInt8) (hr : RB w A c l) :
    Calls Try.prog 4 #[.slice A l.length c] w fun e w' => e = .returned (.bool true) ∧ Below w.heap.size w w' := by
  have hl := hr.2.1
  by_cases h1 : 1000 < l.length
  · go_enter Try.func4, Try.ntmps4
    go_wp2_with fail
    refine (fixed7_calls _).mono ?_
    rintro e w1 ⟨rfl, hB⟩
    go_wp2
    go_ret
    exact ⟨rfl, hB⟩
  · exact segsall_main w A c l hr (by omega)
end Go.Proofs.Ytepnillddlemaaa
