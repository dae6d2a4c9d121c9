/- The law FindYet: with whatever behind, no frame begins at a place at which none begins, and none may yet; one that begins stays. The condition: both bytes are read from memory. -/
import Derived.Test.YteolgkjokhmmfaaLaw06
set_option linter.unusedVariables false
set_option linter.unusedSimpArgs false
namespace Go.Proofs.Yteolgkjokhmmfaa
open Go.RowKit Go.Shelf TG TG.Crc
attribute [local go_sem] Oper.semAt_some

set_option maxRecDepth 100000 in
set_option maxHeartbeats 1000000 in
theorem yet_main (w : World) (A : Option Addr) (c : Nat) (l : List UInt8) (hr : RB w A c l) (hl : l.length ≤ 400) (A2 : Option Addr) (c2 : Nat) (r : List UInt8) (hrr : RB w A2 c2 r) (hl2 : r.length ≤ 200) :
    Calls Try.prog 10 #[.slice A l.length c, .slice A2 r.length c2] w fun e w' => e = .returned (.bool true) ∧ Below w.heap.size w w' := by
  have hownl := own_empty w 5 1
  have hB0 : Below w.heap.size w (w.alloc (.cells #[] 5)) := below_new (Below.refl _ _) _
  obtain ⟨al1, hal1⟩ : ∃ al1, al1 = [] ++ l := ⟨_, rfl⟩
  obtain ⟨all, hall⟩ : ∃ all, all = al1 ++ r := ⟨_, rfl⟩
  have ha1 : al1.length ≤ 400 := by rw [hal1]; simp; omega
  have ha2 : all.length ≤ 1000 := by rw [hall]; simp; omega
  have ha3 : l.length ≤ all.length := by rw [hall, hal1]; simp
  have hmore := fun i hi h => wE_more l r i hi h
  rw [show l ++ r = all from by rw [hall, hal1]; rfl] at hmore
  have Hmore := Lib.hid hmore
  have Hal1 := Lib.hid hal1
  have Hall := Lib.hid hall
  clear hmore hal1 hall
  go_enter Try.func10, Try.ntmps10
  go_wp2_with (at_builtin; first
    | (go_loud (refine wpList_app8 rfl _ _ 27 rfl w.heap.size 5 Try.underlying27 info_u8 _ [] rfl hownl A c l rfl (hr.alloc _) (by simp; omega) hB0.size ?_); intro A3 c3 w3 hown3 hgrow; rw [← Hal1.out] at hown3 ⊢; have hB3 := hB0.grown hgrow hB0.size (fun g hg => own_base hownl g hg); clear hownl hgrow)
    | (go_loud (refine wpList_app8 rfl _ _ 27 rfl w.heap.size 5 Try.underlying27 info_u8 _ al1 rfl hown3 A2 c2 r rfl (hrr.below hB3) (by omega) hB3.size ?_); intro A4 c4 w4 hown4 hgrow; rw [← Hall.out] at hown4 ⊢; have hB4 := hB3.grown hgrow hB3.size (fun g hg => own_base hown3 g hg); clear hown3 hgrow))
  have hr4 := own_RB hown4 (by omega)
  have hrl4 := hr.below hB4
  clear hown4 hB0 hB3 hr hrr
  go_loopw [29] (fun x wr => ∃ i : Nat, i ≤ l.length ∧ x = .int .i64 i ∧ Below w4.heap.size w4 wr) (fun x _ => l.length - (intOf x).toNat)
  case atStart => exact ⟨0, by omega, rfl, Below.refl _ _⟩
  case round =>
    obtain ⟨i, hil, rfl, hB⟩ := hrel
    by_cases hlt : i < l.length
    · have hat1 := at_calls A c l i hil wr (hrl4.below hB) (by omega)
      have hm := Hmore.out i hil
      unfold wE at hm
      go_wp2_with fail
      refine hat1.mono ?_
      rintro e w5 ⟨A5, c5, rfl, hr5, hn5, hB5⟩
      have hB5' := below_new (below_chain hB hB5) (.cells #[.int .i64 (gK (l.drop i)), .slice A5 (gP (l.drop i)).length c5] 39)
      have hat2 := at_calls A4 c4 all i (by omega) _ (hr4.below hB5') (by omega)
      clear hr5 hn5 hB5 hat1
      go_wp2_with fail
      refine hat2.mono ?_
      rintro e w6 ⟨A6, c6, rfl, hr6, hn6, hB6⟩
      have hB6' := below_new (below_chain hB5' hB6) (.cells #[.int .i64 (gK (all.drop i)), .slice A6 (gP (all.drop i)).length c6] 39)
      clear hr6 hn6 hB6 hat2
      by_cases hE0 : fgE (l.drop i) = 0
      · obtain ⟨m1, m2⟩ := hm (by omega)
        have m3 := m2 hE0
        have m4 : fgE (all.drop i) = 0 := by omega
        have hS : gS (all.drop i) = gS (l.drop i) := by unfold gS; rw [if_pos hE0, if_pos m4, m3]
        rw [hE0, m4, hS]
        clear m1 m2 m3 m4 hE0 hS hm
        go_wp2
        go_roundw
        case rel => exact ⟨i + 1, by omega, by go_num, hB6'⟩
        case measure => simp [intOf]; omega
      · by_cases hE2 : fgE (l.drop i) = 2
        · rw [hE2]
          clear hE0 hE2 hm
          go_wp2
          go_roundw
          case rel => exact ⟨i + 1, by omega, by go_num, hB6'⟩
          case measure => simp [intOf]; omega
        · obtain ⟨m1, m2⟩ := hm hE2
          rw [m1]
          have b1 : ((fgE (l.drop i) : Int) == 0) = false := by rw [beq_eq_false_iff_ne]; omega
          have b2 : ((fgE (l.drop i) : Int) != 0) = true := by rw [bne_iff_ne]; omega
          have b3 : ((fgE (l.drop i) : Int) != 2) = true := by rw [bne_iff_ne]; omega
          have b4 : ((fgE (l.drop i) : Int) != (fgE (l.drop i) : Int)) = false := by rw [bne_eq_false_iff_eq]
          clear m1 m2 hE0 hE2 hm
          generalize fgE (l.drop i) = E at *
          go_wp2
          go_roundw
          case rel => exact ⟨i + 1, by omega, by go_num, hB6'⟩
          case measure => simp [intOf]; omega
    · have hB9 := Lib.hid (below_chain hB4 hB)
      go_wp2_with fail
      refine (fixed6_calls _).mono ?_
      rintro e w7 ⟨rfl, hB7⟩
      go_wp2
      go_ret
      exact ⟨rfl, below_chain hB9.out hB7⟩

set_option maxRecDepth 100000 in
theorem walk_FindYet (w : World) (A : Option Addr) (c : Nat) (l : List UInt8) (hr : RB w A c l) (A2 : Option Addr) (c2 : Nat) (r : List UInt8) (hrr : RB w A2 c2 r) :
    Calls Try.prog 10 #[.slice A l.length c, .slice A2 r.length c2] w fun e w' => e = .returned (.bool true) ∧ Below w.heap.size w w' := by
  have hl := hr.2.1
  have hl2 := hrr.2.1
  by_cases h1 : 400 < l.length ∨ 200 < r.length
  · rcases h1 with h1 | h1
    · go_enter Try.func10, Try.ntmps10
      go_wp2_with fail
      refine (fixed6_calls _).mono ?_
      rintro e w1 ⟨rfl, hB⟩
      go_wp2
      go_ret
      exact ⟨rfl, hB⟩
    · by_cases h2 : 400 < l.length
      all_goals
        go_enter Try.func10, Try.ntmps10
        go_wp2_with fail
        refine (fixed6_calls _).mono ?_
        rintro e w1 ⟨rfl, hB⟩
        go_wp2
        go_ret
        exact ⟨rfl, hB⟩
  · exact yet_main w A c l hr (by omega) A2 c2 r hrr (by omega)
end Go.Proofs.Yteolgkjokhmmfaa
