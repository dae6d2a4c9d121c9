/- The law FindPlaces: where frames begin in any bytes, or may yet, what begins at any place, and how many do, is the document's. The conditions: the bytes are read from memory, the numbers are in their range. -/
import Derived.Test.YteolgkjokhmmfaaLaw06
import Derived.Lib.QuietBelow
import Derived.BigQuiet
set_option linter.unusedVariables false
set_option linter.unusedSimpArgs false
namespace Go.Proofs.Yteolgkjokhmmfaa
open Go.RowKit Go.Shelf TG TG.Crc
attribute [local go_sem] Oper.semAt_some

theorem isF_hq (l : List UInt8) (i : Nat) : isF l i = ((wE l i : Int) == 0 || (false && (wE l i : Int) == 2)) := by
  unfold isF
  rw [Bool.eq_iff_iff]
  simp
theorem isO_hq (l : List UInt8) (i : Nat) : isO l i = ((wE l i : Int) == 0 || (true && (wE l i : Int) == 2)) := by
  unfold isO
  rw [Bool.eq_iff_iff]
  simp
  omega
/-- the same answer, told in two ways -/
theorem nv_pv (l : List UInt8) (j : Nat) : nv l j = j ∧ pv l j = j ∧ decide (j < l.length) = true ∨ nv l j = 0 ∧ pv l j = -1 ∧ decide (j < l.length) = false := by
  unfold nv pv
  by_cases h : j < l.length
  · left; simp [h]
  · right; simp [h]

set_option maxRecDepth 100000 in
set_option maxHeartbeats 1000000 in
theorem places_bad (w : World) (A : Option Addr) (c : Nat) (l : List UInt8) (hr : RB w A c l) (hl : l.length ≤ 600) (a : Int) (ha : a < 0 ∨ (l.length : Int) < a) (f : Int) (hf : f ≤ 9223372036854775807) :
    Calls Try.prog 11 #[.slice A l.length c, .int .i64 a, .int .i64 f] w fun e w' => e = .returned (.bool true) ∧ Below w.heap.size w w' := by
  have hcv := conv_str (P := Try.prog) 27 9 5 Try.underlying27 Try.underlying5 Try.underlying9 hr
  go_enter Try.func11, Try.ntmps11
  go_wp2_with fail
  refine (next_calls A c l f hf w hr (by omega)).mono ?_
  rintro e w1 ⟨rfl, hB1⟩
  clear hcv
  go_wp2_with fail
  refine (open_calls A c l f hf w1 (hr.below hB1) (by omega)).mono ?_
  rintro e w2 ⟨rfl, hB2⟩
  have hB02 := below_chain hB1 hB2
  clear hB1 hB2
  go_wp2_with fail
  refine (refnext_calls l f false w2 (by omega) (isF l) (isF_hq l)).mono ?_
  rintro e w3 ⟨rfl, hB3⟩
  have hB03 := below_chain hB02 hB3
  clear hB02 hB3
  go_wp2_with fail
  refine (refnext_calls l f true w3 (by omega) (isO l) (isO_hq l)).mono ?_
  rintro e w4 ⟨rfl, hB4⟩
  have hB04 := below_chain hB03 hB4
  clear hB03 hB4
  rw [show fst (isF l) f.toNat (l.length - f.toNat) = nxt l f.toNat from rfl, show fst (isO l) f.toNat (l.length - f.toNat) = opn l f.toNat from rfl]
  have hcnt := count_calls A c l w4 (hr.below hB04) (by omega)
  have hnat1 := Int.natCast_nonneg (nxt l f.toNat)
  have hnat2 := Int.natCast_nonneg (opn l f.toNat)
  generalize nxt l f.toNat = j at *
  generalize opn l f.toNat = k at *
  have hmj : max (j : Int) 0 = j := by omega
  have hmk : max (k : Int) 0 = k := by omega
  rcases nv_pv l j with ⟨e1, e2, e3⟩ | ⟨e1, e2, e3⟩ <;> rcases nv_pv l k with ⟨e4, e5, e6⟩ | ⟨e4, e5, e6⟩
  all_goals
    rw [e1, e2, e3, e4, e5, e6]
    clear e1 e2 e3 e4 e5 e6
    go_wp2_with fail
    refine hcnt.mono ?_
    rintro e w5 ⟨rfl, hB5⟩
    have hB05 := below_chain hB04 hB5
    clear hB5 hcnt
    go_wp2_with fail
    refine (refcount_calls l w5 (by omega)).mono ?_
    rintro e w6 ⟨rfl, hB6⟩
    have hB06 := below_chain hB05 hB6
    clear hB6
    generalize cnt l = N at *
    go_wp2_with fail
    refine (at_bad A c l a ha w6).mono ?_
    rintro e w7 ⟨rfl, hB7⟩
    have hB07 := below_new (below_chain hB06 hB7) (.cells #[.int .i64 0, .slice none 0 0] 39)
    have HB07 := Lib.hid hB07
    clear hB7 hB04 hB05 hB06 hB07 hmj hmk hnat1 hnat2 hr
  all_goals
    rcases ha with ha | ha
    all_goals
      go_wp2_with fail
      refine (fixed6_calls _).mono ?_
      rintro e w8 ⟨rfl, hB8⟩
      go_wp2
      go_ret
      exact ⟨rfl, below_chain HB07.out hB8⟩

set_option maxRecDepth 100000 in
set_option maxHeartbeats 2000000 in
theorem places_main (w : World) (A : Option Addr) (c : Nat) (l : List UInt8) (hr : RB w A c l) (hl : l.length ≤ 600) (i : Nat) (hi : i ≤ l.length) (f : Int) (hf : f ≤ 9223372036854775807) :
    Calls Try.prog 11 #[.slice A l.length c, .int .i64 i, .int .i64 f] w fun e w' => e = .returned (.bool true) ∧ Below w.heap.size w w' := by
  have hcv := conv_str (P := Try.prog) 27 9 5 Try.underlying27 Try.underlying5 Try.underlying9 hr
  go_enter Try.func11, Try.ntmps11
  go_wp2_with fail
  refine (next_calls A c l f hf w hr (by omega)).mono ?_
  rintro e w1 ⟨rfl, hB1⟩
  clear hcv
  go_wp2_with fail
  refine (open_calls A c l f hf w1 (hr.below hB1) (by omega)).mono ?_
  rintro e w2 ⟨rfl, hB2⟩
  have hB02 := below_chain hB1 hB2
  clear hB1 hB2
  go_wp2_with fail
  refine (refnext_calls l f false w2 (by omega) (isF l) (isF_hq l)).mono ?_
  rintro e w3 ⟨rfl, hB3⟩
  have hB03 := below_chain hB02 hB3
  clear hB02 hB3
  go_wp2_with fail
  refine (refnext_calls l f true w3 (by omega) (isO l) (isO_hq l)).mono ?_
  rintro e w4 ⟨rfl, hB4⟩
  have hB04 := below_chain hB03 hB4
  clear hB03 hB4
  rw [show fst (isF l) f.toNat (l.length - f.toNat) = nxt l f.toNat from rfl, show fst (isO l) f.toNat (l.length - f.toNat) = opn l f.toNat from rfl]
  have hcnt := count_calls A c l w4 (hr.below hB04) (by omega)
  have hnat1 := Int.natCast_nonneg (nxt l f.toNat)
  have hnat2 := Int.natCast_nonneg (opn l f.toNat)
  generalize nxt l f.toNat = j at *
  generalize opn l f.toNat = k at *
  have hmj : max (j : Int) 0 = j := by omega
  have hmk : max (k : Int) 0 = k := by omega
  rcases nv_pv l j with ⟨e1, e2, e3⟩ | ⟨e1, e2, e3⟩ <;> rcases nv_pv l k with ⟨e4, e5, e6⟩ | ⟨e4, e5, e6⟩
  all_goals
    rw [e1, e2, e3, e4, e5, e6]
    clear e1 e2 e3 e4 e5 e6
    go_wp2_with fail
    refine hcnt.mono ?_
    rintro e w5 ⟨rfl, hB5⟩
    have hB05 := below_chain hB04 hB5
    clear hB5 hcnt
    go_wp2_with fail
    refine (refcount_calls l w5 (by omega)).mono ?_
    rintro e w6 ⟨rfl, hB6⟩
    have hB06 := below_chain hB05 hB6
    clear hB6
    generalize cnt l = N at *
    go_wp2_with fail
    have hat := at_calls A c l i hi w6 (hr.below hB06) (by omega)
    have hex := mk8_drop l i hi
    have j1 : (0 : Int) ≤ (i : Int) := Int.natCast_nonneg _
    have j2 : (i : Int) ≤ (l.length : Int) := by omega
    have hdl : (l.drop i).length ≤ 1000000 := by simp; omega
    generalize l.drop i = dl at *
    refine hat.mono ?_
    rintro e w7 ⟨A7, c7, rfl, hr7, hn7, hB7⟩
    have hB07 := below_chain hB06 hB7
    clear hat hB7 hB04 hB05 hB06 hmj hmk hnat1 hnat2 hr hn7
    go_wp2_with fail
    refine (refget5_calls dl _ hdl).mono ?_
    rintro e w8 ⟨A8, c8, rfl, hr8, hn8, hB8⟩
    have hX8 := (Blk.new w7 39 [.int .i64 (gK dl), .slice A7 (gP dl).length c7]).below hB8
    have hr78 := (hr7.alloc (.cells #[.int .i64 (gK dl), .slice A7 (gP dl).length c7] 39)).below hB8
    have HX8 := Lib.hid hX8
    have HX9 := Lib.hid (hX8.alloc (.cells #[.int .i64 (gK dl), .slice A8 (gP dl).length c8] 39))
    have HY9 := Lib.hid (Blk.new w8 39 [.int .i64 (gK dl), .slice A8 (gP dl).length c8])
    have HR7 := Lib.hid (hr78.alloc (.cells #[.int .i64 (gK dl), .slice A8 (gP dl).length c8] 39))
    have HR8 := Lib.hid (hr8.alloc (.cells #[.int .i64 (gK dl), .slice A8 (gP dl).length c8] 39))
    have HB8 := Lib.hid (below_new (below_chain (below_new hB07 (.cells #[.int .i64 (gK dl), .slice A7 (gP dl).length c7] 39)) hB8) (.cells #[.int .i64 (gK dl), .slice A8 (gP dl).length c8] 39))
    clear hX8 hr78 hr7 hr8 hn8 hB8 hB07 hex j1 j2
    go_wp2_with fail
    refine (fixed6_calls _).mono ?_
    rintro e w9 ⟨rfl, hB9⟩
    have hX := HX9.out.below hB9
    have hY := HY9.out.below hB9
    have x0 := hX.cell 0
    have x1 := hX.cell 1
    have y0 := hY.cell 0
    have y1 := hY.cell 1
    simp only [List.getElem?_cons_zero, List.getElem?_cons_succ] at x0 x1 y0 y1
    have hsm := fsame_calls (gK dl) (gK dl) A7 c7 (gP dl) A8 c8 (gP dl) w9 (HR7.out.below hB9) (HR8.out.below hB9)
    rw [show ((((gK dl : Nat) : Int) == ((gK dl : Nat) : Int)) && (gP dl == gP dl)) = true from by simp] at hsm
    have HB9 := Lib.hid (below_chain HB8.out hB9)
    clear hX hY hB9
    go_wp2_with fail
    refine hsm.mono ?_
    rintro e w10 ⟨rfl, hB10⟩
    clear x0 x1 y0 y1 hsm
    generalize gS dl = S at *
    generalize fgE dl = E at *
    go_wp2
    go_ret
    exact ⟨rfl, below_chain HB9.out hB10⟩

set_option maxRecDepth 100000 in
theorem walk_FindPlaces (w : World) (A : Option Addr) (c : Nat) (l : List UInt8) (hr : RB w A c l) (a : Int) (ha : (Lit.int .i64 a).wf = true) (f : Int) (hf : (Lit.int .i64 f).wf = true) :
    Calls Try.prog 11 #[.slice A l.length c, .int .i64 a, .int .i64 f] w fun e w' => e = .returned (.bool true) ∧ Below w.heap.size w w' := by
  have hl := hr.2.1
  obtain ⟨_, hf2⟩ := wf_i64 hf
  by_cases h1 : 600 < l.length
  · go_enter Try.func11, Try.ntmps11
    go_wp2_with fail
    refine (fixed6_calls _).mono ?_
    rintro e w1 ⟨rfl, hB⟩
    go_wp2
    go_ret
    exact ⟨rfl, hB⟩
  · by_cases ha : a < 0 ∨ (l.length : Int) < a
    · exact places_bad w A c l hr (by omega) a ha f (by omega)
    · obtain ⟨i, rfl⟩ : ∃ i : Nat, a = i := ⟨a.toNat, by omega⟩
      exact places_main w A c l hr (by omega) i (by omega) f (by omega)
end Go.Proofs.Yteolgkjokhmmfaa
