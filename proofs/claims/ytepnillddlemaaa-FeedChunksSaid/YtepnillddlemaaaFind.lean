/- The functions of package find: where frames begin, or may yet. Conditions stand in each theorem. -/
import Derived.Test.YtepnillddlemaaaFrame7
import Derived.Test.YtepnillddlemaaaMathFind
set_option linter.unusedVariables false
set_option linter.unusedSimpArgs false
namespace Go.Proofs.Ytepnillddlemaaa
open Go.RowKit Go.Shelf TG TG.Crc
attribute [local go_sem] Oper.semAt_some

set_option maxRecDepth 100000 in
theorem isf_calls (e : Int) (w : World) : Calls Try.prog 152 #[.int .i64 e] w fun r w' => r = .returned (.bool (e == 0)) ∧ w = w' := by
  go_enter Try.func152, Try.ntmps152
  go_wp2
  all_goals
    go_ret
    exact ⟨by simp [*], rfl⟩
set_option maxRecDepth 100000 in
theorem iso_calls (e : Int) (w : World) : Calls Try.prog 165 #[.int .i64 e] w fun r w' => r = .returned (.bool (e == 0 || e == 2)) ∧ w = w' := by
  go_enter Try.func165, Try.ntmps165
  go_wp2
  all_goals
    go_ret
    exact ⟨by simp [*], rfl⟩
/-- a place that was found; zero: none -/
def nv (l : List UInt8) (j : Nat) : Nat := if j < l.length then j else 0

set_option maxRecDepth 100000 in
set_option maxHeartbeats 1000000 in
theorem firstN_calls (A : Option Addr) (c : Nat) (l : List UInt8) (f : Int) (i0 : Nat) (hf : f < 0 ∧ i0 = 0 ∨ f = (i0 : Int)) (h63 : f ≤ 9223372036854775807) (w : World) (hr : RB w A c l) (hl : l.length ≤ 140737488355328) :
    Calls Try.prog 151 #[.slice A l.length c, .int .i64 f, .func (.func 152) #[] #[]] w fun e w' => e = .returned (.tuple #[.int .i64 (nv l (fst (isF l) i0 (l.length - i0))), .bool (decide (fst (isF l) i0 (l.length - i0) < l.length))]) ∧ Below w.heap.size w w' := by
  have hlc := hr.1
  obtain ⟨i1, hi, hz0, hz1, hz2⟩ := info_parts info_u8
  rcases hf with ⟨hf, h0⟩ | rfl
  all_goals
    have h63' : i0 ≤ 9223372036854775807 := by omega
    (try have h0' : i0 ≤ 0 := by omega)
    (try clear h0)
    clear h63
    go_enter Try.func151, Try.ntmps151
    go_wp2_with fail
    go_step3
    go_wp2_with fail
    go_step3
    go_wp2_with fail
    go_loopw [8, 9, 10] (fun u v x wr => ∃ i : Nat, i0 ≤ i ∧ (i ≤ l.length ∨ i = i0) ∧ u = .int .i64 0 ∧ v = .bool false ∧ x = .int .i64 i ∧ Hid (fst (isF l) i0 (l.length - i0) = fst (isF l) i (l.length - i)) ∧ Below w.heap.size w wr) (fun _ _ x _ => l.length - (intOf x).toNat)
    case atStart => first | exact ⟨i0, Nat.le_refl _, .inr rfl, rfl, rfl, rfl, rfl, Below.refl _ _⟩ | exact ⟨0, by omega, .inr (by omega), rfl, rfl, rfl, Lib.hid (by rw [show i0 = 0 from by omega]), Below.refl _ _⟩
    case round =>
      obtain ⟨i, hi0, hil, rfl, rfl, rfl, HF, hB⟩ := hrel
      by_cases hlt : i < l.length
      · obtain ⟨A1, c1, hcut, hrc, hbc⟩ := cut_l (P := Try.prog) 25 5 Try.underlying25 hi hz1 A c l i (by omega) hlc
        have hget := fget_calls A1 c1 (l.drop i) wr (hrc wr (hr.below hB)) (by simp; omega)
        have j1 : (0 : Int) ≤ (i : Int) := Int.natCast_nonneg _
        have j2 : (i : Int) ≤ (l.length : Int) := by omega
        have hstep : isF l i = false → fst (isF l) i (l.length - i) = fst (isF l) (i + 1) (l.length - (i + 1)) := fun h => by
          rw [show l.length - i = (l.length - (i + 1)) + 1 from by omega]; exact fst_step _ _ _ h
        have hhere : isF l i = true → fst (isF l) i (l.length - i) = i := fun h => by
          rw [show l.length - i = (l.length - (i + 1)) + 1 from by omega]; exact fst_here _ _ _ h
        have hq : isF l i = ((fgE (l.drop i) : Int) == 0) := by
          unfold isF wE
          rw [Bool.eq_iff_iff, beq_iff_eq, beq_iff_eq]
          omega
        have Hstep := Lib.hid hstep
        have Hhere := Lib.hid hhere
        have Hq := Lib.hid hq
        have Hget := Lib.hid hget
        generalize hdl : l.drop i = dl at *
        have HDL := Lib.hid hdl
        clear hstep hhere hq hget hdl hrc hbc
        go_wp2_with fail
        refine Hget.out.mono ?_
        rintro e w1 ⟨A2, c2, rfl, hr2, hn2, hB2⟩
        have hB3 := below_new (below_chain hB hB2) (.cells #[.int .i64 (gK dl), .slice A2 (gP dl).length c2] 29)
        clear hr2 hn2 hB2 hcut
        go_wp2_with fail
        refine (isf_calls _ _).mono ?_
        rintro r w4 ⟨rfl, rfl⟩
        rw [← Hq.out]
        cases hqb : isF l i with
        | true =>
          have HE := Lib.hid (HF.out.trans (Hhere.out hqb))
          clear hqb
          go_wp2_with fail
          rw [Exit.noGoto_ret]
          go_ret2
          exact ⟨by rw [HE.out]; simp [nv, hlt], hB3⟩
        | false =>
          have HE : RowKit.Hid (fst (isF l) i0 (l.length - i0) = fst (isF l) (i + 1) (l.length - (i + 1))) := Lib.hid (HF.out.trans (Hstep.out hqb))
          clear hqb
          go_wp2
          go_roundw
          case rel => exact ⟨i + 1, by omega, .inl (by omega), rfl, rfl, by go_num, HE, hB3⟩
          case measure => simp [intOf]; omega
      · have HE := Lib.hid (show fst (isF l) i0 (l.length - i0) = i by rw [HF.out, show l.length - i = 0 from by omega]; rfl)
        go_wp2_with fail
        rw [Exit.noGoto_ret]
        go_ret2
        exact ⟨by rw [HE.out]; simp [nv, hlt], hB⟩

set_option maxRecDepth 100000 in
set_option maxHeartbeats 1000000 in
theorem firstO_calls (A : Option Addr) (c : Nat) (l : List UInt8) (f : Int) (i0 : Nat) (hf : f < 0 ∧ i0 = 0 ∨ f = (i0 : Int)) (h63 : f ≤ 9223372036854775807) (w : World) (hr : RB w A c l) (hl : l.length ≤ 140737488355328) :
    Calls Try.prog 151 #[.slice A l.length c, .int .i64 f, .func (.func 165) #[] #[]] w fun e w' => e = .returned (.tuple #[.int .i64 (nv l (fst (isO l) i0 (l.length - i0))), .bool (decide (fst (isO l) i0 (l.length - i0) < l.length))]) ∧ Below w.heap.size w w' := by
  have hlc := hr.1
  obtain ⟨i1, hi, hz0, hz1, hz2⟩ := info_parts info_u8
  rcases hf with ⟨hf, h0⟩ | rfl
  all_goals
    have h63' : i0 ≤ 9223372036854775807 := by omega
    (try have h0' : i0 ≤ 0 := by omega)
    (try clear h0)
    clear h63
    go_enter Try.func151, Try.ntmps151
    go_wp2_with fail
    go_step3
    go_wp2_with fail
    go_step3
    go_wp2_with fail
    go_loopw [8, 9, 10] (fun u v x wr => ∃ i : Nat, i0 ≤ i ∧ (i ≤ l.length ∨ i = i0) ∧ u = .int .i64 0 ∧ v = .bool false ∧ x = .int .i64 i ∧ Hid (fst (isO l) i0 (l.length - i0) = fst (isO l) i (l.length - i)) ∧ Below w.heap.size w wr) (fun _ _ x _ => l.length - (intOf x).toNat)
    case atStart => first | exact ⟨i0, Nat.le_refl _, .inr rfl, rfl, rfl, rfl, rfl, Below.refl _ _⟩ | exact ⟨0, by omega, .inr (by omega), rfl, rfl, rfl, Lib.hid (by rw [show i0 = 0 from by omega]), Below.refl _ _⟩
    case round =>
      obtain ⟨i, hi0, hil, rfl, rfl, rfl, HF, hB⟩ := hrel
      by_cases hlt : i < l.length
      · obtain ⟨A1, c1, hcut, hrc, hbc⟩ := cut_l (P := Try.prog) 25 5 Try.underlying25 hi hz1 A c l i (by omega) hlc
        have hget := fget_calls A1 c1 (l.drop i) wr (hrc wr (hr.below hB)) (by simp; omega)
        have j1 : (0 : Int) ≤ (i : Int) := Int.natCast_nonneg _
        have j2 : (i : Int) ≤ (l.length : Int) := by omega
        have hstep : isO l i = false → fst (isO l) i (l.length - i) = fst (isO l) (i + 1) (l.length - (i + 1)) := fun h => by
          rw [show l.length - i = (l.length - (i + 1)) + 1 from by omega]; exact fst_step _ _ _ h
        have hhere : isO l i = true → fst (isO l) i (l.length - i) = i := fun h => by
          rw [show l.length - i = (l.length - (i + 1)) + 1 from by omega]; exact fst_here _ _ _ h
        have hq : isO l i = ((fgE (l.drop i) : Int) == 0 || (fgE (l.drop i) : Int) == 2) := by
          unfold isO wE
          rw [Bool.eq_iff_iff]
          simp only [Bool.or_eq_true, beq_iff_eq]
          omega
        have Hstep := Lib.hid hstep
        have Hhere := Lib.hid hhere
        have Hq := Lib.hid hq
        have Hget := Lib.hid hget
        generalize hdl : l.drop i = dl at *
        have HDL := Lib.hid hdl
        clear hstep hhere hq hget hdl hrc hbc
        go_wp2_with fail
        refine Hget.out.mono ?_
        rintro e w1 ⟨A2, c2, rfl, hr2, hn2, hB2⟩
        have hB3 := below_new (below_chain hB hB2) (.cells #[.int .i64 (gK dl), .slice A2 (gP dl).length c2] 29)
        clear hr2 hn2 hB2 hcut
        go_wp2_with fail
        refine (iso_calls _ _).mono ?_
        rintro r w4 ⟨rfl, rfl⟩
        rw [← Hq.out]
        cases hqb : isO l i with
        | true =>
          have HE := Lib.hid (HF.out.trans (Hhere.out hqb))
          clear hqb
          go_wp2_with fail
          rw [Exit.noGoto_ret]
          go_ret2
          exact ⟨by rw [HE.out]; simp [nv, hlt], hB3⟩
        | false =>
          have HE : RowKit.Hid (fst (isO l) i0 (l.length - i0) = fst (isO l) (i + 1) (l.length - (i + 1))) := Lib.hid (HF.out.trans (Hstep.out hqb))
          clear hqb
          go_wp2
          go_roundw
          case rel => exact ⟨i + 1, by omega, .inl (by omega), rfl, rfl, by go_num, HE, hB3⟩
          case measure => simp [intOf]; omega
      · have HE := Lib.hid (show fst (isO l) i0 (l.length - i0) = i by rw [HF.out, show l.length - i = 0 from by omega]; rfl)
        go_wp2_with fail
        rw [Exit.noGoto_ret]
        go_ret2
        exact ⟨by rw [HE.out]; simp [nv, hlt], hB⟩

theorem int_case (f : Int) : f < 0 ∧ f.toNat = 0 ∨ f = (f.toNat : Int) := by omega
set_option maxRecDepth 100000 in
theorem next_calls (A : Option Addr) (c : Nat) (l : List UInt8) (f : Int) (h63 : f ≤ 9223372036854775807) (w : World) (hr : RB w A c l) (hl : l.length ≤ 140737488355328) :
    Calls Try.prog 114 #[.slice A l.length c, .int .i64 f] w fun e w' => e = .returned (.tuple #[.int .i64 (nv l (nxt l f.toNat)), .bool (decide (nxt l f.toNat < l.length))]) ∧ Below w.heap.size w w' := by
  have hf := firstN_calls A c l f f.toNat (int_case f) h63 w hr hl
  rw [show fst (isF l) f.toNat (l.length - f.toNat) = nxt l f.toNat from rfl] at hf
  generalize nxt l f.toNat = j at *
  go_enter Try.func114, Try.ntmps114
  go_wp2_with fail
  refine hf.mono ?_
  rintro e w1 ⟨rfl, hB⟩
  go_wp2
  go_ret2
  exact ⟨rfl, hB⟩
set_option maxRecDepth 100000 in
theorem open_calls (A : Option Addr) (c : Nat) (l : List UInt8) (f : Int) (h63 : f ≤ 9223372036854775807) (w : World) (hr : RB w A c l) (hl : l.length ≤ 140737488355328) :
    Calls Try.prog 133 #[.slice A l.length c, .int .i64 f] w fun e w' => e = .returned (.tuple #[.int .i64 (nv l (opn l f.toNat)), .bool (decide (opn l f.toNat < l.length))]) ∧ Below w.heap.size w w' := by
  have hf := firstO_calls A c l f f.toNat (int_case f) h63 w hr hl
  rw [show fst (isO l) f.toNat (l.length - f.toNat) = opn l f.toNat from rfl] at hf
  generalize opn l f.toNat = j at *
  go_enter Try.func133, Try.ntmps133
  go_wp2_with fail
  refine hf.mono ?_
  rintro e w1 ⟨rfl, hB⟩
  go_wp2
  go_ret2
  exact ⟨rfl, hB⟩
end Go.Proofs.Ytepnillddlemaaa
