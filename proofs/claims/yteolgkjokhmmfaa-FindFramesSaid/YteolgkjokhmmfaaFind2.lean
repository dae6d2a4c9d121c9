/- find.At, find.Count and the references of layer 6. Conditions stand in each theorem. -/
import Derived.Test.YteolgkjokhmmfaaFind
import Derived.Test.YteolgkjokhmmfaaFrame6
set_option linter.unusedVariables false
set_option linter.unusedSimpArgs false
namespace Go.Proofs.Yteolgkjokhmmfaa
open Go.RowKit Go.Shelf TG TG.Crc
attribute [local go_sem] Oper.semAt_some

set_option maxRecDepth 100000 in
set_option maxHeartbeats 1000000 in
theorem at_calls (A : Option Addr) (c : Nat) (l : List UInt8) (i : Nat) (hil : i ≤ l.length) (w : World) (hr : RB w A c l) (hl : l.length ≤ 140737488355328) :
    Calls Try.prog 41 #[.slice A l.length c, .int .i64 i] w (RG w (l.drop i)) := by
  have hlc := hr.1
  obtain ⟨i1, hi, hz0, hz1, hz2⟩ := info_parts info_u8
  obtain ⟨A1, c1, hcut, hrc, hbc⟩ := cut_l (P := Try.prog) 27 5 Try.underlying27 hi hz1 A c l i hil hlc
  have hr1 := hrc _ (hr.alloc (.cells #[.int .i64 0, .slice none 0 0] 39))
  have hget := fget_calls A1 c1 (l.drop i) _ hr1 (by simp; omega)
  have hbx := Blk.new w 39 [.int .i64 0, .slice none 0 0]
  have j1 : (0 : Int) ≤ (i : Int) := Int.natCast_nonneg _
  have j2 : (i : Int) ≤ (l.length : Int) := by omega
  have Hget := Lib.hid hget
  have Hbx := Lib.hid hbx
  generalize l.drop i = dl at *
  clear hget hbx hrc hbc hr1
  go_enter Try.func41, Try.ntmps41
  go_wp2_with fail
  refine Hget.out.mono ?_
  rintro e w1 ⟨A2, c2, rfl, hr2, hn2, hB2⟩
  have hX := Blk.below (show Blk (w.alloc (.cells #[.int .i64 0, .slice none 0 0] 39)) w.heap.size 39 [.int .i64 0, .slice none 0 0] from Hbx.out) hB2
  have c20 := hX.cell 0
  have c21 := hX.cell 1
  have f20 := hX.frozen 0
  have f21 := hX.frozen 1
  have hlt := hX.lt
  simp only [List.getElem?_cons_zero, List.getElem?_cons_succ] at c20 c21
  have HB := Lib.hid (below_chain (below_new (Below.refl w.heap.size w) (.cells #[.int .i64 0, .slice none 0 0] 39)) hB2)
  have HR := Lib.hid hr2
  have HN := Lib.hid hn2
  clear hX hB2 hr2 hn2 hcut
  go_wp2
  exact bodyPost_ret (v := .tuple #[.agg #[.int .i64 (gK dl), .slice A2 (gP dl).length c2], .int .i64 (gS dl), .int .i64 (fgE dl)]) (by simp [results, Try.results41, go_sem, c20, c21, f20, f21]) rfl
    ⟨A2, c2, rfl, RB.kept (base := 0) (RB.kept (base := 0) HR.out (fun ad h => by have := HN.out ad h; simp at this ⊢; omega) (grown_set _ _ _ _)) (fun ad h => by have := HN.out ad h; simp at this ⊢; omega) (grown_set _ _ _ _), fun ad h => by have := HN.out ad h; simp at this; omega, (HB.out.setCell (by simp) _).setCell (by simp) _⟩
set_option maxRecDepth 100000 in
theorem at_bad (A : Option Addr) (c : Nat) (l : List UInt8) (i : Int) (hil : i < 0 ∨ (l.length : Int) < i) (w : World) :
    Calls Try.prog 41 #[.slice A l.length c, .int .i64 i] w fun e w' => e = .returned (.tuple #[.agg #[.int .i64 0, .slice none 0 0], .int .i64 0, .int .i64 1]) ∧ Below w.heap.size w w' := by
  rcases hil with h | h
  all_goals
    go_enter Try.func41, Try.ntmps41
    go_wp2
    exact bodyPost_ret (v := .tuple #[.agg #[.int .i64 0, .slice none 0 0], .int .i64 0, .int .i64 1]) (by simp [results, Try.results41, go_sem]) rfl ⟨rfl, by repeat (first | exact below_new (Below.refl _ _) _ | refine Below.setCell ?_ (by simp) _)⟩

/-- what holds ahead of a round of Count -/
def CntRel (l : List UInt8) (n x y : Value) : Prop :=
  (∃ (m j : Nat), n = .int .i64 m ∧ x = .int .i64 j ∧ y = .bool true ∧ j < l.length ∧ m + 1 + cntFrom l (j + 1) = cnt l) ∨ (n = .int .i64 (cnt l) ∧ x = .int .i64 0 ∧ y = .bool false)
theorem cnt_le (l : List UInt8) : cnt l ≤ l.length := by
  unfold cnt
  have := List.countP_le_length (p := isF l) (l := List.range l.length)
  simpa using this
theorem CntRel.next (l : List UInt8) (m i : Nat) (h : m + cntFrom l i = cnt l) : CntRel l (.int .i64 m) (.int .i64 (nv l (nxt l i))) (.bool (decide (nxt l i < l.length))) := by
  have := cntFrom_next l _ i rfl
  by_cases hn : nxt l i < l.length
  · rw [if_pos hn] at this
    exact .inl ⟨m, nxt l i, rfl, by simp [nv, hn], by simp [hn], hn, by omega⟩
  · rw [if_neg hn] at this
    have e : m = cnt l := by omega
    exact .inr ⟨by rw [e], by simp [nv, hn], by simp [hn]⟩
def cntMu (l : List UInt8) (x y : Value) : Nat := match y with
  | .bool true => l.length - (intOf x).toNat + 1
  | _ => 0

set_option maxRecDepth 100000 in
set_option maxHeartbeats 1000000 in
theorem count_calls (A : Option Addr) (c : Nat) (l : List UInt8) (w : World) (hr : RB w A c l) (hl : l.length ≤ 140737488355328) :
    Calls Try.prog 45 #[.slice A l.length c] w fun e w' => e = .returned (.int .i64 (cnt l)) ∧ Below w.heap.size w w' := by
  go_enter Try.func45, Try.ntmps45
  go_wp2_with fail
  refine (next_calls A c l 0 (by decide) w hr hl).mono ?_
  rintro e w1 ⟨rfl, hB1⟩
  have hrel0 := CntRel.next l 0 0 (by rw [cntFrom_zero]; omega)
  have HR0 := Lib.hid hrel0
  clear hrel0
  rw [show (0 : Int).toNat = 0 from rfl]
  go_wp2_with fail
  go_loopw [3, 4, 5] (fun n x y wr => CntRel l n x y ∧ Below w.heap.size w wr) (fun n x y wr => cntMu l x y)
  case atStart => exact ⟨HR0.out, hB1⟩
  case round =>
    obtain ⟨hR, hB⟩ := hrel
    rcases hR with ⟨m, j, rfl, rfl, rfl, hj, hm⟩ | ⟨rfl, rfl, rfl⟩
    · have hnx := CntRel.next l (m + 1) (j + 1) hm
      have hcl := cnt_le l
      have hmb : m ≤ 140737488355328 := by omega
      have hge := nxt_ge l (j + 1)
      have hcall := next_calls A c l ((j : Int) + 1) (by omega) wr (hr.below hB) hl
      rw [show ((j : Int) + 1).toNat = j + 1 from by omega] at hcall
      have hmu : cntMu l (.int .i64 (nv l (nxt l (j + 1)))) (.bool (decide (nxt l (j + 1) < l.length))) < cntMu l (.int .i64 j) (.bool true) := by
        by_cases hn : nxt l (j + 1) < l.length
        · simp [cntMu, nv, hn, intOf]; omega
        · simp [cntMu, hn, intOf]
      have HN := Lib.hid hnx
      have HMU := Lib.hid hmu
      clear hnx hm hmu
      generalize nv l (nxt l (j + 1)) = v at *
      generalize decide (nxt l (j + 1) < l.length) = b at *
      clear hge
      go_wp2_with fail
      refine hcall.mono ?_
      rintro e w3 ⟨rfl, hB3⟩
      have hB4 := below_chain hB hB3
      go_wp2
      go_roundw
      case rel => exact ⟨by have := HN.out; simpa using this, hB4⟩
      case measure => exact HMU.out
    · go_wp2
      go_ret
      exact ⟨rfl, hB⟩

set_option maxRecDepth 100000 in
theorem why_calls (l : List UInt8) (i : Nat) (hil : i ≤ l.length) (w : World) (hl : l.length ≤ 1000000) :
    Calls Try.prog 113 #[.string (mk8 l), .int .i64 i] w fun e w' => e = .returned (.int .i64 (wE l i)) ∧ Below w.heap.size w w' := by
  have hex := mk8_drop l i hil
  have hget := refget5_calls (l.drop i) w (by simp; omega)
  have hE : fgE (l.drop i) = wE l i := rfl
  have j1 : (0 : Int) ≤ (i : Int) := Int.natCast_nonneg _
  have j2 : (i : Int) ≤ (l.length : Int) := by omega
  have Hget := Lib.hid hget
  have HE := Lib.hid hE
  generalize l.drop i = dl at *
  clear hget hE
  go_enter Try.func113, Try.ntmps113
  go_wp2_with fail
  refine Hget.out.mono ?_
  rintro e w1 ⟨A2, c2, rfl, hr2, hn2, hB2⟩
  rw [HE.out]
  have HB := Lib.hid (below_new hB2 (.cells #[.int .i64 (gK dl), .slice A2 (gP dl).length c2] 39))
  clear hr2 hn2 hB2 hex
  go_wp2
  go_ret
  exact ⟨rfl, HB.out⟩
/-- a place that is told, or -1 -/
def pv (l : List UInt8) (j : Nat) : Int := if j < l.length then (j : Int) else -1
def fstM (q : Nat → Bool) (n f i : Nat) : Nat := fst q (max f i) (n - max f i)

set_option maxRecDepth 100000 in
set_option maxHeartbeats 1000000 in
theorem refnext_calls (l : List UInt8) (f : Int) (o : Bool) (w : World) (hl : l.length ≤ 1000000) (q : Nat → Bool) (hq : ∀ i, q i = ((wE l i : Int) == 0 || (o && (wE l i : Int) == 2))) :
    Calls Try.prog 44 #[.string (mk8 l), .int .i64 f, .bool o] w fun e w' => e = .returned (.int .i64 (pv l (fst q f.toNat (l.length - f.toNat)))) ∧ Below w.heap.size w w' := by
  have hst : fst q f.toNat (l.length - f.toNat) = fstM q l.length f.toNat 0 := by unfold fstM; rw [Nat.max_zero]
  rw [hst]
  have Hq := Lib.hid hq
  clear hst hq
  go_enter Try.func44, Try.ntmps44
  go_wp2_with fail
  go_loopw [7] (fun x wr => ∃ i : Nat, i ≤ l.length ∧ x = .int .i64 i ∧ Hid (fstM q l.length f.toNat 0 = fstM q l.length f.toNat i) ∧ Below w.heap.size w wr) (fun x _ => l.length - (intOf x).toNat)
  case atStart => exact ⟨0, by omega, rfl, rfl, Below.refl _ _⟩
  case round =>
    obtain ⟨i, hil, rfl, HF, hB⟩ := hrel
    by_cases hlt : i < l.length
    · by_cases hfi : (i : Int) < f
      · have HE : RowKit.Hid (fstM q l.length f.toNat 0 = fstM q l.length f.toNat (i + 1)) := Lib.hid (by rw [HF.out]; unfold fstM; rw [show max f.toNat i = f.toNat from by omega, show max f.toNat (i + 1) = f.toNat from by omega])
        go_wp2
        go_roundw
        case rel => exact ⟨i + 1, by omega, by go_num, HE, hB⟩
        case measure => simp [intOf]; omega
      · have hmx : fstM q l.length f.toNat i = fst q i ((l.length - (i + 1)) + 1) := by unfold fstM; rw [show max f.toNat i = i from by omega, show l.length - i = (l.length - (i + 1)) + 1 from by omega]
        have hmx2 : fstM q l.length f.toNat (i + 1) = fst q (i + 1) (l.length - (i + 1)) := by unfold fstM; rw [show max f.toNat (i + 1) = i + 1 from by omega]
        have hw := why_calls l i (by omega) wr hl
        have hqi := Hq.out i
        cases hqb : q i with
        | true =>
          have HE := Lib.hid (show fstM q l.length f.toNat 0 = i by rw [HF.out, hmx, fst_here _ _ _ hqb])
          rw [hqb] at hqi
          have hc : ((wE l i : Int) == 0) = true ∨ ((wE l i : Int) == 0) = false ∧ o = true ∧ ((wE l i : Int) == 2) = true := by
            cases h1 : ((wE l i : Int) == 0) with
            | true => exact .inl rfl
            | false => rw [h1] at hqi; simp at hqi; exact .inr ⟨rfl, hqi.1, by simpa using hqi.2⟩
          clear hqi hqb hmx hmx2
          rcases hc with b1 | ⟨b1, rfl, b2⟩
          all_goals
            go_wp2_with fail
            refine hw.mono ?_
            rintro e w3 ⟨rfl, hB3⟩
            have hB4 := below_chain hB hB3
            generalize wE l i = E at *
            go_wp2
            go_ret
            exact ⟨by rw [HE.out]; simp [pv, hlt], hB4⟩
        | false =>
          have HE : RowKit.Hid (fstM q l.length f.toNat 0 = fstM q l.length f.toNat (i + 1)) := Lib.hid (by rw [HF.out, hmx, fst_step _ _ _ hqb, hmx2])
          rw [hqb] at hqi
          have hc : ((wE l i : Int) == 0) = false ∧ (o = false ∨ o = true ∧ ((wE l i : Int) == 2) = false) := by
            cases h1 : ((wE l i : Int) == 0) with
            | true => rw [h1] at hqi; simp at hqi
            | false =>
              rw [h1] at hqi
              cases o with
              | false => exact ⟨rfl, .inl rfl⟩
              | true => exact ⟨rfl, .inr ⟨rfl, by simpa using hqi.symm⟩⟩
          clear hqi hqb hmx hmx2
          obtain ⟨b1, rfl | ⟨rfl, b2⟩⟩ := hc
          all_goals
            go_wp2_with fail
            refine hw.mono ?_
            rintro e w3 ⟨rfl, hB3⟩
            have hB4 := below_chain hB hB3
            generalize wE l i = E at *
            go_wp2
            go_roundw
            case rel => exact ⟨i + 1, by omega, by go_num, HE, hB4⟩
            case measure => simp [intOf]; omega
    · have HE := Lib.hid (show pv l (fstM q l.length f.toNat 0) = -1 by
        rw [HF.out]; unfold pv fstM; rw [if_neg]
        have := fst_ge q (l.length - max f.toNat i) (max f.toNat i); omega)
      go_wp2
      go_ret
      exact ⟨by rw [HE.out]; rfl, hB⟩

set_option maxRecDepth 100000 in
set_option maxHeartbeats 1000000 in
theorem refcount_calls (l : List UInt8) (w : World) (hl : l.length ≤ 1000000) :
    Calls Try.prog 46 #[.string (mk8 l)] w fun e w' => e = .returned (.int .i64 (cnt l)) ∧ Below w.heap.size w w' := by
  have hcl := cnt_le l
  go_enter Try.func46, Try.ntmps46
  go_wp2_with fail
  go_loopw [3, 4] (fun n x wr => ∃ i m : Nat, i ≤ l.length ∧ m ≤ i ∧ n = .int .i64 m ∧ x = .int .i64 i ∧ Hid (m + cntFrom l i = cnt l) ∧ Below w.heap.size w wr) (fun _ x _ => l.length - (intOf x).toNat)
  case atStart => exact ⟨0, 0, by omega, by omega, rfl, rfl, Lib.hid (by rw [cntFrom_zero]; omega), Below.refl _ _⟩
  case round =>
    obtain ⟨i, m, hil, hmi, rfl, rfl, HM, hB⟩ := hrel
    by_cases hlt : i < l.length
    · have hw := why_calls l i (by omega) wr hl
      have hc : cntFrom l i = (if isF l i then 1 else 0) + cntFrom l (i + 1) := by
        unfold cntFrom
        rw [show l.length - i = (l.length - (i + 1)) + 1 from by omega, List.range'_succ, List.countP_cons]
        omega
      by_cases hE : wE l i = 0
      · have hF : isF l i = true := by simp [isF, hE]
        have HN : RowKit.Hid (m + 1 + cntFrom l (i + 1) = cnt l) := Lib.hid (by have := HM.out; rw [hc, if_pos hF] at this; omega)
        have b1 : ((wE l i : Int) == 0) = true := by rw [beq_iff_eq]; omega
        clear hc hF hE
        go_wp2_with fail
        refine hw.mono ?_
        rintro e w3 ⟨rfl, hB3⟩
        have hB4 := below_chain hB hB3
        generalize wE l i = E at *
        go_wp2
        go_roundw
        case rel => exact ⟨i + 1, m + 1, by omega, by omega, by go_num, by go_num, HN, hB4⟩
        case measure => simp [intOf]; omega
      · have hF : ¬ isF l i = true := by simp [isF, hE]
        have HN : RowKit.Hid (m + cntFrom l (i + 1) = cnt l) := Lib.hid (by have := HM.out; rw [hc, if_neg hF] at this; omega)
        have b1 : ((wE l i : Int) == 0) = false := by rw [beq_eq_false_iff_ne]; omega
        clear hc hF hE
        go_wp2_with fail
        refine hw.mono ?_
        rintro e w3 ⟨rfl, hB3⟩
        have hB4 := below_chain hB hB3
        generalize wE l i = E at *
        go_wp2
        go_roundw
        case rel => exact ⟨i + 1, m, by omega, by omega, rfl, by go_num, HN, hB4⟩
        case measure => simp [intOf]; omega
    · have HE := Lib.hid (show m = cnt l by have := HM.out; unfold cntFrom at this; rw [show l.length - i = 0 from by omega] at this; simpa using this)
      go_wp2
      go_ret
      exact ⟨by rw [HE.out]; rfl, hB⟩
end Go.Proofs.Yteolgkjokhmmfaa
