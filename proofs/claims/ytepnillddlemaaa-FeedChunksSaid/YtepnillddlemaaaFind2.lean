/- find.At, find.Count and the references of layer 6. Conditions stand in each theorem. -/
import Derived.Test.YtepnillddlemaaaFind
import Derived.Test.YtepnillddlemaaaFrame6
set_option linter.unusedVariables false
set_option linter.unusedSimpArgs false
namespace Go.Proofs.Ytepnillddlemaaa
open Go.RowKit Go.Shelf TG TG.Crc
attribute [local go_sem] Oper.semAt_some

set_option maxRecDepth 100000 in
set_option maxHeartbeats 1000000 in
theorem at_calls (A : Option Addr) (c : Nat) (l : List UInt8) (i : Nat) (hil : i ≤ l.length) (w : World) (hr : RB w A c l) (hl : l.length ≤ 140737488355328) :
    Calls Try.prog 100 #[.slice A l.length c, .int .i64 i] w (RG w (l.drop i)) := by
  have hlc := hr.1
  obtain ⟨i1, hi, hz0, hz1, hz2⟩ := info_parts info_u8
  obtain ⟨A1, c1, hcut, hrc, hbc⟩ := cut_l (P := Try.prog) 25 5 Try.underlying25 hi hz1 A c l i hil hlc
  have hr1 := hrc _ (hr.alloc (.cells #[.int .i64 0, .slice none 0 0] 29))
  have hget := fget_calls A1 c1 (l.drop i) _ hr1 (by simp; omega)
  have hbx := Blk.new w 29 [.int .i64 0, .slice none 0 0]
  have j1 : (0 : Int) ≤ (i : Int) := Int.natCast_nonneg _
  have j2 : (i : Int) ≤ (l.length : Int) := by omega
  have Hget := Lib.hid hget
  have Hbx := Lib.hid hbx
  generalize l.drop i = dl at *
  clear hget hbx hrc hbc hr1
  go_enter Try.func100, Try.ntmps100
  go_wp2_with fail
  refine Hget.out.mono ?_
  rintro e w1 ⟨A2, c2, rfl, hr2, hn2, hB2⟩
  have hX := Blk.below (show Blk (w.alloc (.cells #[.int .i64 0, .slice none 0 0] 29)) w.heap.size 29 [.int .i64 0, .slice none 0 0] from Hbx.out) hB2
  have c20 := hX.cell 0
  have c21 := hX.cell 1
  have f20 := hX.frozen 0
  have f21 := hX.frozen 1
  have hlt := hX.lt
  simp only [List.getElem?_cons_zero, List.getElem?_cons_succ] at c20 c21
  have HB := Lib.hid (below_chain (below_new (Below.refl w.heap.size w) (.cells #[.int .i64 0, .slice none 0 0] 29)) hB2)
  have HR := Lib.hid hr2
  have HN := Lib.hid hn2
  clear hX hB2 hr2 hn2 hcut
  go_wp2
  exact bodyPost_ret (v := .tuple #[.agg #[.int .i64 (gK dl), .slice A2 (gP dl).length c2], .int .i64 (gS dl), .int .i64 (fgE dl)]) (by simp [results, Try.results100, go_sem, c20, c21, f20, f21]) rfl
    ⟨A2, c2, rfl, RB.kept (base := 0) (RB.kept (base := 0) HR.out (fun ad h => by have := HN.out ad h; simp at this ⊢; omega) (grown_set _ _ _ _)) (fun ad h => by have := HN.out ad h; simp at this ⊢; omega) (grown_set _ _ _ _), fun ad h => by have := HN.out ad h; simp at this; omega, (HB.out.setCell (by simp) _).setCell (by simp) _⟩
set_option maxRecDepth 100000 in
theorem at_bad (A : Option Addr) (c : Nat) (l : List UInt8) (i : Int) (hil : i < 0 ∨ (l.length : Int) < i) (w : World) :
    Calls Try.prog 100 #[.slice A l.length c, .int .i64 i] w fun e w' => e = .returned (.tuple #[.agg #[.int .i64 0, .slice none 0 0], .int .i64 0, .int .i64 1]) ∧ Below w.heap.size w w' := by
  rcases hil with h | h
  all_goals
    go_enter Try.func100, Try.ntmps100
    go_wp2
    exact bodyPost_ret (v := .tuple #[.agg #[.int .i64 0, .slice none 0 0], .int .i64 0, .int .i64 1]) (by simp [results, Try.results100, go_sem]) rfl ⟨rfl, by repeat (first | exact below_new (Below.refl _ _) _ | refine Below.setCell ?_ (by simp) _)⟩

/-- what holds ahead of a round of Count -/
def CntRel (l : List UInt8) (n x y : Value) : Prop :=
  (∃ (m j : Nat), n = .int .i64 m ∧ x = .int .i64 j ∧ y = .bool true ∧ j < l.length ∧ m + 1 + cntFrom l (j + 1) = cnt l) ∨ (n = .int .i64 (cnt l) ∧ x = .int .i64 0 ∧ y = .bool false)
theorem cnt_le (l : List UInt8) : cnt l ≤ l.length := by
  unfold cnt
  have := List.countP_le_length (p := isF l) (l := List.range l.length)
  simpa using this
theorem CntRel.next (l : List UInt8) (m i : Nat) (h : m + cntFrom l i = cnt l) : CntRel l (.int .i64 m) (.int .i64 (nv l (nxt l i))) (.bool (decide (nxt l i < l.length))) := by
  have := cntFrom_next l _ i rfl
  by_cases hn : nxt l i < l.length
  · rw [if_pos hn] at this
    exact .inl ⟨m, nxt l i, rfl, by simp [nv, hn], by simp [hn], hn, by omega⟩
  · rw [if_neg hn] at this
    have e : m = cnt l := by omega
    exact .inr ⟨by rw [e], by simp [nv, hn], by simp [hn]⟩
def cntMu (l : List UInt8) (x y : Value) : Nat := match y with
  | .bool true => l.length - (intOf x).toNat + 1
  | _ => 0

/-- a place that is told, or -1 -/
def pv (l : List UInt8) (j : Nat) : Int := if j < l.length then (j : Int) else -1
def fstM (q : Nat → Bool) (n f i : Nat) : Nat := fst q (max f i) (n - max f i)

end Go.Proofs.Ytepnillddlemaaa
