/- More functions of package frame and of its reference return what plain Lean says of their bytes. Conditions stand in each theorem. -/
import Derived.Test.YtepnillddlemaaaFrame
set_option linter.unusedVariables false
set_option linter.unusedSimpArgs false
namespace TG
theorem toList_loop (d : Array UInt8) : ∀ (n i : Nat) (r : List UInt8), d.size - i = n → ByteArray.toList.loop ⟨d⟩ i r = r.reverse ++ d.toList.drop i := by
  intro n
  induction n with
  | zero =>
    intro i r h
    unfold ByteArray.toList.loop
    rw [if_neg (by show ¬ i < d.size; omega), List.drop_eq_nil_of_le (by simp; omega), List.append_nil]
  | succ n ih =>
    intro i r h
    unfold ByteArray.toList.loop
    have hi : i < d.size := by omega
    rw [if_pos (show i < (ByteArray.mk d).size from hi), ih (i + 1) _ (by omega)]
    rw [List.drop_eq_getElem_cons (l := d.toList) (i := i) (by simpa using hi)]
    simp [ByteArray.get!, hi]
theorem mk8_toList (l : List UInt8) : (mk8 l).toList = l := by
  unfold ByteArray.toList
  rw [mk8, toList_loop l.toArray l.length 0 [] (by simp)]
  simp
attribute [go_sem] mk8_toList
end TG
namespace Go.Proofs.Ytepnillddlemaaa
open Go.RowKit Go.Shelf TG TG.Crc
attribute [local go_sem] Oper.semAt_some

set_option maxRecDepth 100000 in
theorem mark_calls (w : World) :
    Calls Try.prog 124 #[] w fun e w' => e = .returned (.string (mk8 [199, 84, 71, 1])) ∧ Below w.heap.size w w' := by
  have hcv := conv_new (P := Try.prog) w #[.int .u8 199, .int .u8 84, .int .u8 71, .int .u8 1] [199, 84, 71, 1] 4 4 25 9 5 Try.underlying25 Try.underlying5 Try.underlying9 rfl rfl (by decide)
  go_enter Try.func124, Try.ntmps124
  go_wp2
  go_ret
  exact ⟨rfl, (Below.refl _ _).alloc (Nat.le_refl _) _⟩

set_option maxRecDepth 100000 in
theorem bequal_calls (A : Option Addr) (c : Nat) (l : List UInt8) (A' : Option Addr) (c' : Nat) (l' : List UInt8) (w : World) (hr : RB w A c l) (hr' : RB w A' c' l') :
    Calls Try.prog 75 #[.slice A l.length c, .slice A' l'.length c'] w fun e w' => e = .returned (.bool (l == l')) ∧ w = w' := by
  have h1 := conv_str (P := Try.prog) 25 9 5 Try.underlying25 Try.underlying5 Try.underlying9 hr
  have h2 := conv_str (P := Try.prog) 25 9 5 Try.underlying25 Try.underlying5 Try.underlying9 hr'
  go_enter Try.func75, Try.ntmps75
  go_wp2
  go_ret
  exact ⟨rfl, rfl⟩

set_option maxRecDepth 100000 in
set_option maxHeartbeats 1000000 in
theorem bclone_calls (A : Option Addr) (c : Nat) (l : List UInt8) (w : World) (hr : RB w A c l) :
    Calls Try.prog 76 #[.slice A l.length c] w fun e w' => ∃ v, e = .returned v ∧ w'.ownsRow w.heap.size 5 1 v l.length (bc l) ∧ Below w.heap.size w w' := by
  obtain ⟨i0, hi, hz0, hz1, hz2⟩ := info_parts info_u8
  have hnil := @Lib.run_eql_slice_nil Try.prog
  cases A with
  | none =>
    have hl : l = [] := hr.2.2.1 rfl
    subst hl
    go_enter Try.func76, Try.ntmps76
    go_wp2
    go_ret
    exact ⟨_, rfl, World.ownsRow_nil _ _ _ _, Below.refl _ _⟩
  | some ad =>
    go_enter Try.func76, Try.ntmps76
    have hr1 := hr.alloc (.cells #[] 5)
    go_wp2_with (at_builtin; go_loud (refine wpList_append_own _ rfl _ _ 25 rfl w.heap.size 5 i0 (.int .u8 0) 1 1 Try.underlying25 hi hz0 hz1 hz2 rfl (by decide) _ 0 [] rfl (own_empty w 5 1) ad l.length c (bc l) rfl (by simp) hr1.news (bc_one l) (by simp only [maxLen]; have := hr.2.1; omega) (by have := hr.2.1; omega) (by simp) ?_); intro v' w1 hown' hgrow _)
    go_ret
    refine ⟨_, rfl, ?_, ?_⟩
    · simpa using hown'
    · exact ((Below.refl w.heap.size w).alloc (Nat.le_refl _) _).grown hgrow (by simp) (fun k e => by simp [Act.eval, Value.ownBlock] at e; omega)

set_option maxRecDepth 100000 in
theorem fsame_calls (k k' : Int) (A : Option Addr) (c : Nat) (l : List UInt8) (A' : Option Addr) (c' : Nat) (l' : List UInt8) (w : World) (hr : RB w A c l) (hr' : RB w A' c' l') :
    Calls Try.prog 77 #[.agg #[.int .i64 k, .slice A l.length c], .agg #[.int .i64 k', .slice A' l'.length c']] w fun e w' => e = .returned (.bool (k == k' && l == l')) ∧ Below w.heap.size w w' := by
  have hB : Below w.heap.size w ((w.alloc (.cells #[.int .i64 k, .slice A l.length c] 29)).alloc (.cells #[.int .i64 k', .slice A' l'.length c'] 29)) := below_new (below_new (Below.refl _ _) _) _
  have h1 := conv_str (P := Try.prog) 25 9 5 Try.underlying25 Try.underlying5 Try.underlying9 (hr.below hB)
  have h2 := conv_str (P := Try.prog) 25 9 5 Try.underlying25 Try.underlying5 Try.underlying9 (hr'.below hB)
  by_cases hk : k = k'
  · subst hk
    go_enter Try.func77, Try.ntmps77
    go_wp2
    go_ret
    exact ⟨by simp, hB⟩
  · have hkb : (k == k') = false := beq_eq_false_iff_ne.2 hk
    go_enter Try.func77, Try.ntmps77
    go_wp2
    go_ret
    exact ⟨by simp [hkb], hB⟩

end Go.Proofs.Ytepnillddlemaaa
