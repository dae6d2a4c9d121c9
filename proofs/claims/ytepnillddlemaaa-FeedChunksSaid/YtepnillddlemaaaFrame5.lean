/- frame.Put and its reference refuse what may not be a frame; the reference's Get. Conditions stand in each theorem. -/
import Derived.Test.YtepnillddlemaaaFrame4
import Derived.Test.YtepnillddlemaaaMathFrame3
set_option linter.unusedVariables false
set_option linter.unusedSimpArgs false
namespace Go.Proofs.Ytepnillddlemaaa
open Go.RowKit Go.Shelf TG TG.Crc
attribute [local go_sem] Oper.semAt_some

set_option maxRecDepth 100000 in
theorem fput_kind (k : Int) (hk : ¬ (k = 1 ∨ k = 2)) (A : Option Addr) (c : Nat) (p : List UInt8) (w : World) (hr : RB w A c p) :
    Calls Try.prog 17 #[.agg #[.int .i64 k, .slice A p.length c]] w fun e w' => e = .returned (.tuple #[.slice none 0 0, .int .i64 1]) ∧ Below w.heap.size w w' := by
  have hkb : (k == 1 || k == 2) = false := by simp only [Bool.or_eq_false_iff, beq_eq_false_iff_ne]; omega
  have Hk := Lib.hid hk
  clear hk
  go_enter Try.func17, Try.ntmps17
  go_wp2_with fail
  refine (kind_calls _ _).mono ?_
  rintro r w4 ⟨rfl, rfl⟩
  rw [hkb]
  go_wp2
  exact bodyPost_ret (v := .tuple #[.slice none 0 0, .int .i64 1]) (by simp [results, Try.results17, go_sem]) rfl ⟨rfl, below_new (Below.refl _ _) _⟩
set_option maxRecDepth 100000 in
theorem fput_long (k : Int) (hk : k = 1 ∨ k = 2) (A : Option Addr) (c : Nat) (p : List UInt8) (w : World) (hr : RB w A c p) (hp : 4096 < p.length) :
    Calls Try.prog 17 #[.agg #[.int .i64 k, .slice A p.length c]] w fun e w' => e = .returned (.tuple #[.slice none 0 0, .int .i64 1]) ∧ Below w.heap.size w w' := by
  have hkb : (k == 1 || k == 2) = true := by rcases hk with rfl | rfl <;> rfl
  have hl := hr.2.1
  have Hk := Lib.hid hk
  clear hk
  go_enter Try.func17, Try.ntmps17
  go_wp2_with fail
  refine (kind_calls _ _).mono ?_
  rintro r w4 ⟨rfl, rfl⟩
  rw [hkb]
  go_wp2
  exact bodyPost_ret (v := .tuple #[.slice none 0 0, .int .i64 1]) (by simp [results, Try.results17, go_sem]) rfl ⟨rfl, below_new (Below.refl _ _) _⟩
set_option maxRecDepth 100000 in
theorem refput5_bad (k : Int) (A : Option Addr) (c : Nat) (p : List UInt8) (w : World) (hr : RB w A c p) (hk : k < 1 ∨ 2 < k ∨ (1 ≤ k ∧ k ≤ 2 ∧ 4096 < p.length)) :
    Calls Try.prog 82 #[.agg #[.int .i64 k, .slice A p.length c]] w fun e w' => e = .returned (.tuple #[.string (mk8 []), .int .i64 1]) ∧ Below w.heap.size w w' := by
  have hl := hr.2.1
  rcases hk with h1 | h1 | ⟨h1, h2, h3⟩
  all_goals
    go_enter Try.func82, Try.ntmps82
    go_wp2
    exact bodyPost_ret (v := .tuple #[.string (mk8 []), .int .i64 1]) (by simp [results, Try.results82, go_sem, mk8]) rfl ⟨rfl, below_new (Below.refl _ _) _⟩

/-- what frame.Get and its reference answer -/
def RG (w : World) (l : List UInt8) (e : Ending) (w' : World) : Prop :=
  ∃ A c, e = .returned (.tuple #[.agg #[.int .i64 (gK l), .slice A (gP l).length c], .int .i64 (gS l), .int .i64 (fgE l)]) ∧ RB w' A c (gP l) ∧ (∀ ad, A = some ad → w.heap.size ≤ ad.block) ∧ Below w.heap.size w w'
theorem RG.bad {w w' : World} {l : List UInt8} {e : Ending} {n : Nat} (h : fgE l = n) (hn : n ≠ 0) (he : e = .returned (.tuple #[.agg #[.int .i64 0, .slice none 0 0], .int .i64 0, .int .i64 n])) (hb : Below w.heap.size w w') : RG w l e w' := by
  obtain ⟨e1, e2, e3⟩ := g_none (l := l) (by omega)
  refine ⟨none, 0, ?_, by rw [e2]; exact RB.nil _ _, (fun _ h => by cases h), hb⟩
  rw [e1, e2, e3, h, he]
  rfl
theorem RG.good {w w' : World} {l P : List UInt8} {e : Ending} {K F c : Nat} {A : Option Addr} (h : fgE l = 0) (hK : fgK l = K) (hP : fgP l = P) (hF : fgB l = F) (he : e = .returned (.tuple #[.agg #[.int .i64 (K : Nat), .slice A P.length c], .int .i64 ((F : Int) + 4), .int .i64 0]))
    (hr : RB w' A c P) (hA : ∀ ad, A = some ad → w.heap.size ≤ ad.block) (hb : Below w.heap.size w w') : RG w l e w' := by
  obtain ⟨e1, e2, e3⟩ := g_some h
  rw [hK] at e1
  rw [hP] at e2
  rw [hF] at e3
  refine ⟨A, c, ?_, by rw [e2]; exact hr, hA, hb⟩
  rw [e1, e2, e3, h, he]
  rfl
end Go.Proofs.Ytepnillddlemaaa
