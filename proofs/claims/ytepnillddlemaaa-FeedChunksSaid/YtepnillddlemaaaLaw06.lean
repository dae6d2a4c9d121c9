/- The statements of layer 6: the chapter's example. No condition. -/
import Derived.Test.YtepnillddlemaaaFind2
import Derived.Test.YtepnillddlemaaaLaw05
import Derived.Laws.OwnMore
set_option linter.unusedVariables false
set_option linter.unusedSimpArgs false
namespace Go.Proofs.Ytepnillddlemaaa
open Go.RowKit Go.Shelf TG TG.Crc
attribute [local go_sem] Oper.semAt_some

theorem wf_i64 {a : Int} (h : (Lit.int .i64 a).wf = true) : -9223372036854775808 ≤ a ∧ a ≤ 9223372036854775807 := by
  have h1 : IntKind.i64.min = -9223372036854775808 := rfl
  have h2 : IntKind.i64.max = 9223372036854775807 := rfl
  simp [Lit.wf, h1, h2] at h
  omega
theorem fp_x : (fp 2 [120]).length = 11 ∧ nxt (0 :: fp 2 [120]) 0 = 1 := by
  have h : nb 1 = [1] := nb_small (by decide)
  have hl : (fp 2 [120]).length = 11 := by rw [fp_length]; simp [h]
  refine ⟨hl, ?_⟩
  unfold nxt
  refine fst_eq _ _ _ _ (by omega) (by simp) ?_ ?_
  · intro k _ hk
    obtain rfl : k = 0 := by omega
    unfold isF wE
    have hm : mkE mark4 (0 :: fp 2 [120]) = 4 := by simp [mkE, mark4]
    rw [List.drop_zero, fgE_mark (by rw [hm]; decide), hm]
    rfl
  · intro _
    unfold isF wE
    have := (fg_put 2 (.inr rfl) [120] [] (by decide)).1
    rw [List.append_nil] at this
    rw [show (0 :: fp 2 [120]).drop 1 = fp 2 [120] from rfl, this]
    rfl
end Go.Proofs.Ytepnillddlemaaa
