/- The statements of layer 5: the chapter's example. No condition. -/
import Derived.Test.YtepnillddlemaaaFrame6
import Derived.Test.YtepnillddlemaaaFrame7
set_option linter.unusedVariables false
set_option linter.unusedSimpArgs false
namespace Go.Proofs.Ytepnillddlemaaa
open Go.RowKit Go.Shelf TG TG.Crc
attribute [local go_sem] Oper.semAt_some

theorem fp_ten : (fp 1 []).length = 10 ∧ (fp 1 []).take 6 = [199, 84, 71, 1, 1, 0] := by
  have h : nb 0 = [0] := nb_small (by decide)
  refine ⟨by rw [fp_length]; simp [h], ?_⟩
  unfold fp fb
  simp [h]
end Go.Proofs.Ytepnillddlemaaa
