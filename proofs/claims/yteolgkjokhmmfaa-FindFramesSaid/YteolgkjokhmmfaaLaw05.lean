/- The statements of layer 5: the chapter's example. No condition. -/
import Derived.Test.YteolgkjokhmmfaaFrame6
import Derived.Test.YteolgkjokhmmfaaFrame7
set_option linter.unusedVariables false
set_option linter.unusedSimpArgs false
namespace Go.Proofs.Yteolgkjokhmmfaa
open Go.RowKit Go.Shelf TG TG.Crc
attribute [local go_sem] Oper.semAt_some

theorem fp_ten : (fp 1 []).length = 10 ∧ (fp 1 []).take 6 = [199, 84, 71, 1, 1, 0] := by
  have h : nb 0 = [0] := nb_small (by decide)
  refine ⟨by rw [fp_length]; simp [h], ?_⟩
  unfold fp fb
  simp [h]
set_option maxRecDepth 100000 in
set_option maxHeartbeats 1000000 in
theorem fixed5_calls (w : World) :
    Calls Try.prog 33 #[] w fun e w' => e = .returned (.bool true) ∧ Below w.heap.size w w' := by
  obtain ⟨h1, h2⟩ := fp_ten
  have hput := fput_calls 1 (.inl rfl) none 0 [] w (RB.nil _ _) (by simp)
  rw [h1] at hput
  go_enter Try.func33, Try.ntmps33
  go_wp2_with fail
  refine hput.mono ?_
  rintro e w1 ⟨v, rfl, hown, hB⟩
  obtain ⟨A, c, rfl⟩ := own_form hown
  have hown' : w1.ownsRow w.heap.size 5 1 (.slice A 10 c) (fp 1 []).length (bc (fp 1 [])) := by rw [h1]; exact hown
  have hr : RB w1 A c ((fp 1 []).take 6) := (own_RB (l := fp 1 []) (by rw [h1]; rw [h1] at hown'; exact hown') (by rw [h1]; decide)).take 6 (by rw [h1]; decide)
  rw [h2] at hr
  have hcv := conv_str (P := Try.prog) 27 9 5 Try.underlying27 Try.underlying5 Try.underlying9 hr
  rw [show ([199, 84, 71, 1, 1, 0] : List UInt8).length = 6 from rfl] at hcv
  have hc6 : 10 ≤ c := by have := (own_RB (l := fp 1 []) (by rw [h1]; rw [h1] at hown'; exact hown') (by rw [h1]; decide)).1; rw [h1] at this; exact this
  have hci : (6 : Int) ≤ (c : Int) := by omega
  clear hown hown' hr h1 h2 hput
  go_wp2_with fail
  go_ret
  exact ⟨rfl, hB⟩
end Go.Proofs.Yteolgkjokhmmfaa
