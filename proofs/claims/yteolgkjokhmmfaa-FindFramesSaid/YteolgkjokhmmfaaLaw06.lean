/- The statements of layer 6: the chapter's example. No condition. -/
import Derived.Test.YteolgkjokhmmfaaFind2
import Derived.Test.YteolgkjokhmmfaaLaw05
import Derived.Laws.OwnMore
set_option linter.unusedVariables false
set_option linter.unusedSimpArgs false
namespace Go.Proofs.Yteolgkjokhmmfaa
open Go.RowKit Go.Shelf TG TG.Crc
attribute [local go_sem] Oper.semAt_some

theorem wf_i64 {a : Int} (h : (Lit.int .i64 a).wf = true) : -9223372036854775808 ≤ a ∧ a ≤ 9223372036854775807 := by
  have h1 : IntKind.i64.min = -9223372036854775808 := rfl
  have h2 : IntKind.i64.max = 9223372036854775807 := rfl
  simp [Lit.wf, h1, h2] at h
  omega
theorem fp_x : (fp 2 [120]).length = 11 ∧ nxt (0 :: fp 2 [120]) 0 = 1 := by
  have h : nb 1 = [1] := nb_small (by decide)
  have hl : (fp 2 [120]).length = 11 := by rw [fp_length]; simp [h]
  refine ⟨hl, ?_⟩
  unfold nxt
  refine fst_eq _ _ _ _ (by omega) (by simp) ?_ ?_
  · intro k _ hk
    obtain rfl : k = 0 := by omega
    unfold isF wE
    have hm : mkE mark4 (0 :: fp 2 [120]) = 4 := by simp [mkE, mark4]
    rw [List.drop_zero, fgE_mark (by rw [hm]; decide), hm]
    rfl
  · intro _
    unfold isF wE
    have := (fg_put 2 (.inr rfl) [120] [] (by decide)).1
    rw [List.append_nil] at this
    rw [show (0 :: fp 2 [120]).drop 1 = fp 2 [120] from rfl, this]
    rfl
set_option maxRecDepth 100000 in
set_option maxHeartbeats 1000000 in
theorem fixed6_calls (w : World) :
    Calls Try.prog 40 #[] w fun e w' => e = .returned (.bool true) ∧ Below w.heap.size w w' := by
  have kc := fun (w : World) (C : Array Value) (n c : Nat) => Lib.run_convert_bytes_const (P := Try.prog) w 27 5 C n c Try.underlying27 Try.underlying5
  obtain ⟨h1, h2⟩ := fp_x
  go_enter Try.func40, Try.ntmps40
  go_wp2_with fail
  have hb : RB (w.alloc (.cells #[.int .u8 120] 5 (1, 2))) (some ⟨w.heap.size, 0, none⟩) 1 [120] := RB_newf _ _ _ _ _ rfl (by decide) _ (by decide)
  have hput := fput_calls 2 (.inr rfl) (some ⟨w.heap.size, 0, none⟩) 1 [120] _ hb (by decide)
  have hB0 : Below w.heap.size w (w.alloc (.cells #[.int .u8 120] 5 (1, 2))) := below_new (Below.refl _ _) _
  generalize fp 2 [120] = fo at *
  have hfl : fo.length ≤ 11 := by omega
  have hf1 : 1 ≤ fo.length := by omega
  clear h1
  clear hb
  refine hput.mono ?_
  rintro e w1 ⟨v1, rfl, hown1, hB1⟩
  obtain ⟨A1, c1, rfl⟩ := own_form hown1
  have hr1 := own_RB hown1 (by omega)
  have hB2 := below_new (below_chain hB0 hB1) (.cells #[.int .u8 0] 5)
  have hownl := World.ownsRow_lit (base := w.heap.size) (e := 5) (size := 1) w1 #[.int .u8 0] 1 (below_chain hB0 hB1).size (by decide) rfl
  clear hown1 hput
  obtain ⟨all, hall⟩ : ∃ all, all = [0] ++ fo := ⟨_, rfl⟩
  have hal1 : all.length ≤ 12 := by rw [hall]; simp; omega
  have hal2 : 2 ≤ all.length := by rw [hall]; simp; omega
  have hnx : nxt all 0 = 1 := by rw [hall]; exact h2
  have Hall := Lib.hid hall
  clear h2 hall
  go_wp2_with (at_builtin; go_loud (refine wpList_app8 rfl _ _ 27 rfl w.heap.size 5 Try.underlying27 info_u8 _ [0] rfl hownl A1 c1 fo rfl (hr1.alloc _) (by simp; omega) hB2.size ?_); intro A3 c3 w3 hown3 hgrow; rw [← Hall.out] at hown3 ⊢)
  have hr3 := own_RB hown3 (by omega)
  have hB3 := hB2.grown hgrow hB2.size (fun g hg => own_base hownl g hg)
  have hn := next_calls A3 c3 all 0 (by decide) w3 hr3 (by omega)
  rw [show nxt all (0 : Int).toNat = 1 from hnx, show nv all 1 = 1 from by unfold nv; rw [if_pos (by omega)], show decide (1 < all.length) = true from by simp; omega, show ((1 : Nat) : Int) = 1 from rfl] at hn
  clear hownl hown3 hgrow hr1 hr3 hnx Hall hal1 hal2
  refine hn.mono ?_
  rintro e w4 ⟨rfl, hB4⟩
  go_wp2
  go_ret
  exact ⟨rfl, below_chain hB3 hB4⟩
end Go.Proofs.Yteolgkjokhmmfaa
