/- The statements of layer 7: the chapter's example. No condition. -/
import Derived.Test.YtepnillddlemaaaRef07b
set_option linter.unusedVariables false
set_option linter.unusedSimpArgs false
namespace Go.Proofs.Ytepnillddlemaaa
open Go.RowKit Go.Shelf TG TG.Crc
attribute [local go_sem] Oper.semAt_some

theorem sgs_x : sgs (0 :: 0 :: fp 2 []) 0 = [⟨0, 2, false, 0, []⟩, ⟨2, (fp 2 []).length, true, 2, []⟩] := by
  have hput := fg_put 2 (.inr rfl) [] [] (by decide)
  rw [List.append_nil] at hput
  have hl : (fp 2 []).length = 10 := by rw [fp_length]; simp [nb_small (show 0 < 128 by decide)]
  have hd : (0 :: 0 :: fp 2 []).drop 2 = fp 2 [] := rfl
  have hm0 : mkE mark4 (0 :: 0 :: fp 2 []) = 4 := by simp [mkE, mark4]
  have hm1 : mkE mark4 (0 :: fp 2 []) = 4 := by simp [mkE, mark4]
  have hn : nxt (0 :: 0 :: fp 2 []) 0 = 2 := by
    unfold nxt
    refine fst_eq _ _ _ _ (by omega) (by simp) ?_ ?_
    · intro k _ hk
      have : k = 0 ∨ k = 1 := by omega
      rcases this with rfl | rfl
      · unfold isF wE
        rw [List.drop_zero, fgE_mark (by rw [hm0]; decide), hm0]
        rfl
      · unfold isF wE
        rw [show (0 :: 0 :: fp 2 []).drop 1 = 0 :: fp 2 [] from rfl, fgE_mark (by rw [hm1]; decide), hm1]
        rfl
    · intro _
      unfold isF wE
      rw [hd, hput.1]
      rfl
  rw [sgs_next _ _ (by simp) (by rw [hn]; simp [hl]), hn, if_pos (by decide), sgs_end _ _ (by rw [hd, hput.2.2.2]; simp; omega)]
  simp [frm, skp, hput.2.1, hput.2.2.1, hput.2.2.2]
set_option maxRecDepth 100000 in
set_option maxHeartbeats 1000000 in
theorem fixed7_calls (w : World) :
    Calls Try.prog 15 #[] w fun e w' => e = .returned (.bool true) ∧ Below w.heap.size w w' := by
  have hx := sgs_x
  have hl : (fp 2 []).length = 10 := by rw [fp_length]; simp [nb_small (show 0 < 128 by decide)]
  go_enter Try.func15, Try.ntmps15
  go_wp2_with fail
  have hput := fput_calls 2 (.inr rfl) none 0 [] w (RB.nil _ _) (by decide)
  obtain ⟨all, hall⟩ : ∃ all, all = [0, 0] ++ fp 2 [] := ⟨_, rfl⟩
  rw [show 0 :: 0 :: fp 2 [] = all from by rw [hall]; rfl, hl] at hx
  generalize fp 2 [] = fo at *
  have hfl : fo.length ≤ 11 := by omega
  refine hput.mono ?_
  rintro e w1 ⟨v1, rfl, hown1, hB1⟩
  obtain ⟨A1, c1, rfl⟩ := own_form hown1
  have hr1 := own_RB hown1 (by omega)
  have hB2 := below_new hB1 (.cells #[.int .u8 0, .int .u8 0] 5)
  have hownl := World.ownsRow_lit (base := w.heap.size) (e := 5) (size := 1) w1 #[.int .u8 0, .int .u8 0] 2 hB1.size (by decide) rfl
  have hal1 : all.length ≤ 13 := by rw [hall]; simp; omega
  have Hall := Lib.hid hall
  have Hx := Lib.hid hx
  clear hall hput hown1 hx hl
  go_wp2_with (at_builtin; go_loud (refine wpList_app8 rfl _ _ 25 rfl w.heap.size 5 Try.underlying25 info_u8 _ [0, 0] rfl hownl A1 c1 fo rfl (hr1.alloc _) (by simp; omega) hB2.size ?_); intro A3 c3 w3 hown3 hgrow; rw [← Hall.out] at hown3 ⊢)
  have hr3 := own_RB hown3 (by omega)
  have hB3 := hB2.grown hgrow hB2.size (fun g hg => own_base hownl g hg)
  clear hownl hown3 hgrow hr1 hB1 hB2
  refine (of_calls A3 c3 all w3 hr3 (by omega)).mono ?_
  rintro e w4 ⟨v, rfl, hO, hB4⟩
  rw [Hx.out] at hO
  obtain ⟨g, c4, rfl⟩ := hO.ptr (by decide)
  have hS := hO.S (by decide)
  obtain ⟨ad, P1, d1, had, _, hz1⟩ := seg_at hS 0 (by decide)
  simp only [Option.some.injEq] at had
  subst had
  obtain ⟨ad, P2, d2, had, _, hz2⟩ := seg_at hS 1 (by decide)
  simp only [Option.some.injEq] at had
  subst had
  obtain ⟨y0, y1, y2, y3, y4⟩ := hz1 _ (Below.refl _ _)
  obtain ⟨z0, z1, z2, z3, z4⟩ := hz2 _ (Below.refl _ _)
  simp [add_zero0] at y0 y1 y2 z0 z1 z2
  clear y3 y4 z3 z4 hz1 hz2 hO hS
  have HB := Lib.hid (below_chain hB3 hB4)
  clear hB3 hB4 hr3
  go_wp2
  go_ret
  exact ⟨rfl, HB.out⟩
end Go.Proofs.Ytepnillddlemaaa
