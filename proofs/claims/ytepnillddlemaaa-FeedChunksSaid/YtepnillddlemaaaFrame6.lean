/- The reference's Get of frames answers what plain Lean says. Conditions stand in each theorem. -/
import Derived.Test.YtepnillddlemaaaFrame5
import Derived.IntWalk
set_option linter.unusedVariables false
set_option linter.unusedSimpArgs false
namespace Go.Proofs.Ytepnillddlemaaa
open Go.RowKit Go.Shelf TG TG.Crc
attribute [local go_sem] Oper.semAt_some

theorem below_drewN {B : Nat} {w W : World} (h : Below B w W) (n : Nat) : Below B w (W.drewN n) := ⟨h.os, h.tape, h.output, h.size, h.block⟩
theorem drewN2 (w : World) (a b : Nat) : (w.drewN a).drewN b = w.drewN (a + b) := by simp [World.drewN, Nat.add_assoc]
theorem mk8_cut (l : List UInt8) (i j : Nat) (h : i ≤ j) (hj : j ≤ l.length) : (mk8 l).extract i j = mk8 ((l.drop i).take (j - i)) := by
  apply ByteArray.ext
  rw [ByteArray.data_extract]
  simp only [mk8, List.extract_toArray, List.extract_eq_take_drop]
set_option maxRecDepth 100000 in
set_option maxHeartbeats 1000000 in
theorem refget5_calls (l : List UInt8) (w : World) (hl : l.length ≤ 1000000) :
    Calls Try.prog 85 #[.string (mk8 l)] w (RG w l) := by
  have hsz : (mk8 l).size = l.length := rfl
  go_enter Try.func85, Try.ntmps85
  go_wp2_with fail
  refine (mark_calls _).mono ?_
  rintro e w1 ⟨rfl, hB1⟩
  have hA : Blk w1 w.heap.size 29 [.int .i64 0, .slice none 0 0] := ((Blk.new w 29 [.int .i64 0, .slice none 0 0]).alloc _).below hB1
  have hN : Blk w1 (w.heap.size + 1) 29 [.int .i64 0, .slice none 0 0] := by
    have := Blk.new (w.alloc (.cells #[.int .i64 0, .slice none 0 0] 29)) 29 [.int .i64 0, .slice none 0 0]
    rw [World.size_alloc] at this
    exact this.below hB1
  have hB : Below w.heap.size w w1 := below_chain (below_new (below_new (Below.refl _ _) _) _) hB1
  have c20 := hA.cell 0
  have c21 := hA.cell 1
  have f20 := hA.frozen 0
  have f21 := hA.frozen 1
  have c50 := hN.cell 0
  have c51 := hN.cell 1
  simp only [List.getElem?_cons_zero, List.getElem?_cons_succ] at c20 c21 c50 c51
  have HB := Lib.hid hB
  have hz1 : w.heap.size + 1 < w1.heap.size := hN.lt
  have HA1 := Lib.hid hA
  have HN1 := Lib.hid hN
  clear hA hN hB hB1
  go_wp2_with fail
  go_loopw [7] (fun i wr => ∃ k nq : Nat, k ≤ 4 ∧ k ≤ l.length ∧ i = .int .i64 k ∧ wr = w1.drewN nq ∧ ∀ j, j < k → l[j]? = mark4[j]?) (fun i _ => 4 - (intOf i).toNat)
  case atStart => exact ⟨0, 0, by omega, by omega, rfl, rfl, fun j hj => by omega⟩
  case round =>
    obtain ⟨k, nq, hk, hkl, rfl, rfl, hpre⟩ := hrel
    by_cases hlt : k < 4 ∧ k < l.length
    · obtain ⟨h4, hlt⟩ := hlt
      have hi0 : (0 : Int) ≤ (k : Int) := Int.natCast_nonneg _
      have hi1 : (k : Int) < ((mk8 l).size : Int) := by rw [mk8_size]; omega
      have hi2 : (k : Int) < (4 : Int) := by omega
      have Hpre := Lib.hid hpre
      clear hpre
      have hmk : ([199, 84, 71, 1] : List UInt8) = mark4 := rfl
      by_cases he : l[k] = ([199, 84, 71, 1] : List UInt8)[k]
      · have hvb : ((l[k].toNat : Int) != (([199, 84, 71, 1] : List UInt8)[k].toNat : Int)) = false := by rw [he]; simp
        have He := Lib.hid he
        clear he hmk
        go_wp2_with fail
        go_quiet (fail)
        go_wp2
        go_roundw
        case rel =>
          refine ⟨k + 1, _, by omega, by omega, by go_num, (by first | rfl | exact drewN2 _ _ _), fun j hj => ?_⟩
          by_cases e : j < k
          · exact Hpre.out j e
          · obtain rfl : j = k := by omega
            rw [List.getElem?_eq_getElem hlt, List.getElem?_eq_getElem (by simp [mark4]; omega), He.out]
            rfl
        case measure => simp [intOf]; omega
      · have hvb : ((l[k].toNat : Int) != (([199, 84, 71, 1] : List UInt8)[k].toNat : Int)) = true := by
          rw [bne_iff_ne]
          intro e
          exact he (UInt8.toNat_inj.1 (by omega))
        have He := Lib.hid he
        clear he hmk
        go_wp2_with fail
        go_quiet (fail)
        go_wp2
        have hE : fgE l = 4 := by
          have h4' : mkE mark4 l = 4 := (mkE_four mark4 l).2 ⟨k, by simp [mark4]; omega, hlt, fun e => He.out e⟩
          rw [fgE_mark (by omega), h4']
        exact bodyPost_ret (v := .tuple #[.agg #[.int .i64 0, .slice none 0 0], .int .i64 0, .int .i64 4]) (by simp [results, Try.results85, go_sem, c20, c21, f20, f21, c50, c51]) rfl (RG.bad hE (by decide) rfl (by repeat (first | exact HB.out | refine Below.setCell ?_ (by simp) _ | refine below_drewN ?_ _ | refine Below.drew ?_)))
    · have hm4 : mkE mark4 l ≠ 4 := by
        intro e
        obtain ⟨j, a, b, c⟩ := (mkE_four mark4 l).1 e
        have a4 : j < 4 := a
        have := hpre j (by omega)
        rw [List.getElem?_eq_getElem b, List.getElem?_eq_getElem a] at this
        exact c (Option.some.inj this)
      clear hpre
      by_cases h5 : l.length < 5
      · have hE : fgE l = 2 := fgE_few hm4 h5
        rcases Nat.lt_or_ge k 4 with h4 | h4
        · obtain rfl : k = l.length := by omega
          clear hm4
          go_wp2
          exact bodyPost_ret (v := .tuple #[.agg #[.int .i64 0, .slice none 0 0], .int .i64 0, .int .i64 2]) (by simp [results, Try.results85, go_sem, c20, c21, f20, f21, c50, c51]) rfl (RG.bad hE (by decide) rfl (by repeat (first | exact HB.out | refine Below.setCell ?_ (by simp) _ | refine below_drewN ?_ _ | refine Below.drew ?_)))
        · obtain rfl : k = 4 := by omega
          clear hm4
          go_wp2
          exact bodyPost_ret (v := .tuple #[.agg #[.int .i64 0, .slice none 0 0], .int .i64 0, .int .i64 2]) (by simp [results, Try.results85, go_sem, c20, c21, f20, f21, c50, c51]) rfl (RG.bad hE (by decide) rfl (by repeat (first | exact HB.out | refine Below.setCell ?_ (by simp) _ | refine below_drewN ?_ _ | refine Below.drew ?_)))
      · obtain rfl : k = 4 := by omega
        have h5' : 5 ≤ l.length := by omega
        have h4l : 4 < l.length := by omega
        obtain ⟨hK, hH⟩ := fgH_some (mkE_whole hm4 h5') h5'
        clear hm4 hlt
        by_cases hk12 : fgK l = 1 ∨ fgK l = 2
        · have hex := mk8_drop l 5 h5'
          have hrl : (l.drop 5).length ≤ 140737488355328 := by simp; omega
          have hg := refget_calls (l.drop 5) (w1.drewN nq) hrl
          rw [if_pos hk12] at hH
          have hN0 := wg_lt (l.drop 5)
          have hS0 := wgS_ten (l.drop 5)
          have hA : fgA l = 5 + wgS (l.drop 5) := rfl
          have hNN : fgN l = wgN (l.drop 5) := rfl
          have hBB : fgB l = fgA l + fgN l := rfl
          have HK := Lib.hid hK
          have HH := Lib.hid hH
          have HA := Lib.hid hA
          have HN := Lib.hid hNN
          have HBB := Lib.hid hBB
          have HN0 := Lib.hid hN0
          have b12 : ((l[4].toNat : Int) != 1) = true ∧ ((l[4].toNat : Int) != 2) = false ∨ ((l[4].toNat : Int) != 1) = false := by
            rcases hk12 with e | e
            · right; rw [bne_eq_false_iff_eq]; omega
            · left; exact ⟨by rw [bne_iff_ne]; omega, by rw [bne_eq_false_iff_eq]; omega⟩
          clear hK hH hA hNN hBB hN0 hk12
          generalize wgE (l.drop 5) = E at *
          generalize wgN (l.drop 5) = N at *
          generalize wgS (l.drop 5) = S at *
          rcases b12 with ⟨b1, b2⟩ | b1
          all_goals
            go_wp2_with fail
            refine hg.mono ?_
            rintro e w' ⟨rfl, rfl⟩
            by_cases hE0 : E = 0
            · subst hE0
              have hH0 := HH.out
              rw [if_neg (show ¬ (0 : Nat) ≠ 0 from by decide)] at hH0
              by_cases h4096 : 4096 < N
              · rw [if_pos h4096] at hH0
                have HE := Lib.hid (show fgE l = 6 by rw [fgE_head (by omega), hH0])
                clear hH0
                go_wp2
                exact bodyPost_ret (v := .tuple #[.agg #[.int .i64 0, .slice none 0 0], .int .i64 0, .int .i64 6]) (by simp [results, Try.results85, go_sem, c20, c21, f20, f21, c50, c51]) rfl (RG.bad HE.out (by decide) rfl (by repeat (first | exact HB.out | refine Below.setCell ?_ (by simp) _ | refine below_drewN ?_ _ | refine Below.drew ?_)))
              · rw [if_neg h4096] at hH0
                have HH0 := Lib.hid hH0
                clear hH0
                by_cases hroom : l.length < 5 + S + N + 4
                · have HE := Lib.hid (show fgE l = 2 by rw [fgE_room HH0.out (by have := HA.out; have := HN.out; have := HBB.out; omega)])
                  go_wp2
                  exact bodyPost_ret (v := .tuple #[.agg #[.int .i64 0, .slice none 0 0], .int .i64 0, .int .i64 2]) (by simp [results, Try.results85, go_sem, c20, c21, f20, f21, c50, c51]) rfl (RG.bad HE.out (by decide) rfl (by repeat (first | exact HB.out | refine Below.setCell ?_ (by simp) _ | refine below_drewN ?_ _ | refine Below.drew ?_)))
                · go_wp2_with fail
                  obtain ⟨A0, hA0⟩ : ∃ A0 : Nat, A0 = 5 + S := ⟨_, rfl⟩
                  obtain ⟨F, hF⟩ : ∃ F : Nat, F = A0 + N := ⟨_, rfl⟩
                  rw [show (5 + (S : Int) + (N : Int)) = (F : Int) from by omega, show (5 + (S : Int)) = (A0 : Int) from by omega]
                  have i1 : (0 : Int) ≤ (F : Int) := by omega
                  have i2 : (F : Int) ≤ (F : Int) + 4 := by omega
                  have i3 : (F : Int) + 4 ≤ (l.length : Int) := by omega
                  have i4 : (4 : Int) ≤ (F : Int) := by omega
                  have i5 : (F : Int) ≤ (l.length : Int) := by omega
                  have i6 : IntKind.i64.wrap ((F : Int) + 4) = (F : Int) + 4 := IntWalk.i64_in _ (by omega)
                  have HF := Lib.hid hF
                  have HA0 := Lib.hid hA0
                  have hlo : 5 ≤ A0 := by omega
                  have hlF : A0 ≤ F := by omega
                  have hx4 : (mk8 l).extract 4 F = mk8 ((l.drop 4).take (F - 4)) := mk8_cut l 4 F (by omega) (by omega)
                  have hxF : (mk8 l).extract F ((F : Int) + 4).toNat = mk8 ((l.drop F).take 4) := by
                    have := mk8_cut l F (F + 4) (by omega) (by omega)
                    rwa [Nat.add_sub_cancel_left, show F + 4 = ((F : Int) + 4).toNat from by omega] at this
                  have hxP : (mk8 l).extract A0 F = mk8 ((l.drop A0).take N) := by
                    have := mk8_cut l A0 F (by omega) (by omega)
                    rwa [show F - A0 = N from by omega] at this
                  have hpl : ((l.drop A0).take N).length = N := by simp; omega
                  have hP : fgP l = (l.drop A0).take N := by
                    unfold fgP
                    rw [HN.out, show fgA l = A0 from by have := HA.out; omega]
                  have hFB : fgB l = F := by have := HA.out; have := HN.out; have := HBB.out; omega
                  generalize (l.drop A0).take N = pl at *
                  have HP := Lib.hid hP
                  have HFB := Lib.hid hFB
                  have HPL := Lib.hid hpl
                  clear hP hFB hpl
                  have hbl : ((l.drop 4).take (F - 4)).length ≤ 140737488355328 := by simp; omega
                  have hS := fgE_sum HH0.out (by have := HA.out; have := HN.out; have := HBB.out; omega)
                  rw [show fgB l = F from by have := HA.out; have := HN.out; have := HBB.out; omega] at hS
                  generalize (l.drop 4).take (F - 4) = body at *
                  generalize (l.drop F).take 4 = tail at *
                  have HS := Lib.hid hS
                  clear hF hA0 hS
                  go_region_held3 (fun _ => True) (trivial) (first | (go_at_call 126; refine (refsum_calls body _ hbl).mono ?_; rintro r w4 ⟨rfl, rfl⟩) | (go_at_call 125; refine (refbytes_calls _ _).mono ?_; rintro r w5 ⟨rfl, hB5⟩))
                  have hB5' : Below w1.heap.size w1 w5 := ⟨hB5.os, hB5.tape, hB5.output, hB5.size, hB5.block⟩
                  have hA5 := HA1.out.below hB5'
                  have hN5 := HN1.out.below hB5'
                  have HB5 := Lib.hid (below_chain HB.out hB5')
                  clear hB5 c20 c21 f20 f21 c50 c51
                  have c20 := hA5.cell 0
                  have c21 := hA5.cell 1
                  have f20 := hA5.frozen 0
                  have f21 := hA5.frozen 1
                  have c50 := hN5.cell 0
                  have c51 := hN5.cell 1
                  have hz5 := hN5.lt
                  simp only [List.getElem?_cons_zero, List.getElem?_cons_succ] at c20 c21 c50 c51
                  clear hA5 hN5
                  by_cases ht : tail = b4 (crc body)
                  · have htb : (tail == b4 (crc body)) = true := by rw [beq_iff_eq]; exact ht
                    have hE : fgE l = 0 := by rw [HS.out, ht]; simp
                    obtain ⟨g1, g2, g3⟩ := g_some hE
                    have HE := Lib.hid hE
                    have G1 := Lib.hid g1
                    have G2 := Lib.hid g2
                    have G3 := Lib.hid g3
                    clear ht hE g1 g2 g3
                    have hcv : (convert 9 25 (.string (mk8 pl))).run Try.prog w5.drew = .ok (.slice (some ⟨w5.heap.size, 0, none⟩) pl.length (grownCap w5.drew pl.length 0 5)) (Lib.bytesWorld w5.drew 5 (mk8 pl)) := conv_bytes (P := Try.prog) 9 25 5 Try.underlying9 Try.underlying25 Try.underlying5 w5.drew (mk8 pl)
                    have hrb : RB (Lib.bytesWorld w5.drew 5 (mk8 pl)) (some ⟨w5.heap.size, 0, none⟩) (grownCap w5.drew pl.length 0 5) pl := bytes_RB w5.drew _ pl (by have := HPL.out; omega) (grownCap_ge _ _ _ _)
                    have hB6 : Below w5.heap.size w5 (Lib.bytesWorld w5.drew 5 (mk8 pl)) := ⟨rfl, rfl, rfl, by rw [Lib.bytesWorld_size]; exact Nat.le_succ _, fun k hk => (Lib.bytesWorld_at_old w5.drew _ _ k hk).trans rfl⟩
                    generalize grownCap w5.drew pl.length 0 5 = cp at *
                    generalize Lib.bytesWorld w5.drew 5 (mk8 pl) = W6 at *
                    have hA6 := (HA1.out.below hB5').below hB6
                    have c20' := hA6.cell 0
                    have c21' := hA6.cell 1
                    have f20' := hA6.frozen 0
                    have f21' := hA6.frozen 1
                    simp only [List.getElem?_cons_zero, List.getElem?_cons_succ] at c20' c21'
                    have HB6 := Lib.hid hB6
                    have HRB := Lib.hid hrb
                    clear hA6 hB6 hrb hB5'
                    go_wp2_with fail
                    · have hx : (!(tail == b4 (crc body))) = true := by assumption
                      rw [htb] at hx
                      cases hx
                    have i7 : IntKind.i64.wrap (l[4].toNat : Int) = (l[4].toNat : Int) := IntWalk.i64_in _ (by have := l[4].toNat_lt; omega)
                    have hlt5 : w.heap.size < w5.heap.size := by omega
                    go_region_with (fail)
                    all_goals
                      go_wp2
                      exact bodyPost_ret (v := .tuple #[.agg #[.int .i64 (l[4].toNat : Nat), .slice (some ⟨w5.heap.size, 0, none⟩) pl.length cp], .int .i64 ((F : Int) + 4), .int .i64 0]) (by simp [results, Try.results85, go_sem, c20', c21', f20', f21']) rfl (RG.good HE.out HK.out HP.out HFB.out rfl (RB.kept (base := 0) (RB.kept (base := 0) HRB.out (by rintro ad h; cases h; simp; omega) (grown_set _ _ _ _)) (by rintro ad h; cases h; simp; omega) (grown_set _ _ _ _)) (by rintro ad h; cases h; simp; omega) (((below_chain HB5.out HB6.out).setCell (by simp) _).setCell (by simp) _))
                  · have htb : (tail == b4 (crc body)) = false := by rw [beq_eq_false_iff_ne]; exact ht
                    have HE := Lib.hid (show fgE l = 5 by rw [HS.out, if_pos (fun e => ht e.symm)])
                    clear ht hB5'
                    go_wp2_with fail
                    rotate_left
                    · have hx : (!(tail == b4 (crc body))) = false := by assumption
                      rw [htb] at hx
                      cases hx
                    exact bodyPost_ret (v := .tuple #[.agg #[.int .i64 0, .slice none 0 0], .int .i64 0, .int .i64 5]) (by simp [results, Try.results85, go_sem, c20, c21, f20, f21, c50, c51]) rfl (RG.bad HE.out (by decide) rfl (by repeat (first | exact HB5.out | refine Below.setCell ?_ (by simp) _ | refine below_drewN ?_ _ | refine Below.drew ?_)))
            · have hE : fgE l = E := by have := HH.out; rw [if_pos hE0] at this; rw [fgE_head (by omega), this]
              have HE := Lib.hid hE
              clear hE
              go_wp2
              exact bodyPost_ret (v := .tuple #[.agg #[.int .i64 0, .slice none 0 0], .int .i64 0, .int .i64 E]) (by simp [results, Try.results85, go_sem, c20, c21, f20, f21, c50, c51]) rfl (RG.bad HE.out hE0 rfl (by repeat (first | exact HB.out | refine Below.setCell ?_ (by simp) _ | refine below_drewN ?_ _ | refine Below.drew ?_)))
        · have hE : fgE l = 4 := by rw [if_neg hk12] at hH; rw [fgE_head (by omega), hH]
          have b1 : ((l[4].toNat : Int) != 1) = true := by rw [bne_iff_ne]; omega
          have b2 : ((l[4].toNat : Int) != 2) = true := by rw [bne_iff_ne]; omega
          clear hK hH hk12
          go_wp2
          exact bodyPost_ret (v := .tuple #[.agg #[.int .i64 0, .slice none 0 0], .int .i64 0, .int .i64 4]) (by simp [results, Try.results85, go_sem, c20, c21, f20, f21, c50, c51]) rfl (RG.bad hE (by decide) rfl (by repeat (first | exact HB.out | refine Below.setCell ?_ (by simp) _ | refine below_drewN ?_ _ | refine Below.drew ?_)))
end Go.Proofs.Ytepnillddlemaaa
