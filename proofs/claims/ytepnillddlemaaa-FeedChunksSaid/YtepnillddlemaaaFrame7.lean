/- frame.Get answers what plain Lean says. Conditions stand in each theorem. -/
import Derived.Test.YtepnillddlemaaaFrame5
import Derived.Test.YtepnillddlemaaaHead
import Derived.Test.YtepnillddlemaaaCut
import Derived.IntWalk
set_option linter.unusedVariables false
set_option linter.unusedSimpArgs false
namespace Go.Proofs.Ytepnillddlemaaa
open Go.RowKit Go.Shelf TG TG.Crc
attribute [local go_sem] Oper.semAt_some

theorem fsz_most : fsz 4096 = 4107 := by
  have : (nb 4096).length = 2 := by rw [nb_great (by decide), nb_small (by decide)]; rfl
  unfold fsz
  rw [if_pos (by decide), this]
theorem below_drewN {B : Nat} {w W : World} (h : Below B w W) (n : Nat) : Below B w (W.drewN n) := ⟨h.os, h.tape, h.output, h.size, h.block⟩

set_option maxRecDepth 100000 in
set_option maxHeartbeats 1000000 in
theorem fget_walk (A : Option Addr) (c : Nat) (l : List UInt8) (w : World) (hr : RB w A c l) (hl : l.length ≤ 140737488355328) (m : Nat) (hm : m ≤ l.length) (hmm : l.length ≤ 4107 ∧ m = l.length ∨ 4107 < l.length ∧ m = 4107)
    (hH : fgH (l.take m) = fgH l) (hK : fgK (l.take m) = fgK l) (hN : fgN (l.take m) = fgN l) (hA : fgA (l.take m) = fgA l) :
    Calls Try.prog 18 #[.slice A l.length c] w (RG w l) := by
  have hlc := hr.1
  obtain ⟨i0, hi, hz0, hz1, hz2⟩ := info_parts info_u8
  obtain ⟨he1, he2⟩ := head_eval (l.take m)
  rw [hH] at he1 he2
  rw [hK, hN, hA] at he2
  have HH := Lib.hid he2
  have HE := Lib.hid he1
  clear he1 he2 hH hK hN hA
  have hlen : (l.take m).length = m := by simp; omega
  have hnew : ∀ W, RB W A c l → Calls Try.prog 71 #[.slice A m c] W fun e w' => e = .returned (.pointer (some ⟨W.heap.size, 0, none⟩)) ∧ Cur w' W.heap.size (l.take m) (mkS (l.take m) 0).1 (mkS (l.take m) 0).2 ∧ Below W.heap.size W w' := by
    intro W hW
    have := cnew_calls A c (l.take m) W (hW.take m hm)
    rw [hlen] at this
    rw [mkS]
    exact this
  have hlm : (l.take m).length ≤ 140737488355327 := by omega
  generalize l.take m = lm at *
  have Hnew := Lib.hid hnew
  have Hlen := Lib.hid hlen
  clear hnew hlen
  rcases hmm with ⟨h1, rfl⟩ | ⟨h1, rfl⟩
  all_goals
    go_enter Try.func18, Try.ntmps18
    go_wp2_with fail
    refine (fsize_calls 4096 _ (by omega)).mono ?_
    rintro e w1 ⟨rfl, hB1⟩
    rw [fsz_most]
    have hA1 : Blk w1 w.heap.size 29 [.int .i64 0, .slice none 0 0] := ((Blk.new w 29 [.int .i64 0, .slice none 0 0]).alloc _).below hB1
    have hN1 : Blk w1 (w.heap.size + 1) 29 [.int .i64 0, .slice none 0 0] := by
      have := Blk.new (w.alloc (.cells #[.int .i64 0, .slice none 0 0] 29)) 29 [.int .i64 0, .slice none 0 0]
      rw [World.size_alloc] at this
      exact this.below hB1
    have hB : Below w.heap.size w w1 := below_chain (below_new (below_new (Below.refl _ _) _) _) hB1
    have hr1 := hr.below hB
    have hz : w.heap.size + 1 < w1.heap.size := hN1.lt
    clear hB1
    go_wp2_with fail
    refine (Hnew.out _ hr1).mono ?_
    rintro e w2 ⟨rfl, hcur2, hB2⟩
    have hb2 := hcur2.lt
    go_wp2_with fail
    have hcur3 : Cur (w2.alloc (.cells #[.pointer (some ⟨w1.heap.size, 0, none⟩)] 117)) w1.heap.size lm (mkS lm 0).1 (mkS lm 0).2 := Blk.alloc hcur2 _
    refine (head_calls _ lm _ hcur3 hlm).mono ?_
    rintro e w3 ⟨rfl, hcur4, hg3⟩
    have hR : Blk w3 w2.heap.size 117 [.pointer (some ⟨w1.heap.size, 0, none⟩)] := (Blk.new w2 117 [.pointer (some ⟨w1.heap.size, 0, none⟩)]).kept hg3 (by simp; omega)
    have hA3 : Blk w3 w.heap.size 29 [.int .i64 0, .slice none 0 0] := ((hA1.below hB2).alloc _).kept hg3 (by simp; omega)
    have hN3 : Blk w3 (w.heap.size + 1) 29 [.int .i64 0, .slice none 0 0] := ((hN1.below hB2).alloc _).kept hg3 (by simp; omega)
    have hB3 : Below w.heap.size w w3 := (below_new (below_chain hB hB2) (.cells #[.pointer (some ⟨w1.heap.size, 0, none⟩)] 117)).grown hg3 (below_new (below_chain hB hB2) _).size (by intro g hg; simp at hg; omega)
    have hz3 : w2.heap.size < w3.heap.size := hR.lt
    have hr3 := hr.below hB3
    have HA3 := Lib.hid hA3
    have HN3 := Lib.hid hN3
    have HB3 := Lib.hid hB3
    have hcr := hR.cell 0
    have c20 := hA3.cell 0
    have c21 := hA3.cell 1
    have f20 := hA3.frozen 0
    have f21 := hA3.frozen 1
    have c50 := hN3.cell 0
    have c51 := hN3.cell 1
    simp only [List.getElem?_cons_zero, List.getElem?_cons_succ] at c20 c21 c50 c51 hcr
    have hcerr := cerr_calls _ _ _ _ _ hcur4
    have hcat := cat_calls _ _ _ _ _ hcur4
    rw [HE.out] at hcerr
    clear hA1 hN1 hB hr1 hcur2 hB2 hcur3 hcur4 hg3 hR hA3 hN3 hB3
    go_wp2_with fail
    refine hcerr.mono ?_
    rintro e w4 ⟨rfl, rfl⟩
    by_cases hH0 : fgH l = 0
    · obtain ⟨e1, e2, e3⟩ := HH.out hH0
      rw [e3] at hcat
      have hN1 := cnV_lt lm (hdI lm) (hdE lm)
      rw [e2] at hN1
      have hA1 : fgA l ≤ 15 := by have := wgS_ten (l.drop 5); unfold fgA; omega
      have hA4 : 5 ≤ fgA l := by unfold fgA; omega
      have hBB : fgB l = fgA l + fgN l := rfl
      have HH0 := Lib.hid hH0
      rw [e1, e2, hH0]
      clear e1 e2 e3 hH0 hcerr
      go_wp2_with fail
      refine hcat.mono ?_
      rintro e w4 ⟨rfl, rfl⟩
      have HBB := Lib.hid hBB
      have hKl : fgK l < 256 := by unfold fgK; exact UInt8.toNat_lt _
      obtain ⟨F, hF⟩ : ∃ F : Nat, F = fgA l + fgN l := ⟨_, rfl⟩
      have HF := Lib.hid (show fgB l = F by rw [hF]; exact hBB)
      have hP : fgP l = (l.drop (fgA l)).take (fgN l) := by unfold fgP; rfl
      have HP := Lib.hid hP
      clear hP
      clear hBB hcat
      generalize fgA l = a at *
      generalize fgN l = n at *
      generalize hk : fgK l = k at *
      have HK := Lib.hid hk
      clear hk
      by_cases hroom : l.length < F + 4
      · have HE0 := Lib.hid (fgE_room HH0.out (by rw [HF.out]; exact hroom))
        go_wp2
        exact bodyPost_ret (v := .tuple #[.agg #[.int .i64 0, .slice none 0 0], .int .i64 0, .int .i64 2]) (by simp [results, Try.results18, go_sem, c20, c21, f20, f21, c50, c51]) rfl (RG.bad HE0.out (by decide) rfl (by repeat (first | exact HB3.out | refine Below.setCell ?_ (by simp) _ | refine below_drewN ?_ _ | refine Below.drew ?_)))
      · have hS := fgE_sum HH0.out (by rw [HF.out]; exact hroom)
        rw [HF.out] at hS
        obtain ⟨A1, c1, hcut1, hr1, hb1⟩ := cut_lh (P := Try.prog) 25 5 Try.underlying25 hi hz1 A c l 4 F (by omega) (by omega) hlc
        obtain ⟨A2, c2, hcut2, hr2, hb2⟩ := cut_lh (P := Try.prog) 25 5 Try.underlying25 hi hz1 A c l F (F + 4) (by omega) (by omega) hlc
        obtain ⟨A3, c3, hcut3, hrp, hb3⟩ := cut_lh (P := Try.prog) 25 5 Try.underlying25 hi hz1 A c l a F (by omega) (by omega) hlc
        rw [show ((4 : Nat) : Int) = 4 from rfl] at hcut1
        rw [show ((F + 4 : Nat) : Int) = (F : Int) + 4 from by omega, show F + 4 - F = 4 from by omega] at hcut2
        rw [show F + 4 - F = 4 from by omega] at hr2
        have hPP := HP.out
        rw [show n = F - a from by omega] at hPP
        rw [← hPP] at hcut3 hrp
        have hpl : (fgP l).length = n := by rw [hPP]; simp; omega
        have hbl : ((l.drop 4).take (F - 4)).length ≤ 5000 := by simp; omega
        generalize (l.drop 4).take (F - 4) = body at *
        generalize (l.drop F).take 4 = tail at *
        have HS := Lib.hid hS
        have HPL := Lib.hid hpl
        have HC3 := Lib.hid hcut3
        have HRP := Lib.hid hrp
        have hR1 := hr1 w3 hr3
        have hR2 := hr2 w3 hr3
        have hR3 := hrp w3 hr3
        have e0 : (a : Int) + (n : Int) = (F : Int) := by omega
        have i1 : (0 : Int) ≤ (F : Int) := by omega
        have i2 : (F : Int) ≤ (F : Int) + 4 := by omega
        have i3 : (F : Int) + 4 ≤ (l.length : Int) := by omega
        have i4 : (4 : Int) ≤ (F : Int) := by omega
        have i6 : IntKind.i64.wrap ((F : Int) + 4) = (F : Int) + 4 := IntWalk.i64_in _ (by omega)
        have HF2 := Lib.hid hF
        have E0 := Lib.hid e0
        have hroom' : (F : Int) + 4 ≤ (l.length : Int) := i3
        clear hS hPP hcut3 hrp hr1 hr2 hF hpl hroom
        go_wp2_with fail
        have hnewc := World.alloc_heap_new w3 (.cells #[.slice A1 body.length c1] 25)
        refine (sum_one_calls _ _ _ _ _ body _ hnewc (hR1.alloc _)).mono ?_
        rintro e w5 ⟨rfl, rfl⟩
        go_wp2_with fail
        refine (bytes_calls _ _).mono ?_
        rintro e w6 ⟨rfl, hB6⟩
        have hB36 : Below w3.heap.size w3 w6 := below_chain (below_new (Below.refl _ _) _) hB6
        clear hB6 hnewc hR1 hcut1
        go_wp2_with fail
        have harr : RB (w6.alloc (.cells #[.int .u8 (un (crc body) % 256), .int .u8 (un (crc body) / 256 % 256), .int .u8 (un (crc body) / 65536 % 256), .int .u8 (un (crc body) / 16777216)] 110)) (some ⟨w6.heap.size, 0, none⟩) 4 (b4 (crc body)) := RB_new w6 _ _ (b4 (crc body)) (b4_bc _) (by rw [b4_length]; decide) 4 (by rw [b4_length]; decide)
        have hB37 : Below w3.heap.size w3 (w6.alloc (.cells #[.int .u8 (un (crc body) % 256), .int .u8 (un (crc body) / 256 % 256), .int .u8 (un (crc body) / 65536 % 256), .int .u8 (un (crc body) / 16777216)] 110)) := below_new hB36 _
        generalize hW7 : w6.alloc (.cells #[.int .u8 (un (crc body) % 256), .int .u8 (un (crc body) / 256 % 256), .int .u8 (un (crc body) / 65536 % 256), .int .u8 (un (crc body) / 16777216)] 110) = w7 at *
        have hz7 : w6.heap.size < w7.heap.size := by rw [← hW7]; simp
        have heq := bequal_calls (some ⟨w6.heap.size, 0, none⟩) 4 (b4 (crc body)) A2 c2 tail w7.drew (harr.below (Below.refl _ _).drew) ((hR2.below hB37).below (Below.refl _ _).drew)
        rw [b4_length] at heq
        have hA7 := HA3.out.below hB37
        have hN7 := HN3.out.below hB37
        have HB7 := Lib.hid (below_chain HB3.out hB37)
        have hr7 := (hR3.below hB37).below (Below.refl _ _).drew
        clear c20 c21 f20 f21 c50 c51 hcr
        have c20 := hA7.cell 0
        have c21 := hA7.cell 1
        have f20 := hA7.frozen 0
        have f21 := hA7.frozen 1
        have c50 := hN7.cell 0
        have c51 := hN7.cell 1
        simp only [List.getElem?_cons_zero, List.getElem?_cons_succ] at c20 c21 c50 c51
        clear hN7 hW7 harr hR2 hR3
        by_cases ht : b4 (crc body) = tail
        · rw [show (b4 (crc body) == tail) = true from by rw [beq_iff_eq]; exact ht] at heq
          have hE : fgE l = 0 := by rw [HS.out, ht]; simp
          have HE := Lib.hid hE
          have Heq := Lib.hid heq
          have hC3 := HC3.out
          have HA7 := Lib.hid hA7
          clear heq ht hE hA7
          go_region_held3 (fun _ => True) (trivial) ((go_at_call 75; refine Heq.out.mono ?_; rintro r w8 ⟨rfl, rfl⟩))
          clear hcut2
          go_wp2_with fail
          refine (bclone_calls _ _ _ _ (hr7 )).mono ?_
          rintro e w9 ⟨v9, rfl, hown9, hB9⟩
          have hB9' : Below w7.heap.size w7 w9 := ⟨hB9.os, hB9.tape, hB9.output, hB9.size, hB9.block⟩
          have hown9' : w9.ownsRow w7.heap.size 5 1 v9 (fgP l).length (bc (fgP l)) := hown9
          obtain ⟨A9, c9, rfl⟩ := own_form hown9'
          have hA9 := HA7.out.below hB9'
          have HB9 := Lib.hid (below_chain HB7.out hB9')
          have hr9 : RB w9 A9 c9 (fgP l) := own_RB hown9' (by have := HPL.out; omega)
          have hnb : ∀ ad, A9 = some ad → w7.heap.size ≤ ad.block := by
            rintro ad rfl
            rcases hown9'.2 with ⟨h1, _⟩ | ⟨g, cap, cur, h1, h2, _⟩
            · simp at h1
            · simp only [Value.slice.injEq, Option.some.injEq] at h1
              rw [h1.1]
              exact h2
          have HR9 := Lib.hid hr9
          have HNB := Lib.hid hnb
          have hsz7 : w.heap.size < w7.heap.size := by have := hB37.size; omega
          have hsz9 := hB9'.size
          clear c20 c21 f20 f21 c50 c51
          have c20 := hA9.cell 0
          have c21 := hA9.cell 1
          have f20 := hA9.frozen 0
          have f21 := hA9.frozen 1
          simp only [List.getElem?_cons_zero, List.getElem?_cons_succ] at c20 c21
          clear hB9 hB9' hown9 hown9' hA9 hr9 hnb hC3 hr7
          generalize hpl : fgP l = pl at *
          have HPl := Lib.hid hpl
          clear hpl
          go_wp2
          exact bodyPost_ret (v := .tuple #[.agg #[.int .i64 (k : Nat), .slice A9 pl.length c9], .int .i64 ((F : Int) + 4), .int .i64 0]) (by simp [results, Try.results18, go_sem, c20, c21, f20, f21]) rfl
            (RG.good HE.out HK.out HPl.out HF.out rfl (RB.kept (base := 0) (RB.kept (base := 0) HR9.out (fun ad h => by have := HNB.out ad h; simp; omega) (grown_set _ _ _ _)) (fun ad h => by have := HNB.out ad h; simp; omega) (grown_set _ _ _ _)) (fun ad h => by have := HNB.out ad h; omega) ((HB9.out.setCell (by simp) _).setCell (by simp) _))
        · rw [show (b4 (crc body) == tail) = false from by rw [beq_eq_false_iff_ne]; exact ht] at heq
          have HE := Lib.hid (show fgE l = 5 by rw [HS.out, if_pos ht])
          have Heq := Lib.hid heq
          clear heq ht hA7
          go_region_held3 (fun _ => True) (trivial) ((go_at_call 75; refine Heq.out.mono ?_; rintro r w8 ⟨rfl, rfl⟩))
          go_wp2
          exact bodyPost_ret (v := .tuple #[.agg #[.int .i64 0, .slice none 0 0], .int .i64 0, .int .i64 5]) (by simp [results, Try.results18, go_sem, c20, c21, f20, f21, c50, c51]) rfl (RG.bad HE.out (by decide) rfl (by repeat (first | exact HB7.out | refine Below.setCell ?_ (by simp) _ | refine below_drewN ?_ _ | refine Below.drew ?_)))
    · have HE0 := Lib.hid (fgE_head hH0)
      clear hcat hcerr
      generalize fgH l = E at *
      go_wp2
      exact bodyPost_ret (v := .tuple #[.agg #[.int .i64 0, .slice none 0 0], .int .i64 0, .int .i64 E]) (by simp [results, Try.results18, go_sem, c20, c21, f20, f21, c50, c51]) rfl (RG.bad HE0.out hH0 rfl (by repeat (first | exact HB3.out | refine Below.setCell ?_ (by simp) _ | refine below_drewN ?_ _ | refine Below.drew ?_)))

theorem fget_calls (A : Option Addr) (c : Nat) (l : List UInt8) (w : World) (hr : RB w A c l) (hl : l.length ≤ 140737488355328) :
    Calls Try.prog 18 #[.slice A l.length c] w (RG w l) := by
  by_cases h : l.length ≤ 4107
  · have e : l.take l.length = l := List.take_of_length_le (Nat.le_refl _)
    exact fget_walk A c l w hr hl l.length (Nat.le_refl _) (.inl ⟨h, rfl⟩) (by rw [e]) (by rw [e]) (by rw [e]) (by rw [e])
  · obtain ⟨a, b, d, e⟩ := fgH_take l 4107 (by decide)
    exact fget_walk A c l w hr hl 4107 (by omega) (.inr ⟨by omega, rfl⟩) a b d e
end Go.Proofs.Ytepnillddlemaaa
