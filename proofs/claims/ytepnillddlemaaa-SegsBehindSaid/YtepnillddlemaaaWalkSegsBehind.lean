/- The law SegsBehind: behind a frame that is a part the parts are those of the bytes from there on. The condition: the bytes are read from memory. -/
import Derived.Test.YtepnillddlemaaaWalkSegsAll
import Derived.Test.YtepnillddlemaaaCutS
set_option linter.unusedVariables false
set_option linter.unusedSimpArgs false
namespace Go.Proofs.Ytepnillddlemaaa
open Go.RowKit Go.Shelf TG TG.Crc
attribute [local go_sem] Oper.semAt_some

theorem info_seg : (Try.prog.info? 31).map (fun i => (i.zero, i.size, i.bytes)) = some (some (.agg #[.int .i64 0, .int .i64 0, .bool false, .int .i64 0, .slice none 0 0]), 5, 56) := by kernel_rfl
/-- some of the parts are told from elsewhere already -/
def curS (D : Nat) (r : List Sg) (j : Nat) : List Sg := (r.take j).map (shS D) ++ r.drop j
theorem curS_len (D : Nat) (r : List Sg) (j : Nat) : (curS D r j).length = r.length := by simp [curS]; omega
theorem curS_at (D : Nat) (r : List Sg) (j : Nat) (h : j < r.length) : (curS D r j)[j]'(by rw [curS_len]; exact h) = r[j] := by
  unfold curS
  rw [List.getElem_append_right (by simp; omega)]
  simp
  congr 1
  omega
theorem curS_set (D : Nat) (r : List Sg) (j : Nat) (h : j < r.length) : (curS D r j).set j (shS D r[j]) = curS D r (j + 1) := by
  unfold curS
  have hl : ((r.take j).map (shS D)).length = j := by simp; omega
  rw [List.set_append_right _ _ (by omega), hl, Nat.sub_self, List.drop_eq_getElem_cons h, List.set_cons_zero, List.take_succ_eq_append_getElem h, List.map_append, List.append_assoc]
  rfl

theorem sgs_fr (l : List UInt8) : ∀ (m i : Nat), l.length - i = m → ∀ s ∈ sgs l i, s.fr < l.length := by
  intro m
  induction m using Nat.strongRecOn with
  | _ m ih =>
    intro i hm s hs
    by_cases h : i < l.length
    · obtain ⟨t, e1, e2, e3, e4, _⟩ := sgs_cons l i h
      rw [e1] at hs
      rcases List.mem_cons.1 hs with rfl | hs
      · omega
      · exact ih (l.length - (i + t.n)) (by omega) (i + t.n) rfl s hs
    · rw [sgs_end l i (by omega)] at hs
      cases hs
set_option maxRecDepth 100000 in
set_option maxHeartbeats 4000000 in
theorem segsbehind_main (w : World) (A : Option Addr) (c : Nat) (l : List UInt8) (hr : RB w A c l) (hl : l.length ≤ 600) :
    Calls Try.prog 5 #[.slice A l.length c] w fun e w' => e = .returned (.bool true) ∧ Below w.heap.size w w' := by
  have hlc := hr.1
  obtain ⟨i1, hi1, hz0, hz1, hz2⟩ := info_parts info_u8
  obtain ⟨i5, hi5, hz50, hz51, hz52⟩ := info_parts info_seg
  have hof := of_calls A c l w hr (by omega)
  have hxl := sgs_len l
  obtain ⟨x, hx⟩ : ∃ x, x = sgs l 0 := ⟨_, rfl⟩
  rw [← hx] at hof hxl
  have Hx := Lib.hid hx
  clear hx
  go_enter Try.func5, Try.ntmps5
  go_wp2_with fail
  refine hof.mono ?_
  rintro e w1 ⟨v, rfl, hO, hB1⟩
  obtain ⟨A3, c3, rfl⟩ := hO.form
  have hS := hO.S (by omega)
  have hc3 := hS.1
  clear hof hO
  go_wp2_with fail
  go_loopw [16] (fun n wr => ∃ (k i : Nat), n = .int .i64 k ∧ k ≤ x.length ∧ i ≤ l.length ∧ Hid (x.drop k = sgs l i) ∧ Below w1.heap.size w1 wr) (fun n _ => x.length - (intOf n).toNat)
  case atStart => exact ⟨0, 0, rfl, Nat.zero_le _, Nat.zero_le _, by rw [List.drop_zero]; exact Hx.out, Below.refl _ _⟩
  case round =>
    obtain ⟨k, i, rfl, hk, hi, hxs, hB⟩ := hrel
    have j1 : (0 : Int) ≤ (k : Int) := Int.natCast_nonneg _
    have j2 : (0 : Int) ≤ (i : Int) := Int.natCast_nonneg _
    by_cases hlt : k < x.length
    · obtain ⟨ad, P1, d1, hA3, hsp, hz⟩ := seg_at (Rd.S_below (by decide) hS hB) k hlt
      obtain ⟨y0, y1, y2, y3, y4⟩ := hz _ (Below.refl _ _)
      obtain ⟨q1, q2, q3, q4, q5, q6, q7⟩ := all_step hxs.out hlt
      clear hz hsp
      generalize x[k] = s at *
      obtain ⟨fr, n, is, kk, p⟩ := s
      dsimp only at *
      subst q2
      obtain ⟨W0, hW0⟩ : ∃ W0, W0 = wr.alloc (.cells #[.int .i64 (fr : Int), .int .i64 (n : Int), .bool is, .int .i64 (kk : Int), .slice P1 p.length d1] 31) := ⟨_, rfl⟩
      have hBx : Below w1.heap.size w1 W0 := by rw [hW0]; exact below_new hB _
      have hbx : Blk W0 wr.heap.size 31 [.int .i64 (fr : Int), .int .i64 (n : Int), .bool is, .int .i64 (kk : Int), .slice P1 p.length d1] := by rw [hW0]; exact Blk.new wr 31 [.int .i64 (fr : Int), .int .i64 (n : Int), .bool is, .int .i64 (kk : Int), .slice P1 p.length d1]
      have n0 : (1 : Int) ≤ (n : Int) := by omega
      have n1 : (fr : Int) + (n : Int) ≤ (l.length : Int) := by omega
      obtain ⟨A9, c9, hcS, hrS⟩ := cutS_l (d := Rd.seg) (P := Try.prog) 26 31 Try.underlying26 hi5 hz51 A3 c3 x (k + 1) (by omega) hc3
      rw [show ((k + 1 : Nat) : Int) = (k : Int) + 1 from by omega] at hcS
      have hS9 := hrS _ _ hS
      have hxdl : (x.drop (k + 1)).length ≤ x.length := by simp
      generalize hxd : x.drop (k + 1) = xd at *
      have HXD := Lib.hid hxd
      clear hxd
      subst hA3
      have HW0 := Lib.hid hW0
      have HBx := Lib.hid hBx
      have HB1 := Lib.hid hB1
      have Hbx := Lib.hid hbx
      have HQ5 := Lib.hid q5
      clear q6 q7 q5 hBx hbx hB1 hB hW0
      cases is with
      | false =>
        go_wp2_with fail
        rw [← HW0.out]
        go_roundw
        case rel => exact ⟨k + 1, fr + n, by go_num, by omega, by omega, Lib.hid (HXD.out.trans HQ5.out), HBx.out⟩
        case measure => simp [intOf]; omega
      | true =>
        obtain ⟨A5, c5, hcut, hrc, hbc⟩ := cut_l (P := Try.prog) 25 5 Try.underlying25 hi1 hz1 A c l (fr + n) (by omega) hlc
        rw [show ((fr + n : Nat) : Int) = (fr : Int) + (n : Int) from by omega] at hcut
        have hof2 := of_calls A5 c5 (l.drop (fr + n)) W0 (hrc _ (hr.below (below_chain HB1.out HBx.out))) (by simp; omega)
        have hrl := sgs_len (l.drop (fr + n))
        have hbh := sgs_behind l (fr + n) q4 _ 0 rfl
        rw [Nat.add_zero, ← HQ5.out] at hbh
        have hfrb := sgs_fr (l.drop (fr + n)) _ 0 rfl
        generalize hr0 : sgs (l.drop (fr + n)) 0 = r at *
        have hdl : (l.drop (fr + n)).length ≤ 600 := by simp; omega
        generalize l.drop (fr + n) = dl at *
        have Hbh := Lib.hid hbh
        have Hfrb := Lib.hid hfrb
        clear hfrb
        clear hr0 hbh hrc hbc
        go_wp2_with fail
        rw [← HW0.out]
        refine hof2.mono ?_
        rintro e w5 ⟨v5, rfl, hO5, hB5⟩
        obtain ⟨A6, c6, rfl⟩ := hO5.form
        have HO5 := Lib.hid hO5
        have HB5 := Lib.hid hB5
        have hsW := hB5.size
        clear hO5 hB5 hof2 hcut y0 y1 y2 y3 y4
        have j3 : (0 : Int) ≤ (fr : Int) := Int.natCast_nonneg _
        have x0 := (Hbx.out.below HB5.out).cell 0
        have x1 := (Hbx.out.below HB5.out).cell 1
        clear x0 x1
        go_wp2_with fail
        go_loopw [54] (fun a wq => ∃ j : Nat, a = .int .i64 j ∧ j ≤ r.length ∧ Hid (Rd.seg.Own (fun _ => False) wq W0.heap.size 31 (.slice A6 r.length c6) (curS (fr + n) r j)) ∧ Hid (Below W0.heap.size W0 wq)) (fun a _ => r.length - (intOf a).toNat)
        case atStart => exact ⟨0, rfl, Nat.zero_le _, by simpa [curS] using HO5, HB5⟩
        case round =>
          obtain ⟨j, rfl, hj, hOj, hBj⟩ := hrel
          have j4 : (0 : Int) ≤ (j : Int) := Int.natCast_nonneg _
          by_cases hjl : j < r.length
          · obtain ⟨g, c7, hv⟩ := hOj.out.ptr (by rw [curS_len]; omega)
            simp only [Value.slice.injEq] at hv
            obtain ⟨rfl, _, rfl⟩ := hv
            obtain ⟨ad, P2, d2, had, _, hz⟩ := seg_at (hOj.out.S (by rw [curS_len]; omega)) j (by rw [curS_len]; exact hjl)
            simp only [Option.some.injEq] at had
            subst had
            have y0 := (hz _ (Below.refl _ _)).1
            rw [curS_at _ _ _ hjl, add_zero0] at y0
            have hfz := hOj.out.frozen (j * 5)
            have hX := Hbx.out.below hBj.out
            have x0 := hX.cell 0
            have x1 := hX.cell 1
            simp only [List.getElem?_cons_zero, List.getElem?_cons_succ] at x0 x1
            have hrf := Hfrb.out r[j] (List.getElem_mem hjl)
            have hrf2 : (r[j].fr : Int) ≤ 600 := by omega
            have hrf3 : (0 : Int) ≤ (r[j].fr : Int) := Int.natCast_nonneg _
            clear hz hX
            go_wp2_with fail
            go_region
            go_wp2
            go_roundw
            case rel =>
              have hst := hOj.out.set j (by rw [curS_len]; exact hjl) 0 (by decide) (shS (fr + n) r[j]) (.int .i64 ((r[j].fr : Int) + ((fr : Int) + (n : Int)))) (fun F W cs h => by
                rw [curS_at _ _ _ hjl] at h
                obtain ⟨A', c', rfl, hS⟩ := h
                refine ⟨A', c', ?_, hS⟩
                have : ((r[j].fr + (fr + n) : Nat) : Int) = (r[j].fr : Int) + ((fr : Int) + (n : Int)) := by omega
                simp only [segC, shS, this, List.set_cons_zero])
              rw [curS_set _ _ _ hjl] at hst
              exact ⟨j + 1, by go_num, by omega, Lib.hid (hst.1.below ((Below.refl _ _).drew)), Lib.hid (((hBj.out.setCell (p := ⟨g, j * 5, none⟩) (hOj.out.base g rfl) _)).drew)⟩
            case measure => simp [intOf]; omega
          · obtain rfl : j = r.length := by omega
            have hO9 := hOj.out
            rw [show curS (fr + n) r r.length = r.map (shS (fr + n)) from by simp [curS]] at hO9
            have hml : r.length = xd.length := by rw [← Hbh.out]; simp
            have hO10 := hO9.S (by simp; omega)
            rw [Hbh.out] at hO10
            have hsm := same7_calls A6 A9 c6 c9 xd wr hO10 (Rd.S_below (by decide) hS9 (below_chain HBx.out hBj.out))
            rw [← hml] at hsm hcS
            have Hsm := Lib.hid hsm
            have HB9 := Lib.hid (below_chain HBx.out hBj.out)
            clear hO9 hO10 hsm hOj hBj hml
            go_wp2_with fail
            with_reducible refine Hsm.out.mono ?_
            rintro e w9 ⟨rfl, hB9⟩
            go_wp2
            refine ⟨⟨k + 1, fr + n, by go_num, by omega, by omega, Lib.hid (HXD.out.trans HQ5.out), below_chain HB9.out hB9⟩, ?measure⟩
            case measure => simp [intOf]; omega
    · have HB := Lib.hid (below_chain hB1 hB)
      clear hB hB1
      go_wp2_with fail
      refine (fixed7_calls _).mono ?_
      rintro e w5 ⟨rfl, hB5⟩
      go_wp2
      go_ret
      exact ⟨rfl, below_chain HB.out hB5⟩

set_option maxRecDepth 100000 in
theorem walk_SegsBehind (w : World) (A : Option Addr) (c : Nat) (l : List UInt8) (hr : RB w A c l) :
    Calls Try.prog 5 #[.slice A l.length c] w fun e w' => e = .returned (.bool true) ∧ Below w.heap.size w w' := by
  have hl := hr.2.1
  by_cases h1 : 600 < l.length
  · go_enter Try.func5, Try.ntmps5
    go_wp2_with fail
    refine (fixed7_calls _).mono ?_
    rintro e w1 ⟨rfl, hB⟩
    go_wp2
    go_ret
    exact ⟨rfl, hB⟩
  · exact segsbehind_main w A c l hr (by omega)
end Go.Proofs.Ytepnillddlemaaa
