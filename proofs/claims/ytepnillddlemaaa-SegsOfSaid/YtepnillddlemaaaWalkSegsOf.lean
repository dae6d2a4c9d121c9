/- The law SegsOf: the parts of any bytes, those that are frames, and how many bytes are skipped, are the document's. The condition: the bytes are read from memory. -/
import Derived.Test.YtepnillddlemaaaLaw07
set_option linter.unusedVariables false
set_option linter.unusedSimpArgs false
namespace Go.Proofs.Ytepnillddlemaaa
open Go.RowKit Go.Shelf TG TG.Crc
attribute [local go_sem] Oper.semAt_some

theorem skN_take (x : List Sg) (k : Nat) (h : k < x.length) : skN (x.take (k + 1)) = skN (x.take k) + if x[k].is then 0 else x[k].n := by
  rw [List.take_succ_eq_append_getElem h, skN_snoc]
set_option maxRecDepth 100000 in
set_option maxHeartbeats 2000000 in
theorem segsof_main (w : World) (A : Option Addr) (c : Nat) (l : List UInt8) (hr : RB w A c l) (hl : l.length ≤ 1000) :
    Calls Try.prog 8 #[.slice A l.length c] w fun e w' => e = .returned (.bool true) ∧ Below w.heap.size w w' := by
  have hcv := conv_str (P := Try.prog) 25 9 5 Try.underlying25 Try.underlying5 Try.underlying9 hr
  have hof := fun W (hW : Below w.heap.size w W) => of_calls A c l W (hr.below hW) (by omega)
  have hfs := fun W (hW : Below w.heap.size w W) => frames_calls A c l W (hr.below hW) (by omega)
  have hsk := fun W (hW : Below w.heap.size w W) => skipped_calls A c l W (hr.below hW) (by omega)
  have hro := refof7_calls l w (by omega)
  have hpre := fun k => skN_pre (List.take_prefix k (sgs l 0))
  have hxl := sgs_len l
  obtain ⟨x, hx⟩ : ∃ x, x = sgs l 0 := ⟨_, rfl⟩
  rw [← hx] at hof hfs hsk hro hpre hxl
  clear hx
  have Hof := Lib.hid hof
  have Hfs := Lib.hid hfs
  have Hsk := Lib.hid hsk
  have Hpre := Lib.hid hpre
  clear hof hfs hsk hpre
  go_enter Try.func8, Try.ntmps8
  go_wp2_with fail
  refine hro.mono ?_
  rintro e w1 ⟨v, rfl, hO, hB1⟩
  obtain ⟨A3, c3, rfl⟩ := hO.form
  have hS := hO.S (by omega)
  clear hcv hro hO
  go_wp2_with fail
  go_loopw [4, 16] (fun n i wr => ∃ k : Nat, k ≤ x.length ∧ i = .int .i64 k ∧ n = .int .i64 (skN (x.take k) : Nat) ∧ Below w1.heap.size w1 wr) (fun _ i _ => x.length - (intOf i).toNat)
  case atStart => exact ⟨0, Nat.zero_le _, rfl, rfl, Below.refl _ _⟩
  case round =>
    obtain ⟨k, hk, rfl, rfl, hB⟩ := hrel
    have j1 : (0 : Int) ≤ (k : Int) := Int.natCast_nonneg _
    by_cases hlt : k < x.length
    · obtain ⟨ad, P1, d1, rfl, _, hz⟩ := seg_at (Rd.S_below (by decide) hS hB) k hlt
      obtain ⟨y0, y1, y2, y3, y4⟩ := hz _ (Below.refl _ _)
      have hst := skN_take x k hlt
      have hp1 := Hpre.out k
      have hp2 := Hpre.out (k + 1)
      clear hz
      generalize x[k] = s at *
      obtain ⟨fr, n, is, kk, p⟩ := s
      dsimp only at *
      generalize skN (x.take k) = N at *
      generalize hM : skN (x.take (k + 1)) = M at *
      have HM := Lib.hid hM
      clear hM
      have HB := Lib.hid (below_new hB (.cells #[.int .i64 (fr : Int), .int .i64 (n : Int), .bool is, .int .i64 (kk : Int), .slice P1 p.length d1] 31))
      have n0 : (0 : Int) ≤ (N : Int) := Int.natCast_nonneg _
      have n1 : (0 : Int) ≤ (n : Int) := Int.natCast_nonneg _
      clear hB
      cases is with
      | true =>
        simp only [if_true] at hst
        have Hst := Lib.hid hst
        clear hst
        go_wp2
        go_roundw
        case rel => exact ⟨k + 1, by omega, by go_num, by rw [HM.out, Hst.out]; rfl, HB.out⟩
        case measure => simp [intOf]; omega
      | false =>
        rw [if_neg (by decide)] at hst
        have hb : N + n ≤ 1000 := by omega
        have Hst := Lib.hid hst
        clear hst
        go_wp2
        go_roundw
        case rel => exact ⟨k + 1, by omega, by go_num, by rw [HM.out, Hst.out]; go_num, HB.out⟩
        case measure => simp [intOf]; omega
    · have HE := Lib.hid (show x.take k = x from List.take_of_length_le (by omega))
      have hp1 := Hpre.out k
      rw [HE.out] at hp1 ⊢
      generalize hN : skN x = N at *
      have HB1 := Lib.hid (below_chain hB1 hB)
      have hSr := Rd.S_below (by decide) hS hB
      clear hB hB1 hS
      go_wp2_with fail
      refine (fixed7_calls _).mono ?_
      rintro e w2 ⟨rfl, hB2⟩
      have HB2 := Lib.hid (below_chain HB1.out hB2)
      have hSr2 := Rd.S_below (by decide) hSr hB2
      clear hB2 hSr
      go_wp2_with fail
      refine (Hof.out _ HB2.out).mono ?_
      rintro e w3 ⟨v3, rfl, hO3, hB3⟩
      obtain ⟨A4, c4, rfl⟩ := hO3.form
      have HB3 := Lib.hid (below_chain HB2.out hB3)
      have hSr3 := Rd.S_below (by decide) hSr2 hB3
      have hS3 := hO3.S (by omega)
      clear hB3 hSr2 hO3
      go_wp2_with fail
      refine (same7_calls A4 A3 c4 c3 x _ hS3 hSr3).mono ?_
      rintro e w4 ⟨rfl, hB4⟩
      have HB4 := Lib.hid (below_chain HB3.out hB4)
      have hSr4 := Rd.S_below (by decide) hSr3 hB4
      clear hB4 hSr3 hS3
      go_wp2_with fail
      refine (Hfs.out _ HB4.out).mono ?_
      rintro e w5 ⟨v5, rfl, hO5, hB5⟩
      obtain ⟨A6, c6, rfl⟩ := hO5.form
      have HB5 := Lib.hid (below_chain HB4.out hB5)
      have hSr5 := Rd.S_below (by decide) hSr4 hB5
      have hfl := List.length_filter_le (·.is) x
      have hS5 := hO5.S (by omega)
      clear hB5 hSr4 hO5
      go_wp2_with fail
      refine (refframes7_calls A3 c3 x _ hSr5 (by omega)).mono ?_
      rintro e w6 ⟨v6, rfl, hO6, hB6⟩
      obtain ⟨A7, c7, rfl⟩ := hO6.form
      have HB6 := Lib.hid (below_chain HB5.out hB6)
      have hS56 := Rd.S_below (by decide) hS5 hB6
      have hS6 := hO6.S (by omega)
      clear hB6 hSr5 hO6 hS5
      go_wp2_with fail
      refine (same7_calls A6 A7 c6 c7 _ _ hS56 hS6).mono ?_
      rintro e w7 ⟨rfl, hB7⟩
      have HB7 := Lib.hid (below_chain HB6.out hB7)
      clear hB7 hS56 hS6
      go_wp2_with fail
      refine (Hsk.out _ HB7.out).mono ?_
      rintro e w8 ⟨rfl, hB8⟩
      have HB8 := Lib.hid (below_chain HB7.out hB8)
      clear hB8
      go_wp2
      go_ret
      exact ⟨by simp, HB8.out⟩

set_option maxRecDepth 100000 in
theorem walk_SegsOf (w : World) (A : Option Addr) (c : Nat) (l : List UInt8) (hr : RB w A c l) :
    Calls Try.prog 8 #[.slice A l.length c] w fun e w' => e = .returned (.bool true) ∧ Below w.heap.size w w' := by
  have hl := hr.2.1
  by_cases h1 : 1000 < l.length
  · go_enter Try.func8, Try.ntmps8
    go_wp2_with fail
    refine (fixed7_calls _).mono ?_
    rintro e w1 ⟨rfl, hB⟩
    go_wp2
    go_ret
    exact ⟨rfl, hB⟩
  · exact segsof_main w A c l hr (by omega)
end Go.Proofs.Ytepnillddlemaaa
