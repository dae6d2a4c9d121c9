/- wound.Clean. Conditions stand in each theorem. -/
import Derived.Test.YtepnillddlemaaaWound4
set_option linter.unusedVariables false
set_option linter.unusedSimpArgs false
namespace Go.Proofs.Ytepnillddlemaaa
open Go.RowKit Go.Shelf TG TG.Crc
attribute [local go_sem] Oper.semAt_some

set_option maxRecDepth 100000 in
set_option maxHeartbeats 4000000 in
theorem clean_calls (A : Option Addr) (c : Nat) (l : List UInt8) (A2 : Option Addr) (c2 : Nat) (x : List Sg) (w : World) (hr : RB w A c l) (h1 : Rd.seg.S (fun _ => True) w A2 c2 x) (hl : l.length ≤ 1000000) (hx : ∀ p ∈ x, p.fr ≤ 1000000 ∧ p.n ≤ 1000000) :
    Calls Try.prog 53 #[.slice A l.length c, .slice A2 x.length c2] w fun e w' => e = .returned (.bool (cleanB l x)) ∧ Below w.heap.size w w' := by
  have hxl := h1.2.1
  go_enter Try.func53, Try.ntmps53
  go_wp2_with fail
  go_step3
  go_wp2_with fail
  go_step3
  go_wp2_with fail
  go_loopw [13] (fun i wr => ∃ a : Nat, i = .int .i64 a ∧ a ≤ l.length ∧ Hid (∀ j, j < a → cleanAt l x j = true) ∧ Hid (Below w.heap.size w wr)) (fun i _ => l.length - (intOf i).toNat)
  case atStart => exact ⟨0, rfl, Nat.zero_le _, Lib.hid (fun j h => by omega), Lib.hid (Below.refl _ _)⟩
  case round =>
    obtain ⟨a, rfl, ha, hok, hB⟩ := hrel
    have a0 : (0 : Int) ≤ (a : Int) := Int.natCast_nonneg _
    by_cases hlt : a < l.length
    · obtain ⟨wo, hwo⟩ : ∃ wo, wo = wr := ⟨_, rfl⟩
      subst hwo
      go_wp2_with fail
      go_loopw [18] (fun i wq => ∃ m : Nat, i = .int .i64 m ∧ m ≤ x.length ∧ Hid (∀ p ∈ x.take m, ¬ (p.fr ≤ a ∧ a < p.fr + p.n)) ∧ Hid (Below w.heap.size w wq)) (fun i _ => x.length - (intOf i).toNat)
      case atStart => exact ⟨0, rfl, Nat.zero_le _, Lib.hid (by simp), hB⟩
      case round =>
        obtain ⟨m, rfl, hm, hno, hBq⟩ := hrel
        have m0 : (0 : Int) ≤ (m : Int) := Int.natCast_nonneg _
        by_cases hml : m < x.length
        · obtain ⟨ad, P1, d1, rfl, _, hz⟩ := seg_at (Rd.S_below (by decide) h1 hBq.out) m hml
          obtain ⟨y0, y1, y2, y3, y4⟩ := hz _ (Below.refl _ _)
          have htk : x.take (m + 1) = x.take m ++ [x[m]] := List.take_succ_eq_append_getElem hml
          have hmem := List.getElem_mem hml
          have hpb := hx _ hmem
          clear hz
          generalize x[m] = s at *
          obtain ⟨fr, n, is, k, p⟩ := s
          dsimp only at *
          obtain ⟨p1, p2⟩ := hpb
          have q1 : (0 : Int) ≤ (fr : Int) ∧ (fr : Int) ≤ 1000000 := by omega
          have q2 : (0 : Int) ≤ (n : Int) ∧ (n : Int) ≤ 1000000 := by omega
          obtain ⟨q11, q12⟩ := q1
          obtain ⟨q21, q22⟩ := q2
          have Htk := Lib.hid htk
          have HBn := Lib.hid (below_new hBq.out (.cells #[.int .i64 (fr : Int), .int .i64 (n : Int), .bool is, .int .i64 (k : Int), .slice P1 p.length d1] 31))
          clear htk
          have hcase : ((fr : Int) ≤ (a : Int) ∧ (a : Int) - (fr : Int) < (n : Int)) ∨ ((fr : Int) ≤ (a : Int) ∧ (n : Int) ≤ (a : Int) - (fr : Int)) ∨ (a : Int) < (fr : Int) := by omega
          rcases hcase with ⟨c1, c2'⟩ | ⟨c1, c2'⟩ | c1
          · have HA := Lib.hid (show ∀ j, j < a + 1 → cleanAt l x j = true from fun j hj => by
              rcases Nat.lt_or_ge j a with h | h
              · exact hok.out j h
              · obtain rfl : j = a := by omega
                unfold cleanAt
                rw [Bool.or_eq_true]
                left
                exact List.any_eq_true.2 ⟨_, hmem, by simp; omega⟩)
            clear hmem
            go_wp2
            refine ⟨⟨a + 1, by go_num, by omega, HA, HBn⟩, ?measure⟩
            case measure => simp [intOf]; omega
          · have HN := Lib.hid (show ∀ p ∈ x.take (m + 1), ¬ (p.fr ≤ a ∧ a < p.fr + p.n) from fun q hq => by
              rw [Htk.out, List.mem_append, List.mem_singleton] at hq
              rcases hq with hq | rfl
              · exact hno.out q hq
              · simp only; omega)
            clear hmem
            go_wp2
            go_roundw
            case rel => exact ⟨m + 1, by go_num, by omega, HN, HBn⟩
            case measure => simp [intOf]; omega
          · have HN := Lib.hid (show ∀ p ∈ x.take (m + 1), ¬ (p.fr ≤ a ∧ a < p.fr + p.n) from fun q hq => by
              rw [Htk.out, List.mem_append, List.mem_singleton] at hq
              rcases hq with hq | rfl
              · exact hno.out q hq
              · simp only; omega)
            clear hmem
            go_wp2
            go_roundw
            case rel => exact ⟨m + 1, by go_num, by omega, HN, HBn⟩
            case measure => simp [intOf]; omega
        · have hany : (x.any fun p => decide (p.fr ≤ a) && decide (a < p.fr + p.n)) = false := by
            rw [List.any_eq_false]
            intro p hp
            have := hno.out p (by rw [List.take_of_length_le (by omega)]; exact hp)
            simpa using this
          have hat := at_calls A c l a (by omega) wr (hr.below hBq.out) (by omega)
          have hca : cleanAt l x a = !(wE l a == 0) := by unfold cleanAt; rw [hany, Bool.false_or]
          have hwe : fgE (l.drop a) = wE l a := rfl
          have Hca := Lib.hid hca
          have Hany := Lib.hid hany
          by_cases hE : wE l a = 0
          · have Hfin := Lib.hid (show cleanB l x = false from by
              cases h : cleanB l x with
              | false => rfl
              | true =>
                have := List.all_eq_true.1 h a (List.mem_range.2 hlt)
                rw [hca, hE] at this
                simp at this)
            have hb1 : ((fgE (l.drop a) : Int) == 0) = true := by rw [hwe, hE]; rfl
            clear hca hany hE hwe
            generalize l.drop a = dl at *
            go_wp2_with fail
            refine hat.mono ?_
            rintro e w5 ⟨A5, c5, rfl, _, _, hB5⟩
            have HB5 := Lib.hid (below_new (below_chain hBq.out hB5) (.cells #[.int .i64 (gK dl), .slice A5 (gP dl).length c5] 29))
            clear hB5 hat
            generalize fgE dl = E at *
            go_wp2
            rw [Exit.noGoto_ret]
            go_ret
            exact ⟨by rw [Hfin.out]; rfl, HB5.out⟩
          · have HA := Lib.hid (show ∀ j, j < a + 1 → cleanAt l x j = true from fun j hj => by
              rcases Nat.lt_or_ge j a with h | h
              · exact hok.out j h
              · obtain rfl : j = a := by omega
                rw [hca]
                simp [hE])
            have hb1 : ((fgE (l.drop a) : Int) == 0) = false := by rw [hwe, beq_eq_false_iff_ne]; omega
            clear hca hany hE hwe
            generalize l.drop a = dl at *
            go_wp2_with fail
            refine hat.mono ?_
            rintro e w5 ⟨A5, c5, rfl, _, _, hB5⟩
            have HB5 := Lib.hid (below_new (below_chain hBq.out hB5) (.cells #[.int .i64 (gK dl), .slice A5 (gP dl).length c5] 29))
            clear hB5 hat
            generalize fgE dl = E at *
            go_wp2
            refine ⟨⟨a + 1, by go_num, by omega, HA, HB5⟩, ?measure⟩
            case measure => simp [intOf]; omega
    · have HE := Lib.hid (show cleanB l x = true from List.all_eq_true.2 (fun j hj => hok.out j (by have := List.mem_range.1 hj; omega)))
      go_wp2
      rw [Exit.noGoto_ret]
      go_ret
      exact ⟨by rw [HE.out]; rfl, hB.out⟩
end Go.Proofs.Ytepnillddlemaaa
