/- The functions of package frame return what plain Lean says of their bytes. Conditions stand in each theorem. -/
import Derived.Test.YtepnillddlemaaaCursor2
import Derived.Test.YtepnillddlemaaaCrc
set_option linter.unusedVariables false
set_option linter.unusedSimpArgs false
namespace Go.Proofs.Ytepnillddlemaaa
open Go.RowKit Go.Shelf TG TG.Crc
attribute [local go_sem] Oper.semAt_some

set_option maxRecDepth 100000 in
theorem kind_calls (k : Int) (w : World) :
    Calls Try.prog 67 #[.int .i64 k] w fun e w' => e = .returned (.bool (k == 1 || k == 2)) ∧ w = w' := by
  go_enter Try.func67, Try.ntmps67
  go_wp2
  all_goals
    go_ret
    exact ⟨by simp [*], rfl⟩

def fsz (n : Nat) : Nat := if n ≤ 4096 then 9 + (nb n).length + n else 0
set_option maxRecDepth 100000 in
theorem fsize_calls (n : Nat) (w : World) (hn : n ≤ 140737488355328) :
    Calls Try.prog 36 #[.int .i64 n] w fun e w' => e = .returned (.int .i64 (fsz n)) ∧ Below w.heap.size w w' := by
  by_cases h : n ≤ 4096
  · have hlen : (nb n).length ≤ 10 := nb_len (by omega)
    have hs : fsz n = 9 + (nb n).length + n := by simp [fsz, h]
    rw [hs]
    have hc := size_calls n w hlen
    generalize (nb n).length = m at *
    clear hs
    go_enter Try.func36, Try.ntmps36
    go_wp2_with fail
    refine hc.mono ?_
    rintro e w' ⟨rfl, hB⟩
    go_wp2
    go_ret
    exact ⟨by first | go_num | (simp; omega), hB⟩
  · have hs : fsz n = 0 := by simp [fsz, h]
    rw [hs]
    clear hs
    go_enter Try.func36, Try.ntmps36
    go_wp2
    go_ret
    exact ⟨rfl, Below.refl _ _⟩

/-- the first four bytes, taken one by one -/
def mkB : Nat → Nat | 0 => 199 | 1 => 84 | 2 => 71 | _ => 1
def mkS (l : List UInt8) : Nat → Nat × Nat
  | 0 => (0, 0)
  | k + 1 => (cbI l (mkS l k).1 (mkS l k).2, if cbV l (mkS l k).1 (mkS l k).2 = mkB k then cbE l (mkS l k).1 (mkS l k).2 else if cbE l (mkS l k).1 (mkS l k).2 = 0 then 4 else cbE l (mkS l k).1 (mkS l k).2)
def hdI (l : List UInt8) : Nat := cbI l (mkS l 4).1 (mkS l 4).2
def hdK (l : List UInt8) : Nat := cbV l (mkS l 4).1 (mkS l 4).2
def hdE0 (l : List UInt8) : Nat := cbE l (mkS l 4).1 (mkS l 4).2
def hdE (l : List UInt8) : Nat := if hdK l = 1 ∨ hdK l = 2 then hdE0 l else if hdE0 l = 0 then 4 else hdE0 l
theorem cbI_le (l : List UInt8) (i e : Nat) (h : i ≤ l.length) : cbI l i e ≤ l.length := by
  unfold cbI
  split <;> omega
theorem mkS_le (l : List UInt8) (k : Nat) : (mkS l k).1 ≤ l.length := by
  induction k with
  | zero => simp [mkS]
  | succ k ih => exact cbI_le _ _ _ ih
theorem cbV_lt (l : List UInt8) (i e : Nat) : cbV l i e < 256 := by
  unfold cbV
  split
  · exact UInt8.toNat_lt _
  · decide
theorem mkS_succ (l : List UInt8) (k : Nat) : mkS l (k + 1) = (cbI l (mkS l k).1 (mkS l k).2, if cbV l (mkS l k).1 (mkS l k).2 = mkB k then cbE l (mkS l k).1 (mkS l k).2 else if cbE l (mkS l k).1 (mkS l k).2 = 0 then 4 else cbE l (mkS l k).1 (mkS l k).2) := rfl
theorem hd_eq (l : List UInt8) : cbV l (mkS l 4).1 (mkS l 4).2 = hdK l ∧ cbI l (mkS l 4).1 (mkS l 4).2 = hdI l ∧ cbE l (mkS l 4).1 (mkS l 4).2 = hdE0 l := ⟨rfl, rfl, rfl⟩
theorem hdI_le (l : List UInt8) : hdI l ≤ l.length := cbI_le _ _ _ (mkS_le l 4)
theorem cnV_lt (l : List UInt8) (i e : Nat) : cnV l i e 4096 ≤ 4096 := by
  unfold cnV cnE0
  repeat' split
  all_goals first | omega | (simp_all; done) | (simp_all; omega)
theorem hdK_lt (l : List UInt8) : hdK l < 256 := cbV_lt _ _ _
attribute [irreducible] mkS fsz hdI hdK hdE0 hdE

set_option maxRecDepth 100000 in
set_option maxHeartbeats 1000000 in
theorem head_calls (B : Nat) (l : List UInt8) (w : World) (hcur : Cur w B l (mkS l 0).1 (mkS l 0).2) (hl : l.length ≤ 140737488355327) :
    Calls Try.prog 72 #[.agg #[.pointer (some ⟨B, 0, none⟩)]] w fun e w' => e = .returned (.tuple #[.int .i64 (hdK l), .int .i64 (cnV l (hdI l) (hdE l) 4096)]) ∧ Cur w' B l (cnI l (hdI l) (hdE l) 4096) (cnE l (hdI l) (hdE l) 4096) ∧ w.grownBy w' (some B) := by
  have hblt := hcur.lt
  have hne : w.heap.size ≠ B := by omega
  go_enter Try.func72, Try.ntmps72
  have Hc := Lib.hid hcur
  clear hcur
  go_wp2
  go_loopw [6] (fun i wr => ∃ k : Nat, k ≤ 4 ∧ i = .int .i64 k ∧ Cur wr B l (mkS l k).1 (mkS l k).2 ∧ Boxed wr w.heap.size 117 (.pointer (some ⟨B, 0, none⟩)) ∧ w.grownBy wr (some B)) (fun i _ => 4 - (intOf i).toNat)
  case atStart => exact ⟨0, by omega, rfl, Blk.alloc Hc.out _, Boxed.new _ _ _, World.grownBy_alloc _ _ _⟩
  case round =>
    obtain ⟨k, hk, rfl, hcur, hbox, hg⟩ := hrel
    have hcell := hbox.cell
    have hle := mkS_le l k
    by_cases h4 : k < 4
    · have hbyte := cbyte_calls B l _ _ wr.drew hcur.drew hle hl
      have hsucc := mkS_succ l k
      have hvlt := cbV_lt l (mkS l k).1 (mkS l k).2
      generalize (mkS l k).1 = i0 at *
      generalize (mkS l k).2 = e0 at *
      generalize cbV l i0 e0 = v at *
      generalize cbI l i0 e0 = i1 at *
      generalize cbE l i0 e0 = e1 at *
      have Hs := Lib.hid hsucc
      have Hbox := Lib.hid hbox
      have Hg := Lib.hid hg
      clear hsucc hcur hbox hg
      obtain rfl | rfl | rfl | rfl : k = 0 ∨ k = 1 ∨ k = 2 ∨ k = 3 := by omega
      · by_cases hv : v = mkB 0
        · have hvb : ((v : Int) != ((ByteArray.mk #[199, 84, 71, 1])[0].toNat : Int)) = false := by rw [hv]; rfl
          have Hv := Lib.hid hv
          clear hv
          go_wp2_with fail
          go_region_with (first
            | (go_at_call 118; (refine hbyte.mono ?_); rintro r w3 ⟨rfl, hcur3, hg3⟩))
          all_goals
            have hg4 : wr.grownBy w3 (some B) := ⟨hg3.os, hg3.tape, hg3.output, hg3.size, hg3.block⟩
            have hbox3 : Boxed w3 w.heap.size 117 (.pointer (some ⟨B, 0, none⟩)) := Hbox.out.kept hg4 (by simpa using hne)
            have hcell3 := hbox3.cell
            have hgg := Hg.out.trans hg4
            have hstop := cstop_calls B l i1 e1 4 w3 hcur3
            have Hbox3 := Lib.hid hbox3
            have Hcur3 := Lib.hid hcur3
            have Hgg := Lib.hid hgg
            clear hg4 hbox3 hcur3 hgg hg3
            go_wp2_with fail
            go_roundw
            case rel => exact ⟨0 + 1, by omega, by go_num, by rw [Hs.out, if_pos Hv.out]; exact Hcur3.out, Hbox3.out, Hgg.out⟩
            case measure => simp [intOf]
        · have hvb : ((v : Int) != ((ByteArray.mk #[199, 84, 71, 1])[0].toNat : Int)) = true := by
            have : ((ByteArray.mk #[199, 84, 71, 1])[0].toNat : Int) = ((mkB 0 : Nat) : Int) := rfl
            rw [this]
            exact bne_iff_ne.2 (fun h => hv (by omega))
          have Hv := Lib.hid hv
          clear hv
          go_wp2_with fail
          go_region_with (first
            | (go_at_call 118; (refine hbyte.mono ?_); rintro r w3 ⟨rfl, hcur3, hg3⟩))
          all_goals
            have hg4 : wr.grownBy w3 (some B) := ⟨hg3.os, hg3.tape, hg3.output, hg3.size, hg3.block⟩
            have hbox3 : Boxed w3 w.heap.size 117 (.pointer (some ⟨B, 0, none⟩)) := Hbox.out.kept hg4 (by simpa using hne)
            have hcell3 := hbox3.cell
            have hgg := Hg.out.trans hg4
            have hstop := cstop_calls B l i1 e1 4 w3 hcur3
            have Hbox3 := Lib.hid hbox3
            have Hcur3 := Lib.hid hcur3
            have Hgg := Lib.hid hgg
            clear hg4 hbox3 hcur3 hgg hg3
            go_wp2_with fail
            refine hstop.mono ?_
            rintro r w4 ⟨⟨vv, rfl⟩, hcur4, hg5⟩
            have Hbox4 := Lib.hid (Hbox3.out.kept hg5 (by simpa using hne))
            have Hcur4 := Lib.hid hcur4
            have Hg5 := Lib.hid (Hgg.out.trans hg5)
            clear hcur4 hg5
            go_wp2
            go_roundw
            case rel => exact ⟨0 + 1, by omega, by go_num, by rw [Hs.out, if_neg Hv.out]; exact Hcur4.out, Hbox4.out, Hg5.out⟩
            case measure => simp [intOf]
      · by_cases hv : v = mkB 1
        · have hvb : ((v : Int) != ((ByteArray.mk #[199, 84, 71, 1])[1].toNat : Int)) = false := by rw [hv]; rfl
          have Hv := Lib.hid hv
          clear hv
          go_wp2_with fail
          go_region_with (first
            | (go_at_call 118; (refine hbyte.mono ?_); rintro r w3 ⟨rfl, hcur3, hg3⟩))
          all_goals
            have hg4 : wr.grownBy w3 (some B) := ⟨hg3.os, hg3.tape, hg3.output, hg3.size, hg3.block⟩
            have hbox3 : Boxed w3 w.heap.size 117 (.pointer (some ⟨B, 0, none⟩)) := Hbox.out.kept hg4 (by simpa using hne)
            have hcell3 := hbox3.cell
            have hgg := Hg.out.trans hg4
            have hstop := cstop_calls B l i1 e1 4 w3 hcur3
            have Hbox3 := Lib.hid hbox3
            have Hcur3 := Lib.hid hcur3
            have Hgg := Lib.hid hgg
            clear hg4 hbox3 hcur3 hgg hg3
            go_wp2_with fail
            go_roundw
            case rel => exact ⟨1 + 1, by omega, by go_num, by rw [Hs.out, if_pos Hv.out]; exact Hcur3.out, Hbox3.out, Hgg.out⟩
            case measure => simp [intOf]
        · have hvb : ((v : Int) != ((ByteArray.mk #[199, 84, 71, 1])[1].toNat : Int)) = true := by
            have : ((ByteArray.mk #[199, 84, 71, 1])[1].toNat : Int) = ((mkB 1 : Nat) : Int) := rfl
            rw [this]
            exact bne_iff_ne.2 (fun h => hv (by omega))
          have Hv := Lib.hid hv
          clear hv
          go_wp2_with fail
          go_region_with (first
            | (go_at_call 118; (refine hbyte.mono ?_); rintro r w3 ⟨rfl, hcur3, hg3⟩))
          all_goals
            have hg4 : wr.grownBy w3 (some B) := ⟨hg3.os, hg3.tape, hg3.output, hg3.size, hg3.block⟩
            have hbox3 : Boxed w3 w.heap.size 117 (.pointer (some ⟨B, 0, none⟩)) := Hbox.out.kept hg4 (by simpa using hne)
            have hcell3 := hbox3.cell
            have hgg := Hg.out.trans hg4
            have hstop := cstop_calls B l i1 e1 4 w3 hcur3
            have Hbox3 := Lib.hid hbox3
            have Hcur3 := Lib.hid hcur3
            have Hgg := Lib.hid hgg
            clear hg4 hbox3 hcur3 hgg hg3
            go_wp2_with fail
            refine hstop.mono ?_
            rintro r w4 ⟨⟨vv, rfl⟩, hcur4, hg5⟩
            have Hbox4 := Lib.hid (Hbox3.out.kept hg5 (by simpa using hne))
            have Hcur4 := Lib.hid hcur4
            have Hg5 := Lib.hid (Hgg.out.trans hg5)
            clear hcur4 hg5
            go_wp2
            go_roundw
            case rel => exact ⟨1 + 1, by omega, by go_num, by rw [Hs.out, if_neg Hv.out]; exact Hcur4.out, Hbox4.out, Hg5.out⟩
            case measure => simp [intOf]
      · by_cases hv : v = mkB 2
        · have hvb : ((v : Int) != ((ByteArray.mk #[199, 84, 71, 1])[2].toNat : Int)) = false := by rw [hv]; rfl
          have Hv := Lib.hid hv
          clear hv
          go_wp2_with fail
          go_region_with (first
            | (go_at_call 118; (refine hbyte.mono ?_); rintro r w3 ⟨rfl, hcur3, hg3⟩))
          all_goals
            have hg4 : wr.grownBy w3 (some B) := ⟨hg3.os, hg3.tape, hg3.output, hg3.size, hg3.block⟩
            have hbox3 : Boxed w3 w.heap.size 117 (.pointer (some ⟨B, 0, none⟩)) := Hbox.out.kept hg4 (by simpa using hne)
            have hcell3 := hbox3.cell
            have hgg := Hg.out.trans hg4
            have hstop := cstop_calls B l i1 e1 4 w3 hcur3
            have Hbox3 := Lib.hid hbox3
            have Hcur3 := Lib.hid hcur3
            have Hgg := Lib.hid hgg
            clear hg4 hbox3 hcur3 hgg hg3
            go_wp2_with fail
            go_roundw
            case rel => exact ⟨2 + 1, by omega, by go_num, by rw [Hs.out, if_pos Hv.out]; exact Hcur3.out, Hbox3.out, Hgg.out⟩
            case measure => simp [intOf]
        · have hvb : ((v : Int) != ((ByteArray.mk #[199, 84, 71, 1])[2].toNat : Int)) = true := by
            have : ((ByteArray.mk #[199, 84, 71, 1])[2].toNat : Int) = ((mkB 2 : Nat) : Int) := rfl
            rw [this]
            exact bne_iff_ne.2 (fun h => hv (by omega))
          have Hv := Lib.hid hv
          clear hv
          go_wp2_with fail
          go_region_with (first
            | (go_at_call 118; (refine hbyte.mono ?_); rintro r w3 ⟨rfl, hcur3, hg3⟩))
          all_goals
            have hg4 : wr.grownBy w3 (some B) := ⟨hg3.os, hg3.tape, hg3.output, hg3.size, hg3.block⟩
            have hbox3 : Boxed w3 w.heap.size 117 (.pointer (some ⟨B, 0, none⟩)) := Hbox.out.kept hg4 (by simpa using hne)
            have hcell3 := hbox3.cell
            have hgg := Hg.out.trans hg4
            have hstop := cstop_calls B l i1 e1 4 w3 hcur3
            have Hbox3 := Lib.hid hbox3
            have Hcur3 := Lib.hid hcur3
            have Hgg := Lib.hid hgg
            clear hg4 hbox3 hcur3 hgg hg3
            go_wp2_with fail
            refine hstop.mono ?_
            rintro r w4 ⟨⟨vv, rfl⟩, hcur4, hg5⟩
            have Hbox4 := Lib.hid (Hbox3.out.kept hg5 (by simpa using hne))
            have Hcur4 := Lib.hid hcur4
            have Hg5 := Lib.hid (Hgg.out.trans hg5)
            clear hcur4 hg5
            go_wp2
            go_roundw
            case rel => exact ⟨2 + 1, by omega, by go_num, by rw [Hs.out, if_neg Hv.out]; exact Hcur4.out, Hbox4.out, Hg5.out⟩
            case measure => simp [intOf]
      · by_cases hv : v = mkB 3
        · have hvb : ((v : Int) != ((ByteArray.mk #[199, 84, 71, 1])[3].toNat : Int)) = false := by rw [hv]; rfl
          have Hv := Lib.hid hv
          clear hv
          go_wp2_with fail
          go_region_with (first
            | (go_at_call 118; (refine hbyte.mono ?_); rintro r w3 ⟨rfl, hcur3, hg3⟩))
          all_goals
            have hg4 : wr.grownBy w3 (some B) := ⟨hg3.os, hg3.tape, hg3.output, hg3.size, hg3.block⟩
            have hbox3 : Boxed w3 w.heap.size 117 (.pointer (some ⟨B, 0, none⟩)) := Hbox.out.kept hg4 (by simpa using hne)
            have hcell3 := hbox3.cell
            have hgg := Hg.out.trans hg4
            have hstop := cstop_calls B l i1 e1 4 w3 hcur3
            have Hbox3 := Lib.hid hbox3
            have Hcur3 := Lib.hid hcur3
            have Hgg := Lib.hid hgg
            clear hg4 hbox3 hcur3 hgg hg3
            go_wp2_with fail
            go_roundw
            case rel => exact ⟨3 + 1, by omega, by go_num, by rw [Hs.out, if_pos Hv.out]; exact Hcur3.out, Hbox3.out, Hgg.out⟩
            case measure => simp [intOf]
        · have hvb : ((v : Int) != ((ByteArray.mk #[199, 84, 71, 1])[3].toNat : Int)) = true := by
            have : ((ByteArray.mk #[199, 84, 71, 1])[3].toNat : Int) = ((mkB 3 : Nat) : Int) := rfl
            rw [this]
            exact bne_iff_ne.2 (fun h => hv (by omega))
          have Hv := Lib.hid hv
          clear hv
          go_wp2_with fail
          go_region_with (first
            | (go_at_call 118; (refine hbyte.mono ?_); rintro r w3 ⟨rfl, hcur3, hg3⟩))
          all_goals
            have hg4 : wr.grownBy w3 (some B) := ⟨hg3.os, hg3.tape, hg3.output, hg3.size, hg3.block⟩
            have hbox3 : Boxed w3 w.heap.size 117 (.pointer (some ⟨B, 0, none⟩)) := Hbox.out.kept hg4 (by simpa using hne)
            have hcell3 := hbox3.cell
            have hgg := Hg.out.trans hg4
            have hstop := cstop_calls B l i1 e1 4 w3 hcur3
            have Hbox3 := Lib.hid hbox3
            have Hcur3 := Lib.hid hcur3
            have Hgg := Lib.hid hgg
            clear hg4 hbox3 hcur3 hgg hg3
            go_wp2_with fail
            refine hstop.mono ?_
            rintro r w4 ⟨⟨vv, rfl⟩, hcur4, hg5⟩
            have Hbox4 := Lib.hid (Hbox3.out.kept hg5 (by simpa using hne))
            have Hcur4 := Lib.hid hcur4
            have Hg5 := Lib.hid (Hgg.out.trans hg5)
            clear hcur4 hg5
            go_wp2
            go_roundw
            case rel => exact ⟨3 + 1, by omega, by go_num, by rw [Hs.out, if_neg Hv.out]; exact Hcur4.out, Hbox4.out, Hg5.out⟩
            case measure => simp [intOf]
    · obtain rfl : k = 4 := by omega
      have hbyte := cbyte_calls B l _ _ wr hcur hle hl
      rw [(hd_eq l).1, (hd_eq l).2.1, (hd_eq l).2.2] at hbyte
      have hle2 := hdI_le l
      have hk255 := hdK_lt l
      have Hbox := Lib.hid hbox
      have Hg := Lib.hid hg
      clear hcur hbox hg
      by_cases hk : hdK l = 1 ∨ hdK l = 2
      · have HE := Lib.hid (show hdE l = hdE0 l by unfold hdE; rw [if_pos hk])
        have hkb : (((hdK l : Nat) : Int) == 1 || ((hdK l : Nat) : Int) == 2) = true := by
          rcases hk with h | h <;> rw [h] <;> rfl
        have Hk := Lib.hid hk
        clear hk
        go_wp2_with fail
        refine hbyte.mono ?_
        rintro r w3 ⟨rfl, hcur3, hg3⟩
        have hbox3 : Boxed w3 w.heap.size 117 (.pointer (some ⟨B, 0, none⟩)) := Hbox.out.kept hg3 (by simpa using hne)
        have hcell3 := hbox3.cell
        have hgg := Hg.out.trans hg3
        have hnum := cnumber_calls B l _ _ 4096 w3 hcur3 hle2 (by omega)
        have Hgg := Lib.hid hgg
        clear hbox3 hcur3 hgg hg3
        go_wp2_with fail
        refine (kind_calls _ _).mono ?_
        rintro r w4 ⟨rfl, rfl⟩
        rw [hkb]
        go_wp2_with fail
        refine hnum.mono ?_
        rintro r w5 ⟨rfl, hcur5, hg5⟩
        have Hcur5 := Lib.hid hcur5
        have Hg5 := Lib.hid (Hgg.out.trans hg5)
        have hnv := cnV_lt l (hdI l) (hdE0 l)
        clear hcur5 hg5
        go_wp2
        exact bodyPost_ret (v := .tuple #[.int .i64 (hdK l), .int .i64 (cnV l (hdI l) (hdE0 l) 4096)]) (by simp [results, Try.results72, go_sem]) rfl ⟨by rw [HE.out], by rw [HE.out]; exact Hcur5.out, Hg5.out⟩
      · have HE := Lib.hid (show hdE l = if hdE0 l = 0 then 4 else hdE0 l by unfold hdE; rw [if_neg hk])
        have hkb : (((hdK l : Nat) : Int) == 1 || ((hdK l : Nat) : Int) == 2) = false := by
          simp only [Bool.or_eq_false_iff, beq_eq_false_iff_ne]
          omega
        have Hk := Lib.hid hk
        clear hk
        go_wp2_with fail
        refine hbyte.mono ?_
        rintro r w3 ⟨rfl, hcur3, hg3⟩
        have hbox3 : Boxed w3 w.heap.size 117 (.pointer (some ⟨B, 0, none⟩)) := Hbox.out.kept hg3 (by simpa using hne)
        have hcell3 := hbox3.cell
        have hgg := Hg.out.trans hg3
        have hstop := cstop_calls B l (hdI l) (hdE0 l) 4 w3 hcur3
        have Hbox3 := Lib.hid hbox3
        have Hgg := Lib.hid hgg
        clear hbox3 hcur3 hgg hg3
        go_wp2_with fail
        refine (kind_calls _ _).mono ?_
        rintro r w4 ⟨rfl, rfl⟩
        rw [hkb]
        go_wp2_with fail
        refine hstop.mono ?_
        rintro r w4 ⟨⟨vv, rfl⟩, hcur4, hg4⟩
        rw [← HE.out] at hcur4
        have hbox4 := Hbox3.out.kept hg4 (by simpa using hne)
        have hcell4 := hbox4.cell
        have hnum := cnumber_calls B l _ _ 4096 w4 hcur4 hle2 (by omega)
        have Hg4 := Lib.hid (Hgg.out.trans hg4)
        clear hbox4 hcur4 hg4
        go_wp2_with fail
        refine hnum.mono ?_
        rintro r w5 ⟨rfl, hcur5, hg5⟩
        have Hcur5 := Lib.hid hcur5
        have Hg5 := Lib.hid (Hg4.out.trans hg5)
        have hnv := cnV_lt l (hdI l) (hdE l)
        clear hcur5 hg5
        go_wp2
        exact bodyPost_ret (v := .tuple #[.int .i64 (hdK l), .int .i64 (cnV l (hdI l) (hdE l) 4096)]) (by simp [results, Try.results72, go_sem]) rfl ⟨rfl, Hcur5.out, Hg5.out⟩

end Go.Proofs.Ytepnillddlemaaa
