/- The law FrameTold: a frame some bits of whose payload or sum are turned, within 32 in a row, is not read: ErrSum. The conditions: the frame is read from memory. -/
import Derived.Test.YteolgkjokhmmfaaWalkFrameShort
import Derived.Test.YteolgkjokhmmfaaWalkCrcTold
set_option linter.unusedVariables false
set_option linter.unusedSimpArgs false
namespace Go.Proofs.Yteolgkjokhmmfaa
open Go.RowKit Go.Shelf TG TG.Crc
attribute [local go_sem] Oper.semAt_some

set_option maxRecDepth 100000 in
set_option maxHeartbeats 1000000 in
theorem ftold_good (k : Nat) (hk : k = 1 ∨ k = 2) (w : World) (A : Option Addr) (c : Nat) (p : List UInt8) (hr : RB w A c p) (hp : p.length ≤ 4096) (a : Int) (ha0 : 0 ≤ a) (ha1 : a < 65536) (T : BitVec 32) (hT : T ≠ 0#32) :
    Calls Try.prog 9 #[.agg #[.int .i64 k, .slice A p.length c], .int .u16 a, .int .u32 (un T)] w fun e w' => e = .returned (.bool true) ∧ Below w.heap.size w w' := by
  have hbx : Blk (w.alloc (.cells #[.int .i64 k, .slice A p.length c] 39)) w.heap.size 39 [.int .i64 k, .slice A p.length c] := Blk.new _ _ _
  have hB0 : Below w.heap.size w (w.alloc (.cells #[.int .i64 k, .slice A p.length c] 39)) := below_new (Below.refl _ _) _
  have hput := fput_calls k hk A c p _ (hr.alloc (.cells #[.int .i64 k, .slice A p.length c] 39)) hp
  have hlen := fp_length k p
  have hnb := nb_len (n := p.length) (by omega)
  have hnb1 := nb_pos p.length
  have hfz := fsz_fp k p hp
  have hT0 : (un T == 0) = false := by
    rw [beq_eq_false_iff_ne]
    intro h
    exact hT (un_inj.1 (h.trans un_zero.symm))
  have htold := fun m hm f h1 h2 h => fg_told k hk p hp m hm T hT f h1 h2 h
  obtain ⟨q, hq⟩ : ∃ q, q = 5 + (nb p.length).length := ⟨_, rfl⟩
  rw [← hq] at htold
  have hq5 : 6 ≤ q ∧ q ≤ 15 := by omega
  have hlen2 : (fp k p).length = q + p.length + 4 := by omega
  have HT := Lib.hid hT
  have HB0 := Lib.hid hB0
  have Hbx := Lib.hid hbx
  have HFZ := Lib.hid hfz
  clear hT hB0 hbx hk hlen hnb hnb1 hfz hq
  generalize fp k p = fo at *
  have Htold := Lib.hid htold
  clear htold
  have hf10 : (10 : Int) ≤ (fo.length : Int) := by omega
  have hfl : fo.length ≤ 5000 := by omega
  have HL := Lib.hid hlen2
  have hle2 : q + p.length + 4 ≤ fo.length := by omega
  have hge2 : fo.length ≤ q + p.length + 4 := by omega
  clear hlen2
  go_enter Try.func9, Try.ntmps9
  go_wp2_with fail
  refine hput.mono ?_
  rintro e w1 ⟨v1, rfl, hown1, hB1⟩
  obtain ⟨A1, c1, rfl⟩ := own_form hown1
  obtain ⟨g, rfl, hg, hc1⟩ := own_some hown1 (by omega)
  have hB01 := below_chain HB0.out hB1
  have hx1 := Hbx.out.below hB1
  have hcc := hx1.cell 1
  simp only [List.getElem?_cons_zero, List.getElem?_cons_succ] at hcc
  have hsz := fsize_calls p.length w1 (by omega)
  rw [HFZ.out] at hsz
  clear hB1 hput
  go_wp2_with fail
  refine hsz.mono ?_
  rintro e w2 ⟨rfl, hB2⟩
  have hx2 := hx1.below hB2
  clear hcc hsz
  have hcc := hx2.cell 1
  simp only [List.getElem?_cons_zero, List.getElem?_cons_succ] at hcc
  have hown2 := own_below hown1 hB2
  have hB02 := below_chain hB01 hB2
  have e1 : (fo.length : Int) - 4 - (p.length : Int) = (q : Int) := by omega
  obtain ⟨fr, hfr, hf1, hf2⟩ : ∃ fr : Nat, 8 * (q : Int) + a % (8 * (fo.length : Int) - 31 - 8 * (q : Int)) = (fr : Int) ∧ 8 * q ≤ fr ∧ fr + 32 ≤ 8 * fo.length := by
    have h1 := Int.emod_lt_of_pos a (show 0 < 8 * (fo.length : Int) - 31 - 8 * (q : Int) by omega)
    have h2 := Int.emod_nonneg a (show 8 * (fo.length : Int) - 31 - 8 * (q : Int) ≠ 0 by omega)
    exact ⟨(8 * (q : Int) + a % (8 * (fo.length : Int) - 31 - 8 * (q : Int))).toNat, by omega, by omega, by omega⟩
  have hgw : w.heap.size ≤ g := by have := HB0.out.size; omega
  clear hx1 hx2 hB2 hB01 hown1
  have HFR := Lib.hid hfr
  go_wp2_with fail
  have hl10 : fo.length ≤ 140737488355328 := by omega
  clear e1 hfr hcc ha0 ha1
  go_loopw [58] (fun i wr => ∃ (j : Nat) (m : List UInt8), j ≤ 32 ∧ i = .int .i64 j ∧ m.length = fo.length ∧ wr.ownsRow (w.alloc (.cells #[.int .i64 k, .slice A p.length c] 39)).heap.size 5 1 (.slice (some ⟨g, 0, none⟩) fo.length c1) fo.length (bc m) ∧ Hid (∀ i, i < 8 * fo.length → bit m i = (bit fo i ^^ turnAt T fr j i)) ∧ Below w.heap.size w wr) (fun i _ => 32 - (intOf i).toNat)
  case atStart => exact ⟨0, fo, by omega, rfl, rfl, hown2, fun i _ => by rw [turnAt_none]; simp, hB02⟩
  case round =>
    obtain ⟨j, m, hj, rfl, hm, hown, Hbit, hB⟩ := hrel
    by_cases h32 : j < 32
    · have hq : (fr + j) / 8 < m.length := by omega
      have hcell : wr.cell? ⟨g, (fr + j) / 8, none⟩ = some (.int .u8 (m[(fr + j) / 8].toNat : Int)) := by rw [hown.cellAt ((fr + j) / 8) (by omega)]; simp [bc, hq]
      have hfz := hown.frozenAt ((fr + j) / 8)
      have hb0 := byte_lo m[(fr + j) / 8]
      have hb1 := byte_hi m[(fr + j) / 8]
      cases hbt : T.getLsbD j with
      | false =>
        have ht := (bit_test T j).trans hbt
        go_wp2
        go_roundw
        case rel => exact ⟨j + 1, m, by omega, by go_num, hm, hown, (fun i hi => by rw [Hbit.out i hi, turnAt_succ, hbt]; simp), hB⟩
        case measure => simp [intOf]; omega
      | true =>
        have ht := (bit_test T j).trans hbt
        go_wp2
        have hst := hown.stored ((fr + j) / 8) (.int .u8 (bits .xor .u8 (m[(fr + j) / 8].toNat : Int) (2 ^ ((fr + j) % 8) % 256)))
        have hset : (bc m).set ((fr + j) / 8) (.int .u8 (bits .xor .u8 (m[(fr + j) / 8].toNat : Int) (2 ^ ((fr + j) % 8) % 256))) = bc (m.set ((fr + j) / 8) (m[(fr + j) / 8] ^^^ UInt8.ofNat (2 ^ ((fr + j) % 8)))) := by
          rw [pow_byte, bits8_xor, bc, bc, List.map_set]
        rw [hset] at hst
        go_roundw
        case rel => exact ⟨j + 1, m.set ((fr + j) / 8) (m[(fr + j) / 8] ^^^ UInt8.ofNat (2 ^ ((fr + j) % 8))), by omega, by go_num, by simp [hm], hst.1, (fun i hi => by rw [bit_flip m (fr + j) hq i, Hbit.out i hi, turnAt_succ, hbt]; simp [Bool.xor_assoc]), hB.grown hst.2 hB.size (fun j e => by cases e; exact hgw)⟩
        case measure => simp [intOf]; omega
    · obtain rfl : j = 32 := by omega
      have hE5 := Htold.out m hm fr hf1 hf2 Hbit.out
      have hrm : RB wr (some ⟨g, 0, none⟩) c1 m := own_RB (base := (w.alloc (.cells #[.int .i64 k, .slice A p.length c] 39)).heap.size) (e := 5) (by rw [hm]; exact hown) (by omega)
      have hget := fget_calls _ _ m wr hrm (by omega)
      rw [hm] at hget
      obtain ⟨g1, g2, g3⟩ := g_none (l := m) (by omega)
      have Hget := Lib.hid hget
      have HE5 := Lib.hid hE5
      have G1 := Lib.hid g1
      have G2 := Lib.hid g2
      have G3 := Lib.hid g3
      have HM := Lib.hid hm
      clear hget hE5 g1 g2 g3 hrm hown hm
      go_wp2_with fail
      refine Hget.out.mono ?_
      rintro e w3 ⟨A3, c3, rfl, hr3, hn3, hB3⟩
      rw [G1.out, G2.out, G3.out, HE5.out]
      have hB04 := below_new (below_chain hB hB3) (.cells #[.int .i64 0, .slice A3 0 c3] 39)
      clear hr3 hn3 hB3
      go_wp2_with fail
      refine (fixed5_calls _).mono ?_
      rintro e w6 ⟨rfl, hB6⟩
      go_wp2
      go_ret
      exact ⟨rfl, below_chain hB04 hB6⟩

set_option maxRecDepth 100000 in
set_option maxHeartbeats 1000000 in
theorem ftold_none (k : Nat) (hk : k = 1 ∨ k = 2) (w : World) (A : Option Addr) (c : Nat) (p : List UInt8) (hr : RB w A c p) (hp : p.length ≤ 4096) (a : Int) :
    Calls Try.prog 9 #[.agg #[.int .i64 k, .slice A p.length c], .int .u16 a, .int .u32 0] w fun e w' => e = .returned (.bool true) ∧ Below w.heap.size w w' := by
  have hbx : Blk (w.alloc (.cells #[.int .i64 k, .slice A p.length c] 39)) w.heap.size 39 [.int .i64 k, .slice A p.length c] := Blk.new _ _ _
  have hB0 : Below w.heap.size w (w.alloc (.cells #[.int .i64 k, .slice A p.length c] 39)) := below_new (Below.refl _ _) _
  have hput := fput_calls k hk A c p _ (hr.alloc (.cells #[.int .i64 k, .slice A p.length c] 39)) hp
  have HB0 := Lib.hid hB0
  have Hbx := Lib.hid hbx
  clear hB0 hbx hk
  go_enter Try.func9, Try.ntmps9
  go_wp2_with fail
  refine hput.mono ?_
  rintro e w1 ⟨v1, rfl, hown1, hB1⟩
  have hB01 := below_chain HB0.out hB1
  have hx1 := Hbx.out.below hB1
  have hcc := hx1.cell 1
  simp only [List.getElem?_cons_zero, List.getElem?_cons_succ] at hcc
  have hsz := fsize_calls p.length w1 (by omega)
  clear hB1 hput hown1 hx1
  go_wp2_with fail
  refine hsz.mono ?_
  rintro e w2 ⟨rfl, hB2⟩
  have hB02 := below_chain hB01 hB2
  clear hcc hsz
  go_wp2_with fail
  refine (fixed5_calls _).mono ?_
  rintro e w6 ⟨rfl, hB6⟩
  go_wp2
  go_ret
  exact ⟨rfl, below_chain hB02 hB6⟩
set_option maxRecDepth 100000 in
set_option maxHeartbeats 1000000 in
theorem ftold_bad (k : Int) (w : World) (A : Option Addr) (c : Nat) (p : List UInt8) (hr : RB w A c p) (hk : ¬ (k = 1 ∨ k = 2) ∨ (k = 1 ∨ k = 2) ∧ 4096 < p.length) (a b : Int) :
    Calls Try.prog 9 #[.agg #[.int .i64 k, .slice A p.length c], .int .u16 a, .int .u32 b] w fun e w' => e = .returned (.bool true) ∧ Below w.heap.size w w' := by
  have hbx : Blk (w.alloc (.cells #[.int .i64 k, .slice A p.length c] 39)) w.heap.size 39 [.int .i64 k, .slice A p.length c] := Blk.new _ _ _
  have hB0 : Below w.heap.size w (w.alloc (.cells #[.int .i64 k, .slice A p.length c] 39)) := below_new (Below.refl _ _) _
  have hl := hr.2.1
  have hput : Calls Try.prog 34 #[.agg #[.int .i64 k, .slice A p.length c]] (w.alloc (.cells #[.int .i64 k, .slice A p.length c] 39)) fun e w' => e = .returned (.tuple #[.slice none 0 0, .int .i64 1]) ∧ Below (w.alloc (.cells #[.int .i64 k, .slice A p.length c] 39)).heap.size (w.alloc (.cells #[.int .i64 k, .slice A p.length c] 39)) w' := by
    rcases hk with h | ⟨h, h4⟩
    · exact fput_kind k h A c p _ (hr.alloc _)
    · exact fput_long k h A c p _ (hr.alloc _) h4
  have HB0 := Lib.hid hB0
  have Hbx := Lib.hid hbx
  clear hk hB0 hbx
  go_enter Try.func9, Try.ntmps9
  go_wp2_with fail
  refine hput.mono ?_
  rintro e w1 ⟨rfl, hB1⟩
  have hB01 := below_chain HB0.out hB1
  have hx1 := Hbx.out.below hB1
  have hcc := hx1.cell 1
  simp only [List.getElem?_cons_zero, List.getElem?_cons_succ] at hcc
  have hsz := fsize_calls p.length w1 (by omega)
  clear hB1 hput hx1
  go_wp2_with fail
  refine hsz.mono ?_
  rintro e w2 ⟨rfl, hB2⟩
  have hB02 := below_chain hB01 hB2
  clear hcc hsz
  go_wp2_with fail
  refine (fixed5_calls _).mono ?_
  rintro e w6 ⟨rfl, hB6⟩
  go_wp2
  go_ret
  exact ⟨rfl, below_chain hB02 hB6⟩

theorem walk_FrameTold (w : World) (x : Int × List UInt8) (cs : Array Value) (hx : (Rd.pair (Rd.num .i64) (Rd.slice Rd.u8 (by decide))).K (fun _ => True) w x cs.toList) (a : Int) (ha : (Lit.int .u16 a).wf = true) (b : Int) (hb : (Lit.int .u32 b).wf = true) :
    Calls Try.prog 9 #[.agg cs, .int .u16 a, .int .u32 b] w fun e w' => e = .returned (.bool true) ∧ Below w.heap.size w w' := by
  obtain ⟨k, p⟩ := x
  obtain ⟨c1, c2, hcs, ⟨rfl, hwf⟩, ⟨A, c, rfl, hS⟩⟩ := hx
  have hr := Rd.S_RB hS
  obtain rfl : cs = #[.int .i64 k, .slice A p.length c] := by apply Array.toList_inj.1; exact hcs
  obtain ⟨ha0, ha1⟩ := wf_u16 ha
  by_cases hk : k = 1 ∨ k = 2
  · by_cases hp : p.length ≤ 4096
    · obtain ⟨T, rfl⟩ := word_of b hb
      by_cases hT : T = 0#32
      · subst hT
        rw [un_zero]
        rcases hk with rfl | rfl
        · exact ftold_none 1 (.inl rfl) w A c p hr hp a
        · exact ftold_none 2 (.inr rfl) w A c p hr hp a
      · rcases hk with rfl | rfl
        · exact ftold_good 1 (.inl rfl) w A c p hr hp a ha0 ha1 T hT
        · exact ftold_good 2 (.inr rfl) w A c p hr hp a ha0 ha1 T hT
    · exact ftold_bad k w A c p hr (.inr ⟨hk, by omega⟩) a b
  · exact ftold_bad k w A c p hr (.inl hk) a b
end Go.Proofs.Yteolgkjokhmmfaa
