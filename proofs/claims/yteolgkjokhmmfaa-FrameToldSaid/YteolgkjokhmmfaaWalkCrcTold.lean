/- The law CrcTold, called with any bytes, any place and any bits to turn, returns true. No condition. -/
import Derived.Test.YteolgkjokhmmfaaCrc
import Derived.Test.YteolgkjokhmmfaaMathTold
set_option linter.unusedVariables false
set_option linter.unusedSimpArgs false
namespace Go.Proofs.Yteolgkjokhmmfaa
open Go.RowKit TG TG.Crc

theorem word_of (a : Int) (h : (Lit.int .u32 a).wf = true) : ∃ b : BitVec 32, a = un b := by
  have h1 : IntKind.u32.min = 0 := rfl
  have h2 : IntKind.u32.max = 4294967295 := rfl
  simp [Lit.wf, h1, h2] at h
  exact ⟨BitVec.ofNat 32 a.toNat, by unfold un; simp; omega⟩

theorem infoU8 : (Try.prog.info? 5).map (fun i => (i.zero, i.size, i.bytes)) = some (some (.int .u8 0), 1, 1) := by kernel_rfl

set_option maxRecDepth 100000 in
set_option maxHeartbeats 1000000 in
theorem told_main (A : Option Addr) (c : Nat) (l : List UInt8) (w : World) (hr : RB w A c l) (p : Int) (hp0 : 0 ≤ p) (hp1 : p < 65536) (T : BitVec 32) (hT : T ≠ 0#32) (h4 : 4 ≤ l.length) (h1000 : l.length ≤ 1000) :
    Calls Try.prog 4 #[.slice A l.length c, .int .u16 p, .int .u32 (un T)] w fun e w' => e = .returned (.bool true) ∧ Below w.heap.size w w' := by
  obtain ⟨i0, hi, hz0, hz1, hz2⟩ := info_parts infoU8
  have hT0 : (un T == 0) = false := by
    rw [beq_eq_false_iff_ne]
    intro h
    exact hT (un_inj.1 (h.trans un_zero.symm))
  have HT := Lib.hid hT
  clear hT
  obtain ⟨ad, rfl, _⟩ := hr.at 0 (by omega)
  have hr1 := hr.alloc (.cells #[] 5)
  go_enter Try.func4, Try.ntmps4
  go_wp2_with (at_builtin; go_loud (refine wpList_append_own _ rfl _ _ 27 rfl w.heap.size 5 i0 (.int .u8 0) 1 1 Try.underlying27 hi hz0 hz1 hz2 rfl (by decide) _ 0 [] rfl (own_empty w 5 1) ad l.length c (bc l) rfl (by simp) hr1.news (bc_one l) (by simp only [maxLen]; omega) (by omega) (by simp) ?_); intro v' w1 hown' hgrow _)
  obtain ⟨fr, hfr, hfb⟩ : ∃ fr : Nat, p % (8 * (l.length : Int) - 31) = (fr : Int) ∧ fr + 32 ≤ 8 * l.length := ⟨(p % (8 * (l.length : Int) - 31)).toNat, by rw [Int.toNat_of_nonneg (Int.emod_nonneg _ (by omega))], by have := Int.emod_lt_of_pos p (show 0 < 8 * (l.length : Int) - 31 by omega); have := Int.emod_nonneg p (show 8 * (l.length : Int) - 31 ≠ 0 by omega); omega⟩
  simp only [Act.eval, Value.ownBlock] at hgrow
  obtain ⟨g, cap, rfl, hgw⟩ : ∃ g cap, v' = .slice (some ⟨g, 0, none⟩) l.length cap ∧ w.heap.size ≤ g := by
    rcases hown'.2 with ⟨_, h0⟩ | ⟨g, cap, cur, rfl, hg, _⟩
    · omega
    · exact ⟨g, cap, by simp, hg⟩
  have hB1 : Below w.heap.size w w1 := ((Below.refl w.heap.size w).alloc (Nat.le_refl _) _).grown hgrow (by simp) (fun k e => by simp [Act.eval, Value.ownBlock] at e; omega)
  have hown1 : w1.ownsRow w.heap.size 5 1 (.slice (some ⟨g, 0, none⟩) l.length cap) l.length (bc l) := by simpa using hown'
  rw [hfr]
  clear hfr hgrow hown' hp0 hp1
  go_loopw [33] (fun i wr => ∃ (k : Nat) (m : List UInt8), k ≤ 32 ∧ i = .int .i64 k ∧ m.length = l.length ∧ wr.ownsRow w.heap.size 5 1 (.slice (some ⟨g, 0, none⟩) l.length cap) l.length (bc m) ∧ Hid (∀ i, i < 8 * l.length → bit m i = (bit l i ^^ turnAt T fr k i)) ∧ Below w.heap.size w wr) (fun i _ => 32 - (intOf i).toNat)
  case atStart => exact ⟨0, l, by omega, rfl, rfl, hown1, fun i _ => by rw [turnAt_none]; simp, hB1⟩
  case round =>
    obtain ⟨k, m, hk, rfl, hm, hown, Hbit, hB⟩ := hrel
    by_cases h32 : k < 32
    · have hq : (fr + k) / 8 < m.length := by omega
      have hcell : wr.cell? ⟨g, (fr + k) / 8, none⟩ = some (.int .u8 (m[(fr + k) / 8].toNat : Int)) := by rw [hown.cellAt ((fr + k) / 8) (by omega)]; simp [bc, hq]
      have hfz := hown.frozenAt ((fr + k) / 8)
      have hb0 := byte_lo m[(fr + k) / 8]
      have hb1 := byte_hi m[(fr + k) / 8]
      cases hbt : T.getLsbD k with
      | false =>
        have ht := (bit_test T k).trans hbt
        go_wp2
        go_roundw
        case rel => exact ⟨k + 1, m, by omega, by go_num, hm, hown, (fun i hi => by rw [Hbit.out i hi, turnAt_succ, hbt]; simp), hB⟩
        case measure => simp [intOf]; omega
      | true =>
        have ht := (bit_test T k).trans hbt
        go_wp2
        have hst := hown.stored ((fr + k) / 8) (.int .u8 (bits .xor .u8 (m[(fr + k) / 8].toNat : Int) (2 ^ ((fr + k) % 8) % 256)))
        have hset : (bc m).set ((fr + k) / 8) (.int .u8 (bits .xor .u8 (m[(fr + k) / 8].toNat : Int) (2 ^ ((fr + k) % 8) % 256))) = bc (m.set ((fr + k) / 8) (m[(fr + k) / 8] ^^^ UInt8.ofNat (2 ^ ((fr + k) % 8)))) := by
          rw [pow_byte, bits8_xor, bc, bc, List.map_set]
        rw [hset] at hst
        go_roundw
        case rel => exact ⟨k + 1, m.set ((fr + k) / 8) (m[(fr + k) / 8] ^^^ UInt8.ofNat (2 ^ ((fr + k) % 8))), by omega, by go_num, by simp [hm], hst.1, (fun i hi => by rw [bit_flip m (fr + k) hq i, Hbit.out i hi, turnAt_succ, hbt]; simp [Bool.xor_assoc]), hB.grown hst.2 hB.size (fun j e => by cases e; exact hgw)⟩
        case measure => simp [intOf]; omega
    · obtain rfl : k = 32 := by omega
      have hne := told_crc l m T HT.out fr hfb hm Hbit.out
      go_wp2_with fail
      refine (fixed4_calls _).mono ?_
      rintro e w2 ⟨rfl, hB2⟩
      have hB3 : Below w.heap.size w w2 := hB.trans (hB2.mono hB.size)
      have hrl := (hr.below hB3).alloc (.cells #[.slice (some ad) l.length c] 27)
      go_wp2_with fail
      refine (sum_calls (fun _ => True) _ 1 [l] _ (Rd.S_one (World.alloc_heap_new w2 _) (Rd.u8_of_RB hrl (fun _ _ => trivial)))).mono ?_
      rintro e w3 ⟨rfl, rfl⟩
      rw [List.flatten_singleton]
      have hrm : RB w2 (some ⟨g, 0, none⟩) cap m := own_RB (base := w.heap.size) (e := 5) (by rw [hm]; exact own_below hown hB2) (by omega)
      have hrm2 := (hrm.alloc (.cells #[.slice (some ad) l.length c] 27)).alloc (.cells #[.slice (some ⟨g, 0, none⟩) l.length cap] 27)
      have hnew := World.alloc_heap_new (w2.alloc (.cells #[.slice (some ad) l.length c] 27)) (.cells #[.slice (some ⟨g, 0, none⟩) l.length cap] 27)
      rw [World.size_alloc] at hnew
      rw [← hm] at hnew
      go_wp2_with fail
      rw [← hm]
      refine (sum_calls (fun _ => True) _ 1 [m] _ (Rd.S_one hnew (Rd.u8_of_RB (by rw [hm]; exact hrm2) (fun _ _ => trivial)))).mono ?_
      rintro e w3 ⟨rfl, rfl⟩
      rw [List.flatten_singleton]
      go_wp2
      go_ret
      exact ⟨rfl, (hB3.alloc (by have := hB3.size; omega) _).alloc (by have := hB3.size; simp; omega) _⟩

set_option maxRecDepth 100000 in
set_option maxHeartbeats 1000000 in
theorem walk_CrcTold (w : World) (A : Option Addr) (c : Nat) (l : List UInt8) (hr : RB w A c l) (p : Int) (hp : (Lit.int .u16 p).wf = true) (t : Int) (ht : (Lit.int .u32 t).wf = true) :
    Calls Try.prog 4 #[.slice A l.length c, .int .u16 p, .int .u32 t] w fun e w' => e = .returned (.bool true) ∧ Below w.heap.size w w' := by
  obtain ⟨T, rfl⟩ := word_of t ht
  have h1 : IntKind.u16.min = 0 := rfl
  have h2 : IntKind.u16.max = 65535 := rfl
  simp [Lit.wf, h1, h2] at hp
  by_cases h4 : l.length < 4
  · go_enter Try.func4, Try.ntmps4
    go_wp2_with fail
    refine (fixed4_calls _).mono ?_
    rintro e w1 ⟨rfl, hB⟩
    go_wp2
    go_ret
    exact ⟨rfl, hB⟩
  · by_cases h1000 : 1000 < l.length
    · have hl := hr.2.1
      go_enter Try.func4, Try.ntmps4
      go_wp2_with fail
      refine (fixed4_calls _).mono ?_
      rintro e w1 ⟨rfl, hB⟩
      go_wp2
      go_ret
      exact ⟨rfl, hB⟩
    · by_cases hT : T = 0#32
      · subst hT
        rw [un_zero]
        go_enter Try.func4, Try.ntmps4
        go_wp2_with fail
        refine (fixed4_calls _).mono ?_
        rintro e w1 ⟨rfl, hB⟩
        go_wp2
        go_ret
        exact ⟨rfl, hB⟩
      · exact told_main A c l w hr p (by omega) (by omega) T hT (by omega) (by omega)

end Go.Proofs.Yteolgkjokhmmfaa
