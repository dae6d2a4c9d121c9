/- The law FrameShort: of a frame's bytes, cut off anywhere, none is read: ErrShort; with the last byte another one: ErrSum. The conditions: the frame is read from memory. -/
import Derived.Test.YteolgkjokhmmfaaWalkFramePuts
import Derived.Test.YteolgkjokhmmfaaMathFrame4
set_option linter.unusedVariables false
set_option linter.unusedSimpArgs false
namespace Go.Proofs.Yteolgkjokhmmfaa
open Go.RowKit Go.Shelf TG TG.Crc
attribute [local go_sem] Oper.semAt_some

theorem own_some {w : World} {base : Nat} {e : TypeId} {n cap : Nat} {A : Option Addr} {xs : List Value} (h : w.ownsRow base e 1 (.slice A n cap) n xs) (hn : 0 < n) : ∃ g, A = some ⟨g, 0, none⟩ ∧ base ≤ g ∧ n ≤ cap := by
  rcases h.2 with ⟨_, h0⟩ | ⟨g, cap', cur, hv, hg, _, hc, _⟩
  · omega
  · simp only [Value.slice.injEq] at hv
    obtain ⟨rfl, _, rfl⟩ := hv
    exact ⟨g, rfl, hg, hc⟩
theorem turned (x : UInt8) (b : Int) (h0 : 0 ≤ b) (h1 : b < 256) : ∃ y : UInt8, bits .xor .u8 (x.toNat : Int) (1 + b % 255) = (y.toNat : Int) ∧ y ≠ x := by
  have h2 : 0 ≤ b % 255 := Int.emod_nonneg _ (by decide)
  have h3 : b % 255 < 255 := Int.emod_lt_of_pos _ (by decide)
  obtain ⟨t, ht⟩ : ∃ t : Nat, b % 255 = (t : Int) := ⟨(b % 255).toNat, by omega⟩
  refine ⟨x ^^^ UInt8.ofNat (1 + t), ?_, fun e => ?_⟩
  · rw [← bits8_xor, UInt8.toNat_ofNat', Nat.mod_eq_of_lt (by omega), ht]
    congr 1
  · have e1 : UInt8.ofNat (1 + t) = 0 := by
      have := congrArg (fun z => x ^^^ z) e
      simp only [← UInt8.xor_assoc, UInt8.xor_self, UInt8.zero_xor] at this
      exact this
    have := congrArg UInt8.toNat e1
    rw [UInt8.toNat_ofNat', Nat.mod_eq_of_lt (by omega)] at this
    simp at this

set_option maxRecDepth 100000 in
set_option maxHeartbeats 1000000 in
theorem short_good (k : Nat) (hk : k = 1 ∨ k = 2) (w : World) (A : Option Addr) (c : Nat) (p : List UInt8) (hr : RB w A c p) (hp : p.length ≤ 4096) (a : Int) (ha0 : 0 ≤ a) (ha1 : a < 65536) (b : Int) (hb0 : 0 ≤ b) (hb1 : b < 256) :
    Calls Try.prog 8 #[.agg #[.int .i64 k, .slice A p.length c], .int .u16 a, .int .u8 b] w fun e w' => e = .returned (.bool true) ∧ Below w.heap.size w w' := by
  have hB0 : Below w.heap.size w (w.alloc (.cells #[.int .i64 k, .slice A p.length c] 39)) := below_new (Below.refl _ _) _
  have hput := fput_calls k hk A c p _ (hr.alloc (.cells #[.int .i64 k, .slice A p.length c] 39)) hp
  have hfl : (fp k p).length ≤ 5000 ∧ 10 ≤ (fp k p).length := by have := fp_length k p; have := nb_len (n := p.length) (by omega); have := nb_pos p.length; omega
  obtain ⟨hfl, hf10⟩ := hfl
  have hshort := fun m hm => fg_short k hk p hp m hm
  have hlast := fg_last k hk p hp _ rfl
  have HB0 := Lib.hid hB0
  clear hB0 hk
  generalize fp k p = fo at *
  have Hshort := Lib.hid hshort
  have Hlast := Lib.hid hlast
  clear hshort hlast
  go_enter Try.func8, Try.ntmps8
  go_wp2_with fail
  refine hput.mono ?_
  rintro e w1 ⟨v1, rfl, hown1, hB1⟩
  obtain ⟨A1, c1, rfl⟩ := own_form hown1
  obtain ⟨g, rfl, hg, hc1⟩ := own_some hown1 (by omega)
  have hB01 := below_chain HB0.out hB1
  obtain ⟨m, hm, hmn⟩ : ∃ m : Nat, a % (fo.length : Int) = (m : Int) ∧ m < fo.length := ⟨(a % (fo.length : Int)).toNat, by rw [Int.toNat_of_nonneg (Int.emod_nonneg _ (by omega))], by have := Int.emod_lt_of_pos a (show 0 < (fo.length : Int) by omega); have := Int.emod_nonneg a (show (fo.length : Int) ≠ 0 by omega); omega⟩
  have hr1 := own_RB hown1 (by omega)
  have hmm : (fo.take m).length = m := by simp; omega
  have hget := fget_calls (some ⟨g, 0, none⟩) c1 (fo.take m) w1 (hr1.take m (by omega)) (by omega)
  rw [hmm] at hget
  have hE2 := Hshort.out m hmn
  obtain ⟨g1, g2, g3⟩ := g_none (l := fo.take m) (by omega)
  have Hget := Lib.hid hget
  have HE2 := Lib.hid hE2
  have G1 := Lib.hid g1
  have G2 := Lib.hid g2
  have G3 := Lib.hid g3
  have HM := Lib.hid hm
  have hm0 : (0 : Int) ≤ (m : Int) := Int.natCast_nonneg _
  have hm1 : (m : Int) ≤ (c1 : Int) := by omega
  have HR := Lib.hid hmm
  clear hget hE2 g1 g2 g3 hput hB1 hmm hr1
  go_wp2_with fail
  refine Hget.out.mono ?_
  rintro e w2 ⟨A2, c2, rfl, hr2, hn2, hB2⟩
  rw [G1.out, G2.out, G3.out, HE2.out]
  obtain ⟨j, hj⟩ : ∃ j : Nat, j + 1 = fo.length := ⟨fo.length - 1, by omega⟩
  have hj1 : (fo.length : Int) - 1 = (j : Int) := by omega
  have hB12 := below_new hB2 (.cells #[.int .i64 0, .slice A2 0 c2] 39)
  have hown2 := own_below hown1 hB12
  have hB02 := below_chain hB01 hB12
  have hcl : (w2.alloc (.cells #[.int .i64 0, .slice A2 0 c2] 39)).cell? ⟨g, j, none⟩ = some (.int .u8 (fo[j].toNat : Int)) := by
    rw [hown2.cellAt j (by omega)]
    have hjl : j < fo.length := by omega
    simp [bc, hjl]
  have hfz := hown2.frozenAt j
  obtain ⟨y, hy, hyn⟩ := turned fo[j] b hb0 hb1
  have hst := hown2.stored j (.int .u8 (y.toNat : Int))
  have hset : (bc fo).set j (.int .u8 (y.toNat : Int)) = bc (fo.set j y) := by rw [bc, bc, List.map_set]
  rw [hset] at hst
  have hbx0 := byte_lo fo[j]
  have hbx1 := byte_hi fo[j]
  clear hB2 hr2 hn2 hown1 hown2 hset hB01 Hget
  go_wp2_with fail
  have hjl : j < fo.length := by omega
  have hj2 : fo.length - 1 = j := by omega
  have hE5 := Hlast.out y (by rw [hj2, List.getElem?_eq_getElem hjl]; intro e; exact hyn (Option.some.inj e).symm)
  rw [hj2] at hE5
  have hsl : (fo.set j y).length = fo.length := List.length_set
  have hr5 : RB _ (some ⟨g, 0, none⟩) c1 (fo.set j y) := own_RB (base := (w.alloc (.cells #[.int .i64 k, .slice A p.length c] 39)).heap.size) (e := 5) (by rw [hsl]; exact hst.1) (by omega)
  have hget := fget_calls (some ⟨g, 0, none⟩) c1 (fo.set j y) _ hr5 (by omega)
  rw [hsl] at hget
  have hB03 : Below w.heap.size w _ := hB02.grown hst.2 hB02.size (fun q e => by cases e; have := HB0.out.size; omega)
  obtain ⟨g1, g2, g3⟩ := g_none (l := fo.set j y) (by omega)
  clear hst hcl hfz hy hyn hr5 hB12 hB02 hj1 hj2 hbx0 hbx1
  refine hget.mono ?_
  rintro e w3 ⟨A3, c3, rfl, hr3, hn3, hB3⟩
  rw [g1, g2, g3, hE5]
  have hB04 := below_new (below_chain hB03 hB3) (.cells #[.int .i64 0, .slice A3 0 c3] 39)
  clear hget hr3 hn3 hB3 hB03 g1 g2 g3 hE5
  go_wp2_with fail
  refine (fixed5_calls _).mono ?_
  rintro e w6 ⟨rfl, hB6⟩
  go_wp2
  go_ret
  exact ⟨rfl, below_chain hB04 hB6⟩

set_option maxRecDepth 100000 in
set_option maxHeartbeats 1000000 in
theorem short_bad (k : Int) (w : World) (A : Option Addr) (c : Nat) (p : List UInt8) (hr : RB w A c p) (hk : ¬ (k = 1 ∨ k = 2) ∨ (k = 1 ∨ k = 2) ∧ 4096 < p.length) (a b : Int) :
    Calls Try.prog 8 #[.agg #[.int .i64 k, .slice A p.length c], .int .u16 a, .int .u8 b] w fun e w' => e = .returned (.bool true) ∧ Below w.heap.size w w' := by
  have hB0 : Below w.heap.size w (w.alloc (.cells #[.int .i64 k, .slice A p.length c] 39)) := below_new (Below.refl _ _) _
  have hput : Calls Try.prog 34 #[.agg #[.int .i64 k, .slice A p.length c]] (w.alloc (.cells #[.int .i64 k, .slice A p.length c] 39)) fun e w' => e = .returned (.tuple #[.slice none 0 0, .int .i64 1]) ∧ Below (w.alloc (.cells #[.int .i64 k, .slice A p.length c] 39)).heap.size (w.alloc (.cells #[.int .i64 k, .slice A p.length c] 39)) w' := by
    rcases hk with h | ⟨h, h4⟩
    · exact fput_kind k h A c p _ (hr.alloc _)
    · exact fput_long k h A c p _ (hr.alloc _) h4
  have HB0 := Lib.hid hB0
  clear hk hB0
  go_enter Try.func8, Try.ntmps8
  go_wp2_with fail
  refine hput.mono ?_
  rintro e w1 ⟨rfl, hB1⟩
  have hB01 := below_chain HB0.out hB1
  clear hput hB1
  go_wp2_with fail
  refine (fixed5_calls _).mono ?_
  rintro e w6 ⟨rfl, hB6⟩
  go_wp2
  go_ret
  exact ⟨rfl, below_chain hB01 hB6⟩

theorem wf_u16 {a : Int} (h : (Lit.int .u16 a).wf = true) : 0 ≤ a ∧ a < 65536 := by
  have h1 : IntKind.u16.min = 0 := rfl
  have h2 : IntKind.u16.max = 65535 := rfl
  simp [Lit.wf, h1, h2] at h
  omega
theorem wf_u8 {a : Int} (h : (Lit.int .u8 a).wf = true) : 0 ≤ a ∧ a < 256 := by
  have h1 : IntKind.u8.min = 0 := rfl
  have h2 : IntKind.u8.max = 255 := rfl
  simp [Lit.wf, h1, h2] at h
  omega
theorem walk_FrameShort (w : World) (x : Int × List UInt8) (cs : Array Value) (hx : (Rd.pair (Rd.num .i64) (Rd.slice Rd.u8 (by decide))).K (fun _ => True) w x cs.toList) (a : Int) (ha : (Lit.int .u16 a).wf = true) (b : Int) (hb : (Lit.int .u8 b).wf = true) :
    Calls Try.prog 8 #[.agg cs, .int .u16 a, .int .u8 b] w fun e w' => e = .returned (.bool true) ∧ Below w.heap.size w w' := by
  obtain ⟨k, p⟩ := x
  obtain ⟨c1, c2, hcs, ⟨rfl, hwf⟩, ⟨A, c, rfl, hS⟩⟩ := hx
  have hr := Rd.S_RB hS
  obtain rfl : cs = #[.int .i64 k, .slice A p.length c] := by apply Array.toList_inj.1; exact hcs
  obtain ⟨ha0, ha1⟩ := wf_u16 ha
  obtain ⟨hb0, hb1⟩ := wf_u8 hb
  by_cases hk : k = 1 ∨ k = 2
  · by_cases hp : p.length ≤ 4096
    · rcases hk with rfl | rfl
      · exact short_good 1 (.inl rfl) w A c p hr hp a ha0 ha1 b hb0 hb1
      · exact short_good 2 (.inr rfl) w A c p hr hp a ha0 ha1 b hb0 hb1
    · exact short_bad k w A c p hr (.inr ⟨hk, by omega⟩) a b
  · exact short_bad k w A c p hr (.inl hk) a b
end Go.Proofs.Yteolgkjokhmmfaa
