/- The law FramePuts: any frame's bytes, or that it may not be, are the document's; they are read as the frame, with whatever behind. The conditions: the frame and the bytes are read from memory. -/
import Derived.Test.YteolgkjokhmmfaaLaw05
import Derived.Test.YteolgkjokhmmfaaOpen
import Derived.Lib.QuietBelow
import Derived.BigQuiet
set_option linter.unusedVariables false
set_option linter.unusedSimpArgs false
namespace Go.Proofs.Yteolgkjokhmmfaa
open Go.RowKit Go.Shelf TG TG.Crc
attribute [local go_sem] Oper.semAt_some

theorem fsz_fp (k : Nat) (p : List UInt8) (h : p.length ≤ 4096) : fsz p.length = (fp k p).length := by
  unfold fsz
  rw [if_pos h, fp_length]

set_option maxRecDepth 100000 in
set_option maxHeartbeats 1000000 in
theorem puts_good (k : Nat) (hk : k = 1 ∨ k = 2) (w : World) (A : Option Addr) (c : Nat) (p : List UInt8) (hr : RB w A c p) (hp : p.length ≤ 4096) (B : Option Addr) (d : Nat) (r : List UInt8) (hb : RB w B d r) (hl : r.length ≤ 60) :
    Calls Try.prog 6 #[.agg #[.int .i64 k, .slice A p.length c], .slice B r.length d] w fun e w' => e = .returned (.bool true) ∧ Below w.heap.size w w' := by
  have hbx : Blk (w.alloc (.cells #[.int .i64 k, .slice A p.length c] 39)) w.heap.size 39 [.int .i64 k, .slice A p.length c] := Blk.new _ _ _
  have hB0 : Below w.heap.size w (w.alloc (.cells #[.int .i64 k, .slice A p.length c] 39)) := below_new (Below.refl _ _) _
  obtain ⟨q1, q2, q3, q4⟩ := fg_put k hk p r hp
  obtain ⟨g1, g2, g3⟩ := g_some q1
  rw [q2] at g1
  rw [q3] at g2
  rw [q4] at g3
  have hfl : (fp k p).length ≤ 5000 := by have := fp_length k p; have := nb_len (n := p.length) (by omega); omega
  have hfz := fsz_fp k p hp
  have hcat := mk8_add (fp k p) r
  have hlr : (fp k p ++ r).length ≤ 6000 := by simp; omega
  generalize fp k p ++ r = fo at *
  have Hcat := Lib.hid hcat
  have hput := fput_calls k hk A c p _ (hr.alloc (.cells #[.int .i64 k, .slice A p.length c] 39)) hp
  have Hk := Lib.hid hk
  have HE := Lib.hid q1
  have G1 := Lib.hid g1
  have G2 := Lib.hid g2
  have G3 := Lib.hid g3
  have HFZ := Lib.hid hfz
  have Hbx := Lib.hid hbx
  have HB0 := Lib.hid hB0
  clear hcat hk q1 q2 q3 q4 g1 g2 g3 hfz hbx hB0
  go_enter Try.func6, Try.ntmps6
  go_wp2_with fail
  refine hput.mono ?_
  rintro e w1 ⟨v1, rfl, hown1, hB1⟩
  obtain ⟨A1, c1, rfl⟩ := own_form hown1
  have hr1 := own_RB hown1 (by omega)
  have hx1 := Hbx.out.below hB1
  have hc0 := hx1.cell 0
  have hc1 := hx1.cell 1
  simp only [List.getElem?_cons_zero, List.getElem?_cons_succ] at hc0 hc1
  have hB01 := below_chain HB0.out hB1
  have hput2 := refput5_calls k Hk.out A c p w1 (hr.below hB01) hp
  clear hown1 hB1 hput
  go_wp2_with fail
  refine hput2.mono ?_
  rintro e w2 ⟨rfl, hB2⟩
  have hx2 := hx1.below hB2
  clear hc0 hc1 hput2
  have hc0 := hx2.cell 0
  have hc1 := hx2.cell 1
  simp only [List.getElem?_cons_zero, List.getElem?_cons_succ] at hc0 hc1
  have hB02 := below_chain hB01 hB2
  have hcv := conv_str (P := Try.prog) 27 9 5 Try.underlying27 Try.underlying5 Try.underlying9 (hr1.below hB2)
  have hcr := conv_str (P := Try.prog) 27 9 5 Try.underlying27 Try.underlying5 Try.underlying9 (hb.below hB02)
  have hcat := Hcat.out
  have hcb := conv_bytes (P := Try.prog) 9 27 5 Try.underlying9 Try.underlying27 Try.underlying5 w2 (mk8 fo)
  have hrb := bytes_RB w2 5 fo (by omega) (grownCap_ge _ _ _ _)
  have hB3 : Below w2.heap.size w2 (Lib.bytesWorld w2 5 (mk8 fo)) := ⟨rfl, rfl, rfl, by rw [Lib.bytesWorld_size]; exact Nat.le_succ _, fun j hj => Lib.bytesWorld_at_old w2 _ _ j hj⟩
  rw [mk8_size] at hcb
  have hget := fget_calls _ _ fo _ hrb (by omega)
  generalize grownCap w2 fo.length 0 5 = cp at *
  generalize Lib.bytesWorld w2 5 (mk8 fo) = W3 at *
  have Hget := Lib.hid hget
  have HX2 := Lib.hid hx2
  clear hget hx1 hx2 hrb hr1 hB01 hB2 hlr
  go_wp2_with fail
  refine Hget.out.mono ?_
  rintro e w4 ⟨A4, c4, rfl, hr4, hn4, hB4⟩
  rw [G1.out, G2.out, G3.out, HE.out]
  rw [G2.out] at hr4
  have hB34 := below_chain hB3 hB4
  have hB04 := below_chain hB02 hB34
  have hX4 := HX2.out.below hB34
  have hX5 := hX4.alloc (.cells #[.int .i64 k, .slice A4 p.length c4] 39)
  have hY5 := Blk.new w4 39 [.int .i64 k, .slice A4 p.length c4]
  have hr04 := hr.below hB04
  have hB05 := below_new hB04 (.cells #[.int .i64 k, .slice A4 p.length c4] 39)
  have hr5 := hr4.alloc (.cells #[.int .i64 k, .slice A4 p.length c4] 39)
  have hr05 := hr04.alloc (.cells #[.int .i64 k, .slice A4 p.length c4] 39)
  have hlt4 : w.heap.size < w4.heap.size := hX4.lt
  clear hcv hcr hcat hcb hc0 hc1 hr4 hr04 hX4 Hget hB3 hB4 hn4
  go_wp2_with fail
  refine (fixed5_calls _).mono ?_
  rintro e w6 ⟨rfl, hB6⟩
  have hX6 := hX5.below hB6
  have hY6 := Blk.below (show Blk (w4.alloc (.cells #[.int .i64 k, .slice A4 p.length c4] 39)) w4.heap.size 39 [.int .i64 k, .slice A4 p.length c4] from hY5) hB6
  have hc0 := hX6.cell 0
  have hc1 := hX6.cell 1
  have hd0 := hY6.cell 0
  have hd1 := hY6.cell 1
  simp only [List.getElem?_cons_zero, List.getElem?_cons_succ] at hc0 hc1 hd0 hd1
  have hsm := fsame_calls k k A4 c4 p A c p w6 (hr5.below hB6) (hr05.below hB6)
  rw [show (((k : Int) == (k : Int)) && (p == p)) = true from by simp] at hsm
  have hB06 := below_chain hB05 hB6
  have HX6 := Lib.hid hX6
  clear hX6 hY6 hX5 hY5 hB6 hr5 hr05
  go_wp2_with fail
  refine hsm.mono ?_
  rintro e w7 ⟨rfl, hB7⟩
  have hX7 := HX6.out.below hB7
  clear hc0 hc1 hd0 hd1 hsm
  have hc1 := hX7.cell 1
  simp only [List.getElem?_cons_zero, List.getElem?_cons_succ] at hc1
  have hB07 := below_chain hB06 hB7
  clear hX7 hB7
  have hsz := fsize_calls p.length w7 (by omega)
  rw [HFZ.out] at hsz
  go_wp2_with fail
  refine hsz.mono ?_
  rintro e w8 ⟨rfl, hB8⟩
  go_wp2
  go_ret
  exact ⟨rfl, below_chain hB07 hB8⟩

set_option maxRecDepth 100000 in
set_option maxHeartbeats 1000000 in
theorem puts_kind (k : Int) (w : World) (A : Option Addr) (c : Nat) (p : List UInt8) (hr : RB w A c p) (hp5 : p.length ≤ 5000) (hk : ¬ (k = 1 ∨ k = 2)) (B : Option Addr) (d : Nat) (r : List UInt8) (hb : RB w B d r) (hl : r.length ≤ 60) :
    Calls Try.prog 6 #[.agg #[.int .i64 k, .slice A p.length c], .slice B r.length d] w fun e w' => e = .returned (.bool true) ∧ Below w.heap.size w w' := by
  have hbx : Blk (w.alloc (.cells #[.int .i64 k, .slice A p.length c] 39)) w.heap.size 39 [.int .i64 k, .slice A p.length c] := Blk.new _ _ _
  have hB0 : Below w.heap.size w (w.alloc (.cells #[.int .i64 k, .slice A p.length c] 39)) := below_new (Below.refl _ _) _
  have hput := fput_kind k hk A c p _ (hr.alloc (.cells #[.int .i64 k, .slice A p.length c] 39))
  have hbad2 := fun W hW => refput5_bad k A c p W hW (by omega)
  have b1 : (k != 1) = true := by rw [bne_iff_ne]; omega
  have b2 : (k != 2) = true := by rw [bne_iff_ne]; omega
  clear hk
  have Hbx := Lib.hid hbx
  have HB0 := Lib.hid hB0
  clear hbx hB0
  go_enter Try.func6, Try.ntmps6
  go_wp2_with fail
  refine hput.mono ?_
  rintro e w1 ⟨rfl, hB1⟩
  have hx1 := Hbx.out.below hB1
  have hc0 := hx1.cell 0
  have hc1 := hx1.cell 1
  simp only [List.getElem?_cons_zero, List.getElem?_cons_succ] at hc0 hc1
  have hB01 := below_chain HB0.out hB1
  have hput2 := hbad2 w1 (hr.below hB01)
  clear hB1 hput
  go_wp2_with fail
  refine hput2.mono ?_
  rintro e w2 ⟨rfl, hB2⟩
  have hx2 := hx1.below hB2
  clear hc0 hc1 hput2
  have hB02 := below_chain hB01 hB2
  have hcv := conv_str (P := Try.prog) 27 9 5 Try.underlying27 Try.underlying5 Try.underlying9 (RB.nil w2 0)
  rw [show ([] : List UInt8).length = 0 from rfl] at hcv
  clear hB01 hB2 hx1
  go_wp2_with fail
  refine (fixed5_calls _).mono ?_
  rintro e w6 ⟨rfl, hB6⟩
  have hX6 := hx2.below hB6
  have hc0 := hX6.cell 0
  have hc1 := hX6.cell 1
  simp only [List.getElem?_cons_zero, List.getElem?_cons_succ] at hc0 hc1
  have hB06 := below_chain hB02 hB6
  clear hcv hx2 hX6
  go_wp2
  go_ret
  exact ⟨rfl, hB06⟩

set_option maxRecDepth 100000 in
set_option maxHeartbeats 1000000 in
theorem puts_long (k : Int) (w : World) (A : Option Addr) (c : Nat) (p : List UInt8) (hr : RB w A c p) (hp5 : p.length ≤ 5000) (hk : k = 1 ∨ k = 2) (hp4 : 4096 < p.length) (B : Option Addr) (d : Nat) (r : List UInt8) (hb : RB w B d r) (hl : r.length ≤ 60) :
    Calls Try.prog 6 #[.agg #[.int .i64 k, .slice A p.length c], .slice B r.length d] w fun e w' => e = .returned (.bool true) ∧ Below w.heap.size w w' := by
  have hbx : Blk (w.alloc (.cells #[.int .i64 k, .slice A p.length c] 39)) w.heap.size 39 [.int .i64 k, .slice A p.length c] := Blk.new _ _ _
  have hB0 : Below w.heap.size w (w.alloc (.cells #[.int .i64 k, .slice A p.length c] 39)) := below_new (Below.refl _ _) _
  have hput := fput_long k hk A c p _ (hr.alloc (.cells #[.int .i64 k, .slice A p.length c] 39)) hp4
  have hbad2 := fun W hW => refput5_bad k A c p W hW (by omega)
  have b1 : (k != 1) = true ∧ (k != 2) = false ∨ (k != 1) = false := by
    rcases hk with rfl | rfl
    · right; rfl
    · left; exact ⟨rfl, rfl⟩
  have hfz : fsz p.length = 0 := by unfold fsz; rw [if_neg (by omega)]
  have HFZ := Lib.hid hfz
  clear hk hfz
  have Hbx := Lib.hid hbx
  have HB0 := Lib.hid hB0
  clear hbx hB0
  go_enter Try.func6, Try.ntmps6
  go_wp2_with fail
  refine hput.mono ?_
  rintro e w1 ⟨rfl, hB1⟩
  have hx1 := Hbx.out.below hB1
  have hc0 := hx1.cell 0
  have hc1 := hx1.cell 1
  simp only [List.getElem?_cons_zero, List.getElem?_cons_succ] at hc0 hc1
  have hB01 := below_chain HB0.out hB1
  have hput2 := hbad2 w1 (hr.below hB01)
  clear hB1 hput
  go_wp2_with fail
  refine hput2.mono ?_
  rintro e w2 ⟨rfl, hB2⟩
  have hx2 := hx1.below hB2
  clear hc0 hc1 hput2
  have hB02 := below_chain hB01 hB2
  have hcv := conv_str (P := Try.prog) 27 9 5 Try.underlying27 Try.underlying5 Try.underlying9 (RB.nil w2 0)
  rw [show ([] : List UInt8).length = 0 from rfl] at hcv
  clear hB01 hB2 hx1
  go_wp2_with fail
  refine (fixed5_calls _).mono ?_
  rintro e w6 ⟨rfl, hB6⟩
  have hX6 := hx2.below hB6
  have hc0 := hX6.cell 0
  have hc1 := hX6.cell 1
  simp only [List.getElem?_cons_zero, List.getElem?_cons_succ] at hc0 hc1
  have hB06 := below_chain hB02 hB6
  clear hcv hx2 hX6
  have hsz := fsize_calls p.length w6 (by omega)
  rw [HFZ.out] at hsz
  rcases b1 with ⟨b1, b2⟩ | b1
  all_goals
    go_wp2_with fail
    refine hsz.mono ?_
    rintro e w8 ⟨rfl, hB8⟩
    go_wp2
    go_ret
    exact ⟨rfl, below_chain hB06 hB8⟩

set_option maxRecDepth 100000 in
theorem walk_FramePuts (w : World) (x : Int × List UInt8) (cs : Array Value) (hx : (Rd.pair (Rd.num .i64) (Rd.slice Rd.u8 (by decide))).K (fun _ => True) w x cs.toList) (B : Option Addr) (d : Nat) (r : List UInt8) (hb : RB w B d r) :
    Calls Try.prog 6 #[.agg cs, .slice B r.length d] w fun e w' => e = .returned (.bool true) ∧ Below w.heap.size w w' := by
  obtain ⟨k, p⟩ := x
  obtain ⟨c1, c2, hcs, ⟨rfl, hwf⟩, ⟨A, c, rfl, hS⟩⟩ := hx
  have hr := Rd.S_RB hS
  obtain rfl : cs = #[.int .i64 k, .slice A p.length c] := by apply Array.toList_inj.1; exact hcs
  have hl := hr.2.1
  have hl2 := hb.2.1
  have Hhwf := Lib.hid hwf
  clear hS hcs hwf
  by_cases h1 : 5000 < p.length
  · go_enter Try.func6, Try.ntmps6
    go_wp2_with fail
    refine (fixed5_calls _).mono ?_
    rintro e w1 ⟨rfl, hB⟩
    go_wp2
    go_ret
    exact ⟨rfl, below_chain (below_new (Below.refl _ _) _) hB⟩
  · by_cases h2 : 60 < r.length
    · go_enter Try.func6, Try.ntmps6
      go_wp2_with fail
      refine (fixed5_calls _).mono ?_
      rintro e w1 ⟨rfl, hB⟩
      go_wp2
      go_ret
      exact ⟨rfl, below_chain (below_new (Below.refl _ _) _) hB⟩
    · by_cases hk : k = 1 ∨ k = 2
      · by_cases hp : p.length ≤ 4096
        · rcases hk with rfl | rfl
          · exact puts_good 1 (.inl rfl) w A c p hr hp B d r hb (by omega)
          · exact puts_good 2 (.inr rfl) w A c p hr hp B d r hb (by omega)
        · exact puts_long k w A c p hr (by omega) hk (by omega) B d r hb (by omega)
      · exact puts_kind k w A c p hr (by omega) hk B d r hb (by omega)
end Go.Proofs.Yteolgkjokhmmfaa
