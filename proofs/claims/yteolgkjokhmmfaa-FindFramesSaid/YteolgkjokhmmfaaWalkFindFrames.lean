/- The law FindFrames: of frames, one behind the other, behind any bytes in which none begins or may yet, each is found where it stands. The conditions: bytes and frames are read from memory. -/
import Derived.Test.YteolgkjokhmmfaaLaw06
import Derived.Test.YteolgkjokhmmfaaMathFind2
import Derived.Test.YteolgkjokhmmfaaWalkFrameShort
import Derived.Lib.QuietBelow
import Derived.BigQuiet
set_option linter.unusedVariables false
set_option linter.unusedSimpArgs false
namespace Go.Proofs.Yteolgkjokhmmfaa
open Go.RowKit Go.Shelf TG TG.Crc
attribute [local go_sem] Oper.semAt_some

theorem info_int : (Try.prog.info? 3).map (fun i => (i.zero, i.size, i.bytes)) = some (some (.int .i64 0), 1, 8) := by kernel_rfl
theorem own_ne {w : World} {b b' : Nat} {e e' : TypeId} {s s' n n' : Nat} {v v' : Value} {xs xs' : List Value} (h : w.ownsRow b e s v n xs) (h' : w.ownsRow b' e' s' v' n' xs') (hne : e ≠ e') : v.ownBlock = none ∨ v.ownBlock ≠ v'.ownBlock := by
  rcases h.2 with ⟨rfl, _⟩ | ⟨g, cap, cur, rfl, _, hg, _⟩
  · left; rfl
  · right
    rcases h'.2 with ⟨rfl, _⟩ | ⟨g', cap', cur', rfl, _, hg', _⟩
    · simp [Value.ownBlock]
    · intro hh
      have : g = g' := by simpa [Value.ownBlock] using hh
      subst this
      rw [hg] at hg'
      simp at hg'
      exact hne hg'.2
abbrev RdF := Rd.pair (Rd.num .i64) (Rd.slice Rd.u8 (by decide))
theorem rd_at {w : World} {A : Option Addr} {c : Nat} {x : List Fr} (h : RdF.S (fun _ => True) w A c x) (i : Nat) (hi : i < x.length) :
    ∃ ad A5 c5, A = some ad ∧ w.cell? (ad.add (i * 2)) = some (.int .i64 x[i].1) ∧ w.cell? (ad.add (i * 2 + 1)) = some (.slice A5 x[i].2.length c5) ∧ RB w A5 c5 x[i].2 := by
  obtain ⟨ad, h1, _, cs, ⟨c1, c2, rfl, ⟨rfl, _⟩, ⟨A5, c5, rfl, hS⟩⟩, h3⟩ := Rd.S_at h i hi
  exact ⟨ad, A5, c5, h1, h3 0 _ rfl, h3 1 _ rfl, Rd.S_RB hS⟩
def intsN (l : List Nat) : List Value := l.map (fun n => Value.int .i64 ((n : Nat) : Int))
theorem own_mono {w : World} {b b' : Nat} {e : TypeId} {s n : Nat} {v : Value} {xs : List Value} (h : w.ownsRow b e s v n xs) (hb : b' ≤ b) : w.ownsRow b' e s v n xs := by
  refine ⟨h.1, ?_⟩
  rcases h.2 with h2 | ⟨g, cap, cur, h1, h2, h3⟩
  · exact .inl h2
  · exact .inr ⟨g, cap, cur, h1, Nat.le_trans hb h2, h3⟩

theorem bod_len (a : List UInt8) : ∀ fs : List Fr, (∀ y ∈ fs, (fo y).length ≤ 220) → (bod a fs).length ≤ a.length + 220 * fs.length
  | [], _ => by simp [bod]
  | y :: fs, h => by
    have h1 := bod_len a fs (fun z hz => h z (List.mem_cons_of_mem _ hz))
    have h2 := h y List.mem_cons_self
    simp only [bod, List.length_append, List.map_cons, List.flatten_cons, List.length_cons] at h1 ⊢
    omega
theorem intsN_succ (f : Nat → Nat) (i : Nat) : intsN ((List.range (i + 1)).map f) = intsN ((List.range i).map f) ++ [Value.int .i64 ((f i : Nat) : Int)] := by
  simp [intsN, List.range_succ]

set_option maxRecDepth 100000 in
set_option maxHeartbeats 1000000 in
theorem frames_main (w : World) (A : Option Addr) (c : Nat) (l : List UInt8) (hr : RB w A c l) (hl : l.length ≤ 100) (ho : opn l 0 = l.length) (A2 : Option Addr) (c2 : Nat) (x : List Fr) (hS : RdF.S (fun _ => True) w A2 c2 x) (hx : x.length ≤ 6) :
    Calls Try.prog 13 #[.slice A l.length c, .slice A2 x.length c2] w fun e w' => e = .returned (.bool true) ∧ Below w.heap.size w w' := by
  have hop := open_calls A c l 0 (by decide) w hr (by omega)
  rw [show opn l (0 : Int).toNat = l.length from ho, show decide (l.length < l.length) = false from by simp] at hop
  obtain ⟨b0, hb0⟩ : ∃ b0, b0 = [] ++ l := ⟨_, rfl⟩
  have Hb0 := Lib.hid hb0
  clear hb0
  go_enter Try.func13, Try.ntmps13
  go_wp2_with fail
  refine hop.mono ?_
  rintro e w1 ⟨rfl, hB1⟩
  have hB1' := hB1.size
  have hownl := own_empty w1 5 1
  have hB2 := below_new (Below.refl w1.heap.size w1) (.cells #[] 5)
  have hr1 := (hr.below hB1).below hB2
  clear hop
  go_wp2_with (at_builtin; go_loud (refine wpList_app8 rfl _ _ 27 rfl w1.heap.size 5 Try.underlying27 info_u8 _ [] rfl hownl A c l rfl hr1 (by simp; omega) hB2.size ?_); intro A3 c3 w3 hown3 hgrow; rw [← Hb0.out] at hown3 ⊢)
  have hB3 := below_chain hB1 (hB2.grown hgrow hB2.size (fun g hg => own_base hownl g hg))
  have hown4 : w3.ownsRow w.heap.size 5 1 (.slice A3 b0.length c3) b0.length (bc b0) := own_mono hown3 hB1'
  rw [show b0 = bod l (x.take 0) from by rw [Hb0.out]; simp [bod]] at hown4 ⊢
  have hnil := World.ownsRow_nil w3 w.heap.size 3 1
  clear hownl hown3 hgrow hB2 hB1 hr1
  go_loopw [7, 8, 44] (fun b pv n wr => ∃ (i : Nat) (A3 : Option Addr) (c3 : Nat), i ≤ x.length ∧ n = .int .i64 i ∧ b = .slice A3 (bod l (x.take i)).length c3 ∧ Hid (∀ y ∈ x.take i, okF y ∧ (fo y).length ≤ 220) ∧ wr.ownsRow w.heap.size 5 1 b (bod l (x.take i)).length (bc (bod l (x.take i))) ∧ wr.ownsRow w.heap.size 3 1 pv i (intsN ((List.range i).map (pl l x))) ∧ Below w.heap.size w wr) (fun _ _ n _ => x.length - (intOf n).toNat)
  case atStart => exact ⟨0, A3, c3, by omega, rfl, rfl, Lib.hid (by simp), hown4, hnil, hB3⟩
  case round =>
    obtain ⟨i, A4, c4, hix, rfl, rfl, Hok, hown, hpl, hB⟩ := hrel
    by_cases hlt : i < x.length
    · obtain ⟨ad, A5, c5, rfl, hc0, hc1, hr5⟩ := rd_at (Rd.S_below (by decide) hS hB) i hlt
      have hnx := bod_take l x i hlt
      have hmem : x[i] ∈ x := List.getElem_mem hlt
      have hpp : pl l x i = (bod l (x.take i)).length := rfl
      have htk : x.take (i + 1) = x.take i ++ [x[i]] := List.take_succ_eq_append_getElem hlt
      have Hnx := Lib.hid hnx
      have Htk := Lib.hid htk
      clear hnx htk hmem
      generalize x[i] = y at *
      obtain ⟨k, p⟩ := y
      simp only at hc0 hc1 hr5
      rw [← add_add] at hc1
      have hc1' : wr.cell? ⟨(ad.add (i * 2)).block, (ad.add (i * 2)).off + 1, none⟩ = some (.slice A5 p.length c5) := by
        rw [← hc1]
        rfl
      clear hc1
      go_wp2_with fail
      have hBw : Below wr.heap.size wr (wr.alloc (.cells #[.int .i64 k, .slice A5 p.length c5] 39)) := below_new (Below.refl _ _) _
      have hbl : (bod l (x.take i)).length ≤ 2000 := by
        have h1 := bod_len l (x.take i) (fun y hy => (Hok.out y hy).2)
        have h2 : (x.take i).length ≤ 6 := by simp; omega
        omega
      by_cases hok : (k = 1 ∨ k = 2) ∧ p.length ≤ 4096
      · obtain ⟨hk, hp⟩ := hok
        obtain ⟨kn, rfl⟩ : ∃ kn : Nat, k = kn := ⟨k.toNat, by omega⟩
        have hput := fput_calls kn (by omega) A5 c5 p _ (hr5.alloc (.cells #[.int .i64 kn, .slice A5 p.length c5] 39)) hp
        have HF := Lib.hid (show fo ((kn : Int), p) = fp kn p by simp [fo])
        have hfl : (fp kn p).length ≤ 5000 := by rw [fp_length]; have := nb_len (n := p.length) (by omega); omega
        have HOK := Lib.hid (show okF ((kn : Int), p) from ⟨hk, hp⟩)
        generalize fp kn p = F at *
        clear hc0 hc1'
        refine hput.mono ?_
        rintro e w5 ⟨v5, rfl, hown5, hB5⟩
        obtain ⟨A6, c6, rfl⟩ := own_form hown5
        have hB5' := below_chain hBw hB5
        have hownb := own_below hown hB5'
        have hplb := own_below hpl hB5'
        have hBx := below_chain hB hB5'
        clear hput hBw hB5 hB5' hown hpl hr5 hB
        by_cases h220 : F.length ≤ 220
        · have hnb := below_new (Below.refl w5.heap.size w5) (.cells #[.int .i64 ((bod l (x.take i)).length : Int)] 3)
          have hlitc := (Blk.new w5 3 [.int .i64 ((bod l (x.take i)).length : Int)]).cell 0
          have hownb2 := own_below hownb hnb
          have hplb2 := own_below hplb hnb
          have hown52 := own_below hown5 hnb
          have hBx2 := below_chain hBx hnb
          obtain ⟨j0, ji, jz0, jz1, jz2⟩ := info_parts info_int
          clear hownb hplb hown5 hBx hnb
          go_wp2_with (at_builtin; first
            | (go_loud (refine wpList_append_own _ rfl _ _ 65 rfl w.heap.size 3 j0 (.int .i64 0) 1 8 Try.underlying65 ji jz0 jz1 jz2 rfl (by decide) _ i _ rfl hplb2 ⟨w5.heap.size, 0, none⟩ 1 1 [.int .i64 ((bod l (x.take i)).length : Int)] rfl (by simp) (fun j u hj => by
                cases j with
                | zero => rw [add_zero0, hlitc]; exact hj
                | succ j => simp at hj) (by simp [Value.oneCell']) (by simp only [maxLen]; omega) (by omega) hBx2.size ?_); intro v7 w7 hpl7 hgrow7 _; have hownb7 := hownb2.kept hgrow7 (own_ne hownb2 hplb2 (by decide)); have hown57 := hown52.kept hgrow7 (own_ne hown52 hplb2 (by decide)); have hBx7 := hBx2.grown hgrow7 hBx2.size (fun g hg => own_base hplb2 g hg); clear hownb2 hown52 hBx2 hgrow7 hplb2 hlitc)
            | (go_loud (refine wpList_app8 rfl _ _ 27 rfl w.heap.size 5 Try.underlying27 info_u8 _ (bod l (x.take i)) rfl hownb7 A6 c6 F rfl (own_RB hown57 (by omega)) (by omega) hBx7.size ?_); intro A8 c8 w8 hown8 hgrow8; rw [← HF.out, ← Hnx.out] at hown8 ⊢; have hpl8 := hpl7.kept hgrow8 (own_ne hpl7 hownb7 (by decide)); have hBx8 := hBx7.grown hgrow8 hBx7.size (fun g hg => own_base hownb7 g hg); clear hownb7 hown57 hBx7 hgrow8 hpl7))
          refine ⟨?_, ?measure⟩
          (repeat apply Exists.intro)
          refine ⟨?rel, rfl⟩
          case rel => exact ⟨i + 1, A8, c8, by omega, by go_num, rfl, Lib.hid (by
            rw [Htk.out]
            intro y hy
            rcases List.mem_append.1 hy with h | h
            · exact Hok.out y h
            · obtain rfl := List.mem_singleton.1 h
              exact ⟨HOK.out, by rw [HF.out]; exact h220⟩), hown8, by rw [intsN_succ]; exact hpl8, hBx8⟩
          case measure => simp [intOf]; omega
        · have HBx := Lib.hid hBx
          clear hBx
          go_wp2_with fail
          refine (fixed6_calls _).mono ?_
          rintro e w9 ⟨rfl, hB9⟩
          go_wp2
          go_ret
          exact ⟨rfl, below_chain HBx.out hB9⟩
      · have hput : Calls Try.prog 34 #[.agg #[.int .i64 k, .slice A5 p.length c5]] (wr.alloc (.cells #[.int .i64 k, .slice A5 p.length c5] 39)) fun e w' => e = .returned (.tuple #[.slice none 0 0, .int .i64 1]) ∧ Below (wr.alloc (.cells #[.int .i64 k, .slice A5 p.length c5] 39)).heap.size (wr.alloc (.cells #[.int .i64 k, .slice A5 p.length c5] 39)) w' := by
          by_cases hk : k = 1 ∨ k = 2
          · exact fput_long k hk A5 c5 p _ (hr5.alloc _) (by omega)
          · exact fput_kind k hk A5 c5 p _ (hr5.alloc _)
        have HB := Lib.hid (below_chain hB hBw)
        clear hBw hc0 hc1' hown hpl hr5 hB hok
        refine hput.mono ?_
        rintro e w5 ⟨rfl, hB5⟩
        have HB5 := Lib.hid (below_chain HB.out hB5)
        clear hput hB5
        go_wp2_with fail
        refine (fixed6_calls _).mono ?_
        rintro e w9 ⟨rfl, hB9⟩
        go_wp2
        go_ret
        exact ⟨rfl, below_chain HB5.out hB9⟩
    · have HB := Lib.hid hB
      have hoka : ∀ y ∈ x, okF y ∧ (fo y).length ≤ 220 := by
        have := Hok.out
        rwa [List.take_of_length_le (by omega)] at this
      have hii : i = x.length := by omega
      rw [List.take_of_length_le (show x.length ≤ i by omega)] at hown ⊢
      rw [hii] at hpl
      obtain ⟨Ap, cp, rfl⟩ := own_form hpl
      have hcnt := cnt_frames l x (fun y hy => (hoka y hy).1)
      have hball := bod_len l x (fun y hy => (hoka y hy).2)
      have hbr := own_RB hown (by omega)
      have Hoka := Lib.hid hoka
      clear Hok hii hB hoka
      by_cases h0 : 0 < x.length
      · have hn := next_calls A4 c4 (bod l x) 0 (by decide) wr hbr (by omega)
        have hpr := pl_room l x 0 h0
        rw [pl_zero] at hpr
        have hfp := fo_pos x[0]
        rw [show nxt (bod l x) (0 : Int).toNat = l.length from nxt_first l x ho h0 (Hoka.out _ (List.getElem_mem h0)).1, show nv (bod l x) l.length = l.length from by unfold nv; rw [if_pos (by omega)], show decide (l.length < (bod l x).length) = true from by simp; omega] at hn
        have h0' : (0 : Int) < (x.length : Int) := by omega
        clear hpr hfp
        go_wp2_with fail
        refine hn.mono ?_
        rintro e w4 ⟨rfl, hB4⟩
        have HB4 := Lib.hid (below_chain HB.out hB4)
        have hcnt2 := own_below hown hB4
        have hplb := own_below hpl hB4
        have hSb := Rd.S_below (by decide) hS HB4.out
        clear hn hB4 hown hpl hbr h0
        go_wp2_with fail
        go_loopw [88] (fun n wq => ∃ i : Nat, i ≤ x.length ∧ n = .int .i64 i ∧ Below w4.heap.size w4 wq) (fun n _ => x.length - (intOf n).toNat)
        case atStart => exact ⟨0, by omega, rfl, Below.refl _ _⟩
        case round =>
          obtain ⟨j, hjx, rfl, hBq⟩ := hrel
          by_cases hlt : j < x.length
          · obtain ⟨g, rfl, hg0, hgc⟩ := own_some hplb (by omega)
            have hcell : wr.cell? ⟨g, j, none⟩ = some (.int .i64 (pl l x j : Int)) := by rw [(own_below hplb hBq).cellAt j (by omega)]; simp [intsN, hlt]
            have hk := (Hoka.out _ (List.getElem_mem hlt)).1
            obtain ⟨e1, e2, e3, e4⟩ := at_frame l x j hlt hk
            have hnf := nxt_frame l x j hlt hk
            have hroom := pl_room l x j hlt
            have hfp := fo_pos x[j]
            have hbb := own_below hcnt2 hBq
            have hbr := own_RB hbb (by omega)
            have hat := at_calls A4 c4 (bod l x) (pl l x j) (by omega) wr hbr (by omega)
            have HE := Lib.hid (And.intro e1 (And.intro e2 (And.intro e3 (And.intro e4 (And.intro hnf (And.intro hroom hfp))))))
            clear e1 e2 e3 e4 hnf hbr hbb hk
            go_wp2_with fail
            refine hat.mono ?_
            rintro e w5 ⟨A5, c5, rfl, hr5, hn5, hB5⟩
            obtain ⟨e1, e2, e3, e4, e5, e6, e7⟩ := HE.out
            rw [e1, e2, e3, e4]
            rw [e3] at hr5
            have hB6 := below_new (below_chain hBq hB5) (.cells #[.int .i64 x[j].1, .slice A5 x[j].2.length c5] 39)
            have hX6 := Blk.new w5 39 [.int .i64 x[j].1, .slice A5 x[j].2.length c5]
            have hr6 := hr5.alloc (.cells #[.int .i64 x[j].1, .slice A5 x[j].2.length c5] 39)
            have hnx := next_calls A4 c4 (bod l x) (pl l x j) (by omega) _ (own_RB (own_below hcnt2 hB6) (by omega)) (by omega)
            rw [show ((pl l x j : Nat) : Int).toNat = pl l x j from rfl, e5, show nv (bod l x) (pl l x j) = pl l x j from by unfold nv; rw [if_pos (by omega)], show decide (pl l x j < (bod l x).length) = true from by simp; omega] at hnx
            clear e1 e2 e3 e4 e5 hr5 hn5 hB5 hat hcell hBq
            have HX6 := Lib.hid hX6
            have HR6 := Lib.hid hr6
            have HB6 := Lib.hid hB6
            clear hX6 hr6 hB6
            go_wp2_with fail
            refine hnx.mono ?_
            rintro e w7 ⟨rfl, hB7⟩
            have HB7 := Lib.hid (below_chain HB6.out hB7)
            have hX7 := HX6.out.below hB7
            have x0 := hX7.cell 0
            have x1 := hX7.cell 1
            simp only [List.getElem?_cons_zero, List.getElem?_cons_succ] at x0 x1
            obtain ⟨ad, A9, c9, rfl, hc0, hc1, hr9⟩ := rd_at (Rd.S_below (by decide) hSb HB7.out) j hlt
            have hr7 := HR6.out.below hB7
            have hX7' := Lib.hid hX7
            clear hnx hX7 hB7
            go_wp2_with fail
            have hsm := fun W (hW : Below w7.heap.size w7 W) => fsame_calls x[j].1 x[j].1 A5 c5 x[j].2 A9 c9 x[j].2 W (hr7.below hW) (hr9.below hW)
            rw [show (x[j].1 == x[j].1 && x[j].2 == x[j].2) = true from by simp] at hsm
            have y0 : ∀ d os, (Sort.grow (redrawn w7 d) os).cell? ⟨w5.heap.size, 0, none⟩ = some (.int .i64 x[j].1) := fun d os => by
              have := (hX7'.out.below (below_regrown w7 d os)).cell 0
              simpa using this
            have y1 : ∀ d os, (Sort.grow (redrawn w7 d) os).cell? ⟨w5.heap.size, 1, none⟩ = some (.slice A5 x[j].2.length c5) := fun d os => by
              have := (hX7'.out.below (below_regrown w7 d os)).cell 1
              simpa using this
            rw [← add_add] at hc1
            have hc1' : w7.cell? ⟨(ad.add (j * 2)).block, (ad.add (j * 2)).off + 1, none⟩ = some (.slice A9 x[j].2.length c9) := by
              rw [← hc1]
              rfl
            have z0 : ∀ d os, (Sort.grow (redrawn w7 d) os).cell? (ad.add (j * 2)) = some (.int .i64 x[j].1) := fun d os => by
              rw [World.cell?_of_block (w := w7) ((below_regrown w7 d os).block _ (World.block_lt_of_cell? _ _ hc0))]
              exact hc0
            have z1 : ∀ d os, (Sort.grow (redrawn w7 d) os).cell? ⟨(ad.add (j * 2)).block, (ad.add (j * 2)).off + 1, none⟩ = some (.slice A9 x[j].2.length c9) := fun d os => by
              rw [World.cell?_of_block (w := w7) ((below_regrown w7 d os).block _ (World.block_lt_of_cell? _ _ hc1'))]
              exact hc1'
            have hfs : fsz x[j].2.length = (fo x[j]).length := by
              have := (Hoka.out _ (List.getElem_mem hlt)).1.2
              exact fsz_fp _ _ this
            have hsz := fun W => fsize_calls x[j].2.length W (by have := (Hoka.out _ (List.getElem_mem hlt)).1.2; omega)
            rw [hfs] at hsz
            clear hfs
            refine wp_region_quiet_below (by kernel_rfl) (by kernel_rfl) ?_
            repeat (first | go_big_quiet_step (first | exact Calls.regrown_of (hsm _ (below_regrown _ _ _)) | exact Calls.regrown_of (hsz _)) | quiet_step (first | exact Calls.regrown_of (hsm _ (below_regrown _ _ _)) | exact Calls.regrown_of (hsz _)))
            refine wpQuiet_nil ?_
            intro _ hw'
            obtain ⟨⟨dq, osq⟩, hw''⟩ := hw'
            subst hw''
            have HB8 := Lib.hid (below_chain HB7.out (below_regrown w7 dq osq))
            clear x0 x1 hc0 hc1 hc1' hr9 hr7 y0 y1 z0 z1 hsm hsz
            go_wp2
            refine ⟨⟨j + 1, by omega, by go_num, HB8.out⟩, ?measure⟩
            case measure => simp [intOf]; omega
          · have hq := own_below hcnt2 hBq
            have hB8 := below_chain HB4.out hBq
            have hct := fun W (hW : Below wr.heap.size wr W) => count_calls A4 c4 (bod l x) W ((own_RB hq (by omega)).below hW) (by omega)
            go_wp2_with fail
            refine (fixed6_calls _).mono ?_
            rintro e w9 ⟨rfl, hB9⟩
            have hct9 := hct w9 hB9
            have HB9 := Lib.hid (below_chain hB8 hB9)
            have hcc : ((x.length : Int) ≤ (cnt (bod l x) : Int)) := by omega
            clear hct hq hB8 hBq hplb hSb
            go_wp2_with fail
            refine hct9.mono ?_
            rintro e w10 ⟨rfl, hB10⟩
            clear hct9
            go_wp2
            go_ret
            exact ⟨rfl, below_chain HB9.out hB10⟩
      · have hx0 : x = [] := List.eq_nil_of_length_eq_zero (by omega)
        subst hx0
        have hct := fun W (hW : Below wr.heap.size wr W) => count_calls A4 c4 (bod l []) W (hbr.below hW) (by omega)
        have hcc : (0 : Int) ≤ (cnt (bod l []) : Int) := by omega
        clear hcnt hown hpl hbr hball h0
        go_wp2_with fail
        go_loopw [88] (fun n wq => n = .int .i64 0 ∧ wq = wr) (fun n _ => 0)
        case atStart => exact ⟨rfl, rfl⟩
        case round =>
          obtain ⟨rfl, rfl⟩ := hrel
          go_wp2_with fail
          refine (fixed6_calls _).mono ?_
          rintro e w9 ⟨rfl, hB9⟩
          have hct9 := hct w9 hB9
          have HB9 := Lib.hid (below_chain HB.out hB9)
          clear hct
          go_wp2_with fail
          refine hct9.mono ?_
          rintro e w10 ⟨rfl, hB10⟩
          clear hct9
          go_wp2
          go_ret
          exact ⟨rfl, below_chain HB9.out hB10⟩

theorem opn_le (l : List UInt8) (i : Nat) (h : i ≤ l.length) : opn l i ≤ l.length := by
  have := fst_le (isO l) (l.length - i) i
  unfold opn
  omega
set_option maxRecDepth 100000 in
set_option maxHeartbeats 1000000 in
theorem walk_FindFrames (w : World) (A : Option Addr) (c : Nat) (l : List UInt8) (hr : RB w A c l) (A2 : Option Addr) (c2 : Nat) (x : List Fr) (hS : RdF.S (fun _ => True) w A2 c2 x) :
    Calls Try.prog 13 #[.slice A l.length c, .slice A2 x.length c2] w fun e w' => e = .returned (.bool true) ∧ Below w.heap.size w w' := by
  have hl := hr.2.1
  have hx := hS.2.1
  have hop := open_calls A c l 0 (by decide) w hr hl
  by_cases ho : opn l 0 < l.length
  · rw [show decide (opn l (0 : Int).toNat < l.length) = true from by simpa using ho] at hop
    generalize nv l (opn l (0 : Int).toNat) = N at *
    clear ho
    go_enter Try.func13, Try.ntmps13
    go_wp2_with fail
    refine hop.mono ?_
    rintro e w1 ⟨rfl, hB1⟩
    clear hop
    go_wp2_with fail
    refine (fixed6_calls _).mono ?_
    rintro e w2 ⟨rfl, hB2⟩
    go_wp2
    go_ret
    exact ⟨rfl, below_chain hB1 hB2⟩
  · by_cases hc : l.length ≤ 100 ∧ x.length ≤ 6
    · exact frames_main w A c l hr hc.1 (by have := opn_le l 0 (by omega); omega) A2 c2 x hS hc.2
    · rw [show decide (opn l (0 : Int).toNat < l.length) = false from by simpa using ho] at hop
      generalize nv l (opn l (0 : Int).toNat) = N at *
      clear ho
      by_cases h1 : 100 < l.length
      all_goals
        go_enter Try.func13, Try.ntmps13
        go_wp2_with fail
        refine hop.mono ?_
        rintro e w1 ⟨rfl, hB1⟩
        clear hop
        (try have h2 : 6 < x.length := by omega)
        go_wp2_with fail
        refine (fixed6_calls _).mono ?_
        rintro e w2 ⟨rfl, hB2⟩
        go_wp2
        go_ret
        exact ⟨rfl, below_chain hB1 hB2⟩
end Go.Proofs.Yteolgkjokhmmfaa
