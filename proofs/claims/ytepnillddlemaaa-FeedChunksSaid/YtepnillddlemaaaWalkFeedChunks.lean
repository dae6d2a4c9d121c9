/- The law FeedChunks: however bytes are cut into chunks, all that is told, put together, are their parts. The conditions: bytes and cuts are read from memory. -/
import Derived.Test.YtepnillddlemaaaLaw08
import Derived.Test.YtepnillddlemaaaOpen
set_option linter.unusedVariables false
set_option linter.unusedSimpArgs false
namespace Go.Proofs.Ytepnillddlemaaa
open Go.RowKit Go.Shelf TG TG.Crc
attribute [local go_sem] Oper.semAt_some

theorem still_len {l : List UInt8} {T : List Sg} {P sk : Nat} (h : Still l T P sk) : T.length ≤ l.length := by
  have h1 := h.2.2.2 []
  rw [List.append_nil] at h1
  have h2 := sgs_len l
  rw [h1, List.length_append] at h2
  omega
theorem PI.told2 {w wr wz w2 : World} {Bf : Nat} {v0 : Value} {cl : Bool} {l : List UInt8} {A A2 A3 : Option Addr} {c c2 c3 P sk : Nat} {done done2 : List Sg} (h : PI w Bf v0 cl l wr A c done A3 c3 P sk) (hB : Below wr.heap.size wr wz) (hown : Rd.seg.Own (XG w Bf (.slice A3 (l.drop P).length c3)) w2 w.heap.size 31 (.slice A2 done2.length c2) done2)
    (hg : wz.grownBy w2 (Value.slice A done.length c).ownBlock) (hnew : ∀ g, (Value.slice A2 done2.length c2).ownBlock = some g → (Value.slice A done.length c).ownBlock = some g ∨ wz.heap.size ≤ g) : PI w Bf v0 cl l w2 A2 c2 done2 A3 c3 P sk :=
  h.told hown ((But.of_below hB (fun b => (Value.slice A done.length c).ownBlock = some b)).trans (But.of_grown hg (fun b => (Value.slice A done.length c).ownBlock = some b) (fun r e => e)) (fun _ k => k) (fun _ k => .inl k)) (fun g e => (hnew g e).imp id (fun k => Nat.le_trans hB.size k))

set_option maxRecDepth 100000 in
set_option maxHeartbeats 4000000 in
theorem feed_main (w : World) (A : Option Addr) (c : Nat) (l : List UInt8) (hr : RB w A c l) (hl : l.length ≤ 600) (A2 : Option Addr) (c2 : Nat) (x : List Int) (hS : (Rd.num .u16).S (fun _ => True) w A2 c2 x) (hx : x.length ≤ 60) :
    Calls Try.prog 10 #[.slice A l.length c, .slice A2 x.length c2] w fun e w' => e = .returned (.bool true) ∧ Below w.heap.size w w' := by
  obtain ⟨i1, hi1, hz0, hz1, hz2⟩ := info_parts info_u8
  have Hr := Lib.hid hr
  have HS := Lib.hid hS
  have HI := Lib.hid (feed_start w)
  have j1 : (l.length : Int) ≤ 600 := by omega
  have j2 : (x.length : Int) ≤ 60 := by omega
  clear hr hS
  go_enter Try.func10, Try.ntmps10
  go_wp2_with fail
  refine (new_calls8 w).mono ?_
  rintro e w2 ⟨rfl, rfl⟩
  go_wp2_with fail
  go_loopw [6, 7, 32] (fun vo vr iv wr => ∃ (i k : Nat) (out : List Sg) (Ao : Option Addr) (co : Nat) (A3 : Option Addr) (c3 P sk : Nat) (A1 : Option Addr) (c1 : Nat), vo = .slice Ao out.length co ∧ vr = .slice A1 (l.drop k).length c1 ∧ iv = .int .i64 i ∧ i ≤ x.length ∧ k ≤ l.length ∧
    Hid (PI w w.heap.size (.slice none 0 0) false (l.take k) wr Ao co out A3 c3 P sk) ∧ Hid (Still (l.take k) out P sk) ∧ Hid (RB w A1 c1 (l.drop k))) (fun _ _ iv _ => x.length - (intOf iv).toNat)
  case atStart => exact ⟨0, 0, [], none, 0, none, 0, 0, 0, A, c, rfl, rfl, rfl, Nat.zero_le _, Nat.zero_le _, HI, still_nil, Hr⟩
  case round =>
    obtain ⟨i, k, out, Ao, co, A3, c3, P, sk, A1, c1, rfl, rfl, rfl, hi, hk, HP, HT, HR⟩ := hrel
    have hol := still_len HT.out
    have hkl : (l.take k).length = k := by simp; omega
    have hdl : (l.drop k).length = l.length - k := List.length_drop
    have ho6 : out.length ≤ 600 := by omega
    have hB := HP.out.base
    have hr1 := HR.out.below hB
    have hlc := hr1.1
    have j3 : (0 : Int) ≤ (i : Int) := Int.natCast_nonneg _
    by_cases hlt : i < x.length
    · obtain ⟨ad, rfl, _, cs, hKx, hc⟩ := Rd.S_at (Rd.S_below (by decide) HS.out hB) i hlt
      obtain ⟨rfl, hwf⟩ := hKx
      have z0 := hc 0 _ rfl
      rw [show (Rd.num .u16).sz = 1 from rfl, Nat.mul_one, Nat.add_zero] at z0
      obtain ⟨n, hn, hn2⟩ : ∃ n : Nat, x[i] = (n : Int) ∧ n ≤ 65535 := by
        have h3 : IntKind.u16.min = 0 := rfl
        have h4 : IntKind.u16.max = 65535 := rfl
        simp [Lit.wf, h3, h4] at hwf
        exact ⟨x[i].toNat, by omega, by omega⟩
      rw [hn] at z0
      have j4 : (n : Int) ≤ 65535 := by omega
      have j5 : (0 : Int) ≤ (n : Int) := Int.natCast_nonneg _
      have j6 : (i : Int) < (x.length : Int) := by omega
      obtain ⟨kk, hkk⟩ : ∃ kk, kk = n % ((l.drop k).length + 1) := ⟨_, rfl⟩
      have hkk2 : kk ≤ (l.drop k).length := by rw [hkk]; have := Nat.mod_lt n (show 0 < (l.drop k).length + 1 by omega); omega
      have q1 : (n : Int).tmod (((l.drop k).length : Int) + 1) = (kk : Int) := by rw [hkk]; rfl
      obtain ⟨A5, c5, hcut1, hrc1, _⟩ := cut_h (P := Try.prog) 25 5 Try.underlying25 hi1 hz1 A1 c1 (l.drop k) kk hkk2 hlc
      obtain ⟨A6, c6, hcut2, hrc2, _⟩ := cut_l (P := Try.prog) 25 5 Try.underlying25 hi1 hz1 A1 c1 (l.drop k) kk hkk2 hlc
      have hr5 := hrc1 wr hr1
      have hR6 := hrc2 w HR.out
      have hta : l.take k ++ (l.drop k).take kk = l.take (k + kk) := List.take_add.symm
      have hda : (l.drop k).drop kk = l.drop (k + kk) := List.drop_drop
      have hg := give_calls HP.out A5 c5 _ hr5 (by rw [hta]; simp; omega)
      have hst := still_more HT.out ((l.drop k).take kk)
      rw [hta] at hg hst
      rw [hda] at hcut2 hR6
      have hst2 := still_parts _ _ P sk out rfl hst
      have hsl := still_len hst2
      have hkkl : k + kk ≤ l.length := by omega
      have hk6 : (l.take (k + kk)).length ≤ 600 := by simp; omega
      have j7 : ((l.drop k).length : Int) ≤ 600 := by omega
      have j8 : (kk : Int) ≤ ((l.drop k).length : Int) := by omega
      have j9 : (0 : Int) ≤ (kk : Int) := Int.natCast_nonneg _
      generalize pM false (l.take (k + kk)) P sk = T at *
      obtain ⟨s, P', sk'⟩ := T
      dsimp only at *
      obtain ⟨out2, hout2⟩ : ∃ out2, out2 = out ++ s := ⟨_, rfl⟩
      rw [← hout2] at hst2 hsl
      have hsl2 : out.length + s.length ≤ 600 := by rw [hout2, List.length_append] at hsl; omega
      have HR6 := Lib.hid hR6
      have Hst2 := Lib.hid hst2
      have Hout2 := Lib.hid hout2
      clear hr5 hR6 hst hst2 hta hda hout2 hsl hkl hdl hol hrc1 hrc2 hr1 HR HT HP hkk hwf hn hc hB
      generalize hrl : l.drop k = rl at *
      generalize hrl2 : l.drop (k + kk) = rl2 at *
      generalize hch : rl.take kk = ch at *
      have Hrl2 := Lib.hid hrl2
      clear hrl hrl2 hch
      go_wp2_with fail
      refine hg.mono ?_
      rintro e w4 ⟨A7, c7, A8, c8, rfl, hP4, F, hF1, hF2⟩
      have HP4 := Lib.hid hP4
      have Hown := Lib.hid (fun W (hW : Below w4.heap.size w4 W) => hP4.own.below hW)
      have HF1 := Lib.hid (fun W (hW : Below w4.heap.size w4 W) => Rd.S_below (by decide) hF1 hW)
      have HF2 := Lib.hid hF2
      have hs4 := hP4.size
      clear hg hP4 hF1 hF2 hcut1
      go_wp2_with fail
      go_region_law (first
        | ((refine step_appS Rd.cb_seg rfl _ _ 26 (by rfl) (XG w w.heap.size (.slice A8 ((l.take (k + kk)).drop P').length c8)) w.heap.size 31 56 seg_type (.slice Ao out.length co) out (by rfl) (Hown.out _ (by first | exact Below.refl _ _ | exact (Below.refl _ _).drew)) A7 c7 s.length F s rfl (by rfl) (HF1.out _ (by first | exact Below.refl _ _ | exact (Below.refl _ _).drew)) (fun b hb _ => ⟨(HF2.out b hb).1, (HF2.out b hb).2.1⟩) (by omega) (by omega) (by first | exact hs4 | (simp; omega)) ?_); intro A9 c9 w5 hown5 hgrow5 hnew5; rw [← Hout2.out] at hown5 hnew5 ⊢))
      all_goals
        have hP5 := HP4.out.told2 (by first | exact Below.refl _ _ | exact (Below.refl _ _).drew) hown5 hgrow5 hnew5
        have HP5 := Lib.hid hP5
        clear hown5 hgrow5 hnew5 hP5 Hown HF1 HF2 HP4
        go_wp2
        exact ⟨⟨i + 1, k + kk, out2, A9, c9, A8, c8, P', sk', A6, c6, rfl, by rw [Hrl2.out], by go_num, by omega, by omega, HP5, Hst2, by rw [Hrl2.out]; exact HR6⟩, by simp [intOf]; omega⟩
    · have hr5 := hr1
      have hta : l.take k ++ l.drop k = l := List.take_append_drop k l
      have hg := give_calls HP.out A1 c1 _ hr5 (by rw [hta]; omega)
      have hst := still_more HT.out (l.drop k)
      rw [hta] at hg hst
      have hst2 := still_parts _ _ P sk out rfl hst
      have hsl := still_len hst2
      generalize pM false l P sk = T at *
      obtain ⟨s, P', sk'⟩ := T
      dsimp only at *
      have hcl := still_close hst2
      obtain ⟨out2, hout2⟩ : ∃ out2, out2 = out ++ s := ⟨_, rfl⟩
      rw [← hout2] at hst2 hsl hcl
      have hsl2 : out.length + s.length ≤ 600 := by rw [hout2, List.length_append] at hsl; omega
      obtain ⟨s2, hs2⟩ : ∃ s2, s2 = (pM true l P' sk').1 ++ tl (pM true l P' sk').2.2 (pM true l P' sk').2.1 := ⟨_, rfl⟩
      have hclo := fun (wr : World) (Ao : Option Addr) (co : Nat) (A3 : Option Addr) (c3 : Nat) (h : PI w w.heap.size (.slice none 0 0) false l wr Ao co out A3 c3 P' sk') => close_calls h (by omega)
      rw [← hs2] at hclo hcl
      generalize (pM true l P' sk').2.1 = P2 at *
      have hsg := sgs_len l
      have hs2l : out2.length + s2.length ≤ 600 := by
        have : (out2 ++ s2).length = (sgs l 0).length := by rw [hcl]
        rw [List.length_append] at this
        omega
      have ho2 : out2.length ≤ 600 := by omega
      have Hout2 := Lib.hid hout2
      have Hcl := Lib.hid hcl
      have Hclo := Lib.hid hclo
      clear hr5 hst hst2 hta hout2 hsl hkl hdl hol hr1 HR HT HP hcl hclo hs2 hB
      generalize hrl : l.drop k = rl at *
      obtain rfl : i = x.length := by omega
      go_wp2_with fail
      refine hg.mono ?_
      rintro e w4 ⟨A7, c7, A8, c8, rfl, hP4, F, hF1, hF2⟩
      have hclo := Hclo.out w4 Ao co A8 c8 hP4
      clear hg Hclo
      go_wp2_with fail
      refine hclo.mono ?_
      rintro e w5 ⟨A9, c9, A10, c10, rfl, hP5, ⟨F2, hG1, hG2⟩, hbut5, hnew5⟩
      have hS5 : Rd.seg.S F w5 A7 c7 s := Rd.S_move (by decide) hF1 (fun b hb _ => hbut5.block b (hF2 b hb).2.2 (fun k => (hF2 b hb).1 (.inl k)))
      have hFn : ∀ b, F b → ¬ XG w w.heap.size (.slice A10 (l.drop P2).length c10) b ∧ (Value.slice Ao out.length co).ownBlock ≠ some b ∧ b < w5.heap.size := fun b hb => by
        obtain ⟨k1, k2, k3⟩ := hF2 b hb
        refine ⟨fun q => q.elim (fun q => q.elim (fun q => k1 (.inl (.inl q))) (fun q => (hnew5 b q).elim (fun q => k1 (.inl q)) (fun q => by omega))) (fun q => k1 (.inr q)), k2, Nat.lt_of_lt_of_le k3 hbut5.size⟩
      have hB5 := hP5.base
      have hs5 := hP5.size
      have hown5 := hP5.own
      have HB5 := Lib.hid hB5
      have HFn := Lib.hid hFn
      have HG2 := Lib.hid hG2
      clear hclo hF1 hF2 hP4 hP5 hbut5 hnew5 hB5 hFn hG2
      go_wp2_with (at_builtin; first
        | ((refine wpList_appS Rd.cb_seg rfl _ _ 26 rfl (XG w w.heap.size (.slice A10 (l.drop P2).length c10)) w.heap.size 31 56 seg_type (.slice Ao out.length co) out rfl hown5 A7 c7 s.length F s rfl rfl hS5 (fun b hb _ => ⟨(HFn.out b hb).1, (HFn.out b hb).2.1⟩) (by omega) (by omega) hs5 ?_); intro A11 c11 w6 hown6 hgrow6 hnew6; rw [← Hout2.out] at hown6 hnew6 ⊢; have hG6 : Rd.seg.S F2 w6 A9 c9 s2 := Rd.S_move (by decide) hG1 (fun b hb _ => hgrow6.block b (HG2.out b hb).2.2 (fun e => (HG2.out b hb).2.1 e.symm)); have HB6 : RowKit.Hid (Below w.heap.size w w6) := Lib.hid (HB5.out.grown hgrow6 HB5.out.size (fun g e => hown5.base g e)); have hn6 : ∀ b, F2 b → (Value.slice A11 out2.length c11).ownBlock ≠ some b := (fun b hb e => (hnew6 b e).elim (HG2.out b hb).2.1 (fun k => by have := (HG2.out b hb).2.2; omega)); have hs6 := HB6.out.size)
        | ((refine wpList_appS Rd.cb_seg rfl _ _ 26 rfl (XG w w.heap.size (.slice A10 (l.drop P2).length c10)) w.heap.size 31 56 seg_type (.slice A11 out2.length c11) out2 rfl hown6 A9 c9 s2.length F2 s2 rfl rfl hG6 (fun b hb _ => ⟨(HG2.out b hb).1, hn6 b hb⟩) (by omega) (by omega) hs6 ?_); intro A12 c12 w7 hown7 hgrow7 hnew7; rw [Hcl.out] at hown7 hnew7 ⊢; have HB7 : RowKit.Hid (Below w.heap.size w w7) := Lib.hid (HB6.out.grown hgrow7 HB6.out.size (fun g e => hown6.base g e)); clear hown6 hgrow7 hnew7 hG6))
      have hS7 := hown7.S (by omega)
      have hr7 := Hr.out.below HB7.out
      clear hown7 hG1 hS5 hn6 hgrow6 hnew6
      generalize hsx : sgs l 0 = sx at *
      have hof := fun W (hW : Below w7.heap.size w7 W) => of_calls A c l W (hr7.below hW) (by omega)
      rw [hsx] at hof
      have Hof := Lib.hid hof
      clear hsx hof
      refine (fixed8_calls w7).mono ?_
      rintro e w8 ⟨rfl, hB8⟩
      have hS8 := Rd.S_below (by decide) hS7 hB8
      have HB8 := Lib.hid (below_chain HB7.out hB8)
      have hof := Hof.out w8 hB8
      clear hB8 hS7 hr7
      go_wp2_with fail
      refine hof.mono ?_
      rintro e w9 ⟨v9, rfl, hO9, hB9⟩
      obtain ⟨A13, c13, rfl⟩ := hO9.form
      have hS9 := hO9.S (by omega)
      have hS89 := Rd.S_below (by decide) hS8 hB9
      have HB9 := Lib.hid (below_chain HB8.out hB9)
      clear hB9 hO9 hof hS8
      go_wp2_with fail
      refine (same7_calls A12 A13 c12 c13 sx w9 hS89 hS9).mono ?_
      rintro e w10 ⟨rfl, hB10⟩
      go_wp2
      go_ret
      exact ⟨rfl, below_chain HB9.out hB10⟩

set_option maxRecDepth 100000 in
set_option maxHeartbeats 1000000 in
theorem walk_FeedChunks (w : World) (A : Option Addr) (c : Nat) (l : List UInt8) (hr : RB w A c l) (A2 : Option Addr) (c2 : Nat) (x : List Int) (hS : (Rd.num .u16).S (fun _ => True) w A2 c2 x) :
    Calls Try.prog 10 #[.slice A l.length c, .slice A2 x.length c2] w fun e w' => e = .returned (.bool true) ∧ Below w.heap.size w w' := by
  have hlc := hr.1
  have hl2 := hr.2.1
  have hx2 := hS.2.1
  by_cases h1 : 600 < l.length
  · go_enter Try.func10, Try.ntmps10
    go_wp2_with fail
    refine (fixed8_calls w).mono ?_
    rintro e w1 ⟨rfl, hB⟩
    go_wp2
    go_ret
    exact ⟨rfl, hB⟩
  · by_cases h2 : 60 < x.length
    · go_enter Try.func10, Try.ntmps10
      go_wp2_with fail
      refine (fixed8_calls w).mono ?_
      rintro e w1 ⟨rfl, hB⟩
      go_wp2
      go_ret
      exact ⟨rfl, hB⟩
    · exact feed_main w A c l hr (by omega) A2 c2 x hS (by omega)
end Go.Proofs.Ytepnillddlemaaa
