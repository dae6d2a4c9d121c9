/- The law WoundStill: of any bytes' parts those that are kept stand in the edited bytes where they are told; if it is clean beside them, the frames that are found are just those of them that are frames. The conditions: bytes and edits are read from memory, the edits hold 1048576 values at the most. -/
import Derived.Test.YtepnillddlemaaaLaw25
import Derived.Test.YtepnillddlemaaaCutS
import Derived.Test.YtepnillddlemaaaOpenB
set_option linter.unusedVariables false
set_option linter.unusedSimpArgs false
namespace Go.Proofs.Ytepnillddlemaaa
open Go.RowKit Go.Shelf TG TG.Crc
attribute [local go_sem] Oper.semAt_some

/-- how many of the first parts are left -/
def lfN (x : List Sg) (es : List Ed) (i : Nat) : Nat := ((x.take i).filter (leftB es)).length
theorem lfN_succ (x : List Sg) (es : List Ed) (i : Nat) (h : i < x.length) : lfN x es (i + 1) = lfN x es i + if leftB es x[i] then 1 else 0 := by
  unfold lfN
  rw [List.take_succ_eq_append_getElem h, List.filter_append, List.length_append]
  cases h1 : leftB es x[i] <;> simp [List.filter_cons, h1]
theorem kept_at (x : List Sg) (es : List Ed) (i : Nat) (h : i < x.length) (hl : leftB es x[i] = true) : ∃ h2 : lfN x es i < (kept x es).length, (kept x es)[lfN x es i] = keep es x[i] := by
  have hs : x = x.take i ++ x[i] :: x.drop (i + 1) := by rw [← List.drop_eq_getElem_cons h, List.take_append_drop]
  have hk : kept x es = kept (x.take i) es ++ keep es x[i] :: kept (x.drop (i + 1)) es := by
    conv => lhs; rw [hs]
    unfold kept
    rw [List.filter_append, List.filter_cons_of_pos hl, List.map_append, List.map_cons]
  have hn : (kept (x.take i) es).length = lfN x es i := by simp [kept, lfN]
  refine ⟨by rw [hk]; simp; omega, ?_⟩
  simp only [hk]
  rw [List.getElem_append_right (by omega)]
  simp [hn]
theorem lfN_all (x : List Sg) (es : List Ed) : lfN x es x.length = (kept x es).length := by simp [lfN, kept]
theorem keep_bounds {l : List UInt8} {es : List Ed} (hm : mayB l.length 0 es = true) : ∀ p ∈ kept (sgs l 0) es, p.fr + p.n ≤ (ap l 0 es).length := by
  intro p hp
  unfold kept at hp
  obtain ⟨s, h1, rfl⟩ := List.mem_map.1 hp
  obtain ⟨h2, h3⟩ := List.mem_filter.1 h1
  obtain ⟨_, a2, a3, _⟩ := sgs_from l _ 0 rfl s h2
  exact (still0 hm a2 a3 h3).2.2

set_option maxRecDepth 100000 in
set_option maxHeartbeats 4000000 in
theorem wound_main (w : World) (A : Option Addr) (c : Nat) (l : List UInt8) (hr : RB w A c l) (hl : l.length ≤ 600) (A2 : Option Addr) (c2 : Nat) (es : List Ed) (hS : RdE.S (fun _ => True) w A2 c2 es) (hg : greatB es = false) (hm : mayB l.length 0 es = true) :
    Calls Try.prog 12 #[.slice A l.length c, .slice A2 es.length c2] w fun e w' => e = .returned (.bool true) ∧ Below w.heap.size w w' := by
  have hlc := hr.1
  obtain ⟨he, hel⟩ := greatB_not hg
  obtain ⟨i1, hi1, hz0, hz1, hz2⟩ := info_parts info_u8
  have hgr := great25_calls A2 c2 es w hS (by omega)
  rw [hg] at hgr
  have hap := fun W (hW : Below w.heap.size w W) => apply_calls A c l A2 c2 es W (hr.below hW) (Rd.S_below (by decide) hS hW) hl he hel hm
  have hof := fun W (hW : Below w.heap.size w W) => of_calls A c l W (hr.below hW) (by omega)
  have hall : (ap l 0 es).length ≤ 200000 := by
    have := ap_len l es 0
    have h3 : l.length * (es.length + 1) ≤ 600 * 301 := Nat.mul_le_mul hl (by omega)
    omega
  have hxl := sgs_len l
  have hxf := sgs_from l _ 0 rfl
  have hst : ∀ p ∈ sgs l 0, leftB es p = true → 0 ≤ (p.fr : Int) + mv p.fr es ∧ ((ap l 0 es).drop (keep es p).fr).take p.n = (l.drop p.fr).take p.n ∧ (keep es p).fr + p.n ≤ (ap l 0 es).length := fun p hp hlp => by
    obtain ⟨_, a2, a3, _⟩ := hxf p hp
    exact still0 hm a2 a3 hlp
  have hkb := keep_bounds hm
  have hws := fun hc => wound_still (l := l) (es := es) hm hc
  generalize hx : sgs l 0 = x at *
  generalize hal : ap l 0 es = al at *
  have hkl : (kept x es).length ≤ x.length := by unfold kept; rw [List.length_map]; exact List.length_filter_le _ _
  have Hap := Lib.hid hap
  have Hof := Lib.hid hof
  have Hst := Lib.hid hst
  have Hxf := Lib.hid hxf
  have Hkb := Lib.hid hkb
  have Hws := Lib.hid hws
  have Hx := Lib.hid hx
  clear hap hof hst hxf hkb hws hx hal hg
  go_enter Try.func12, Try.ntmps12
  go_wp2_with fail
  refine hgr.mono ?_
  rintro e w1 ⟨rfl, hB1⟩
  clear hgr
  go_wp2_with fail
  refine (Hap.out w1 hB1).mono ?_
  rintro e w2 ⟨A3, c3, rfl, hr3, hB2⟩
  have HB2 := Lib.hid (below_chain hB1 hB2)
  clear hB2 hB1
  go_wp2_with fail
  refine (Hof.out w2 HB2.out).mono ?_
  rintro e w3 ⟨v3, rfl, hO3, hB3⟩
  obtain ⟨A4, c4, rfl⟩ := hO3.form
  have hS3 := hO3.S (by omega)
  have HB3 := Lib.hid (below_chain HB2.out hB3)
  have hr33 := hr3.below hB3
  clear hB3 hO3 hr3
  have hkc := fun W (hW : Below w3.heap.size w3 W) => kept_calls A4 c4 x A2 c2 es W (Rd.S_below (by decide) hS3 hW) (Rd.S_below (by decide) hS (below_chain HB3.out hW)) (fun p hp => by have := Hxf.out p hp; omega) he (by omega) (by omega) (by omega) (fun p hp hlp => (Hst.out p hp hlp).1)
  have hlf := fun W (hW : Below w3.heap.size w3 W) => left_calls A4 c4 x A2 c2 es W (Rd.S_below (by decide) hS3 hW) (Rd.S_below (by decide) hS (below_chain HB3.out hW)) (fun p hp => by have := Hxf.out p hp; omega) he (by omega)
  have Hkc := Lib.hid hkc
  have Hlf := Lib.hid hlf
  clear hkc hlf
  go_wp2_with fail
  refine (Hkc.out w3 (Below.refl _ _)).mono ?_
  rintro e w4 ⟨v4, rfl, hO4, hB4⟩
  obtain ⟨A5, c5, rfl⟩ := hO4.form
  have hS4 := hO4.S (by omega)
  have HB4 := Lib.hid hB4
  clear hB4 hO4
  go_wp2_with fail
  refine (Hlf.out w4 HB4.out).mono ?_
  rintro e w5 ⟨v5, rfl, hO5, hB5⟩
  obtain ⟨A6, c6, rfl⟩ := hO5.form
  have hS5 := hO5.S (by simp; omega)
  have hS45 := Rd.S_below (by decide) hS4 hB5
  have HB5 := Lib.hid (below_chain HB4.out hB5)
  have hS35 := Rd.S_below (by decide) hS3 HB5.out
  have hr35 := hr33.below HB5.out
  have HB05 := Lib.hid (below_chain HB3.out HB5.out)
  clear hB5 hO5 hS3 hS4 hr33 HB4
  obtain ⟨lb, hlb⟩ : ∃ lb, lb = x.map (leftB es) := ⟨_, rfl⟩
  have hlbl : lb.length = x.length := by rw [hlb]; simp
  rw [← hlb] at hS5 ⊢
  obtain ⟨xn, hxn⟩ : ∃ xn, xn = x.length := ⟨_, rfl⟩
  obtain ⟨K, hK⟩ : ∃ K, K = kept x es := ⟨_, rfl⟩
  rw [← hK] at hS45 hkl ⊢
  have Hlb := Lib.hid hlb
  have Hlbl := Lib.hid hlbl
  have HK := Lib.hid hK
  clear hlb hlbl hK hxn
  go_wp2_with fail
  go_loopw [10, 46] (fun kv iv wr => ∃ i : Nat, iv = .int .i64 i ∧ kv = .int .i64 (lfN x es i : Nat) ∧ i ≤ x.length ∧ Hid (Below w5.heap.size w5 wr)) (fun _ iv _ => x.length - (intOf iv).toNat)
  case atStart => exact ⟨0, rfl, rfl, Nat.zero_le _, Lib.hid (Below.refl _ _)⟩
  case round =>
    obtain ⟨i, rfl, rfl, hi, hB⟩ := hrel
    have j1 : (0 : Int) ≤ (i : Int) := Int.natCast_nonneg _
    by_cases hlt : i < x.length
    · obtain ⟨ad1, P1, d1, rfl, _, hz⟩ := seg_at (Rd.S_below (by decide) hS35 hB.out) i hlt
      obtain ⟨y0, y1, y2, y3, y4⟩ := hz _ (Below.refl _ _)
      have hilb : i < lb.length := by rw [Hlbl.out]; exact hlt
      have hBn := below_new hB.out (.cells #[.int .i64 (x[i].fr : Int), .int .i64 (x[i].n : Int), .bool x[i].is, .int .i64 (x[i].k : Int), .slice P1 x[i].p.length d1] 31)
      obtain ⟨ad2, rfl, _, cs, rfl, hz2⟩ := Rd.S_at (Rd.S_below (by decide) hS5 hBn) i hilb
      have z0 := hz2 0 _ rfl
      rw [show (Rd.bool).sz = 1 from rfl, Nat.mul_one, Nat.add_zero, show lb[i] = leftB es x[i] from by simp [Hlb.out]] at z0
      have hls := lfN_succ x es i hlt
      have hmem := List.getElem_mem hlt
      have hat := kept_at x es i hlt
      have hil : (i : Int) < (lb.length : Int) := by omega
      clear hz hz2
      have hcast : ((lfN x es (i + 1) : Nat) : Int) = (lfN x es i : Int) + ((if leftB es x[i] = true then 1 else 0 : Nat) : Int) := by rw [hls]; omega
      have hsx := Hst.out _ hmem
      have hxx := Hxf.out _ hmem
      obtain ⟨_, b1, b2, _⟩ := hxx
      have hbox := Blk.new wr 31 [.int .i64 (x[i].fr : Int), .int .i64 (x[i].n : Int), .bool x[i].is, .int .i64 (x[i].k : Int), .slice P1 x[i].p.length d1]
      have Hbox := Lib.hid hbox
      have HBn := Lib.hid hBn
      cases hlv : leftB es x[i] with
      | false =>
        rw [hlv] at z0 hcast
        dsimp only at z0
        have Hc := Lib.hid hcast
        clear hbox hBn hat hls hcast hsx hlv hmem b1 b2 Hbox
        generalize x[i] = s at *
        obtain ⟨fr, n, is, k, p⟩ := s
        dsimp only at *
        go_wp2
        refine ⟨⟨i + 1, by go_num, by have := Hc.out; simp at this; rw [this], by omega, HBn⟩, ?measure⟩
        case measure => simp [intOf]; omega
      | true =>
        rw [hlv] at z0 hcast
        dsimp only at z0
        obtain ⟨hk1, hk2⟩ := hat hlv
        rw [← HK.out] at hk1
        have hk2' : K[lfN x es i] = keep es x[i] := by rw [← hk2]; congr 1
        obtain ⟨s1, s2, s3⟩ := hsx hlv
        obtain ⟨ad3, P3, d3, rfl, _, hz3⟩ := seg_at (Rd.S_below (by decide) hS45 HBn.out) (lfN x es i) hk1
        rw [hk2'] at hz3
        have hkn : (keep es x[i]).n = x[i].n := rfl
        rw [hkn] at hz3
        generalize hf' : (keep es x[i]).fr = f' at *
        have Hc := Lib.hid hcast
        clear hbox hBn hat hls hcast hsx hlv hmem hk2 hk2' s1 hf' hkn
        generalize x[i] = s at *
        obtain ⟨fr, n, is, k, p⟩ := s
        dsimp only at *
        obtain ⟨A7, c7, hcut1, hrc1, _⟩ := cut_lh (P := Try.prog) 25 5 Try.underlying25 hi1 hz1 A3 c3 al f' (f' + n) (by omega) s3 hr35.1
        obtain ⟨A8, c8, hcut2, hrc2, _⟩ := cut_lh (P := Try.prog) 25 5 Try.underlying25 hi1 hz1 A c l fr (fr + n) (by omega) b2 hlc
        rw [show f' + n - f' = n from by omega, s2, show ((f' + n : Nat) : Int) = (f' : Int) + (n : Int) from by omega] at hcut1
        rw [show f' + n - f' = n from by omega, s2] at hrc1
        rw [show fr + n - fr = n from by omega, show ((fr + n : Nat) : Int) = (fr : Int) + (n : Int) from by omega] at hcut2
        rw [show fr + n - fr = n from by omega] at hrc2
        generalize (l.drop fr).take n = sb at *
        obtain ⟨W0, hW0⟩ : ∃ W0, W0 = wr.alloc (.cells #[.int .i64 (fr : Int), .int .i64 (n : Int), .bool is, .int .i64 (k : Int), .slice P1 p.length d1] 31) := ⟨_, rfl⟩
        have HW0 := Lib.hid hW0
        rw [← hW0] at Hbox HBn hz3
        have hr7 := hrc1 W0 (hr35.below HBn.out)
        have hr8 := hrc2 W0 (hr.below (below_chain HB05.out HBn.out))
        generalize hkc : lfN x es i = kc at *
        have HKC := Lib.hid hkc
        have q1 : (kc : Int) < (K.length : Int) := by omega
        have q2 : decide ((K.length : Int) ≤ (kc : Int)) = false := by simp; omega
        have q3 : decide (K.length ≤ kc) = false := by simp; omega
        have q4 : (0 : Int) ≤ (f' : Int) := Int.natCast_nonneg _
        have q5 : decide ((f' : Int) < 0) = false := by simp
        have q6 : (f' : Int) + (n : Int) ≤ (al.length : Int) := by omega
        have q7 : decide ((al.length : Int) < (f' : Int) + (n : Int)) = false := by simp; omega
        have q8 : (0 : Int) ≤ (fr : Int) := Int.natCast_nonneg _
        have q9 : (0 : Int) ≤ (n : Int) := Int.natCast_nonneg _
        have q10 : (fr : Int) + (n : Int) ≤ (l.length : Int) := by omega
        have q11 : (0 : Int) ≤ (kc : Int) := Int.natCast_nonneg _
        have q12 : (al.length : Int) ≤ 200000 := by omega
        have q13 : (l.length : Int) ≤ 600 := by omega
        clear hW0 hrc1 hrc2 hkc s2
        go_wp2_with fail
        rw [← HW0.out]
        have x0 : ∀ d os, (Sort.grow (redrawn W0 d) os).cell? ⟨wr.heap.size, 0, none⟩ = some (.int .i64 (fr : Int)) := fun d os => (Hbox.out.below (below_regrown W0 d os)).cell 0
        have x1 : ∀ d os, (Sort.grow (redrawn W0 d) os).cell? ⟨wr.heap.size, 1, none⟩ = some (.int .i64 (n : Int)) := fun d os => (Hbox.out.below (below_regrown W0 d os)).cell 1
        have w0 : ∀ d os, (Sort.grow (redrawn W0 d) os).cell? (ad3.add (kc * 5)) = some (.int .i64 (f' : Int)) := fun d os => (hz3 _ (below_regrown W0 d os)).1
        have w1 : ∀ d os, (Sort.grow (redrawn W0 d) os).cell? ⟨(ad3.add (kc * 5)).block, (ad3.add (kc * 5)).off + 1, none⟩ = some (.int .i64 (n : Int)) := fun d os => (hz3 _ (below_regrown W0 d os)).2.1
        have k1 : ∀ d os, (convert 25 9 (.slice A7 sb.length c7)).run Try.prog (Sort.grow (redrawn W0 d) os) = .ok (.string (mk8 sb)) (Sort.grow (redrawn W0 d) os) := fun d os => conv_str (P := Try.prog) 25 9 5 Try.underlying25 Try.underlying5 Try.underlying9 (hr7.below (below_regrown W0 d os))
        have k2 : ∀ d os, (convert 25 9 (.slice A8 sb.length c8)).run Try.prog (Sort.grow (redrawn W0 d) os) = .ok (.string (mk8 sb)) (Sort.grow (redrawn W0 d) os) := fun d os => conv_str (P := Try.prog) 25 9 5 Try.underlying25 Try.underlying5 Try.underlying9 (hr8.below (below_regrown W0 d os))
        clear hr7 hr8 hz3 y0 y1 y2 y3 y4 z0
        refine wp_region_quiet_below (by kernel_rfl) (by kernel_rfl) ?_
        repeat (first | go_big_quiet_step (fail) | quiet_step (fail))
        refine wpQuiet_nil ?_
        intro _ hw'
        obtain ⟨⟨dq, osq⟩, hw''⟩ := hw'
        subst hw''
        clear x0 x1 w0 w1 k1 k2 hcut1 hcut2
        go_wp2
        refine ⟨⟨i + 1, by go_num, by have := Hc.out; simp at this; rw [this], by omega, Lib.hid (below_chain HBn.out (below_regrown W0 dq osq))⟩, ?measure⟩
        case measure => simp [intOf]; omega
    · obtain rfl : i = x.length := by omega
      rw [lfN_all, ← HK.out]
      have hSk := Rd.S_below (by decide) hS45 hB.out
      have hr6 := hr35.below hB.out
      have HB6 := Lib.hid (below_chain HB05.out hB.out)
      have hfl := List.length_filter_le (·.is) K
      have Hkb2 := Lib.hid (show ∀ p ∈ K.filter (·.is), p.fr ≤ 1000000 ∧ p.n ≤ 1000000 from fun p hp => by
        have := Hkb.out p (by rw [← HK.out]; exact (List.mem_filter.1 hp).1)
        omega)
      go_wp2_with fail
      refine (refframes7_calls A5 c5 K _ hSk (by omega)).mono ?_
      rintro e w6 ⟨v6, rfl, hO6, hB6⟩
      obtain ⟨A9, c9, rfl⟩ := hO6.form
      have hS6 := hO6.S (by omega)
      have hr7 := hr6.below hB6
      have HB7 := Lib.hid (below_chain HB6.out hB6)
      have hws := Hws.out
      rw [← HK.out] at hws
      obtain ⟨kf, hkf⟩ : ∃ kf, kf = K.filter (·.is) := ⟨_, rfl⟩
      rw [← hkf] at hS6 hws Hkb2 hfl ⊢
      clear hB6 hO6 hr6 hSk hkf
      go_wp2_with fail
      have hcl := clean_calls A3 c3 al A9 c9 kf w6 hr7 hS6 (by omega) Hkb2.out
      have Hws2 := Lib.hid hws
      clear hws
      cases hcb : cleanB al kf with
      | false =>
        rw [hcb] at hcl
        clear hcb
        refine hcl.mono ?_
        rintro e w7 ⟨rfl, hB7⟩
        go_wp2_with fail
        refine (fixed25_calls _).mono ?_
        rintro e w8 ⟨rfl, hB8⟩
        go_wp2
        go_ret
        exact ⟨rfl, below_chain (below_chain HB7.out hB7) hB8⟩
      | true =>
        have Hws3 := Lib.hid (Hws2.out hcb)
        rw [hcb] at hcl
        clear hcb
        refine hcl.mono ?_
        rintro e w7 ⟨rfl, hB7⟩
        have HB8 := Lib.hid (below_chain HB7.out hB7)
        have hS7 := Rd.S_below (by decide) hS6 hB7
        have hr8 := hr7.below hB7
        clear hB7 hS6 hr7 hcl
        go_wp2_with fail
        refine (fixed25_calls _).mono ?_
        rintro e w8 ⟨rfl, hB8⟩
        have HB9 := Lib.hid (below_chain HB8.out hB8)
        have hS8 := Rd.S_below (by decide) hS7 hB8
        have hr9 := hr8.below hB8
        have hfr := frames_calls A3 c3 al w8 hr9 (by omega)
        rw [Hws3.out] at hfr
        clear hB8 hS7 hr8
        go_wp2_with fail
        refine hfr.mono ?_
        rintro e w9 ⟨v9, rfl, hO9, hB9⟩
        obtain ⟨A10, c10, rfl⟩ := hO9.form
        have hS9 := hO9.S (by omega)
        have hS89 := Rd.S_below (by decide) hS8 hB9
        have HB10 := Lib.hid (below_chain HB9.out hB9)
        clear hB9 hO9 hS8 hr9 hfr
        go_wp2_with fail
        refine (same7_calls A10 A9 c10 c9 kf _ hS9 hS89).mono ?_
        rintro e w10 ⟨rfl, hB10⟩
        go_wp2
        go_ret
        exact ⟨rfl, below_chain HB10.out hB10⟩

theorem bulk_ed (es : List Ed) : es.length + lenE es ≤ mSl (mPr mOne (mPr mOne (mSl mOne))) es := by
  unfold mSl lenE
  induction es with
  | nil => simp
  | cons e r ih =>
    have h : (e.2.2.map (mOne : UInt8 → Nat)).sum = e.2.2.length := by
      induction e.2.2 with
      | nil => rfl
      | cons b l ihl => rw [List.map_cons, List.sum_cons, ihl, List.length_cons]; simp only [mOne]; omega
    simp only [List.map_cons, List.sum_cons, List.length_cons, mPr, mSl, h, mOne] at ih ⊢
    omega
set_option maxRecDepth 100000 in
set_option maxHeartbeats 1000000 in
theorem walk_WoundStill (w : World) (A : Option Addr) (c : Nat) (l : List UInt8) (hr : RB w A c l) (A2 : Option Addr) (c2 : Nat) (es : List Ed) (hS : RdE.S (fun _ => True) w A2 c2 es) (hb : mSl (mPr mOne (mPr mOne (mSl mOne))) es ≤ 1048576) :
    Calls Try.prog 12 #[.slice A l.length c, .slice A2 es.length c2] w fun e w' => e = .returned (.bool true) ∧ Below w.heap.size w w' := by
  have hl := hr.2.1
  have hbe := bulk_ed es
  by_cases h1 : 600 < l.length
  · go_enter Try.func12, Try.ntmps12
    go_wp2_with fail
    refine (fixed25_calls _).mono ?_
    rintro e w1 ⟨rfl, hB⟩
    go_wp2
    go_ret
    exact ⟨rfl, hB⟩
  · have hgr := great25_calls A2 c2 es w hS (by omega)
    cases hg : greatB es with
    | true =>
      rw [hg] at hgr
      clear hg hbe hb
      go_enter Try.func12, Try.ntmps12
      go_wp2_with fail
      refine hgr.mono ?_
      rintro e w1 ⟨rfl, hB1⟩
      clear hgr
      go_wp2_with fail
      refine (fixed25_calls _).mono ?_
      rintro e w2 ⟨rfl, hB2⟩
      go_wp2
      go_ret
      exact ⟨rfl, below_chain hB1 hB2⟩
    | false =>
      cases hm : mayB l.length 0 es with
      | true => exact wound_main w A c l hr (by omega) A2 c2 es hS hg hm
      | false =>
        obtain ⟨he, hel⟩ := greatB_not hg
        have hap := fun W (hW : Below w.heap.size w W) => apply_bad A c l A2 c2 es W (Rd.S_below (by decide) hS hW) (by omega) he hm
        rw [hg] at hgr
        clear hg hm hbe hb
        go_enter Try.func12, Try.ntmps12
        go_wp2_with fail
        refine hgr.mono ?_
        rintro e w1 ⟨rfl, hB1⟩
        clear hgr
        go_wp2_with fail
        refine (hap w1 hB1).mono ?_
        rintro e w2 ⟨rfl, hB2⟩
        clear hap
        go_wp2_with fail
        refine (fixed25_calls _).mono ?_
        rintro e w3 ⟨rfl, hB3⟩
        go_wp2
        go_ret
        exact ⟨rfl, below_chain (below_chain hB1 hB2) hB3⟩
end Go.Proofs.Ytepnillddlemaaa
