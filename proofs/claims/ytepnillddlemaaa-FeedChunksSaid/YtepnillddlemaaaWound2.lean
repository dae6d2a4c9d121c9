/- wound.Apply. Conditions stand in each theorem. -/
import Derived.Test.YtepnillddlemaaaWound
import Derived.Deep.RegionLaw
set_option linter.unusedVariables false
set_option linter.unusedSimpArgs false
namespace Go.Proofs.Ytepnillddlemaaa
open Go.RowKit Go.Shelf TG TG.Crc
attribute [local go_sem] Oper.semAt_some

theorem step_app8 {P : Program} {ops : Array Oper} {o : Oper} {a : Act} {w : World} {K : Act → World → Prop} {Q : Exit → Act → World → Prop} {E : Prop} (hg : o.guard = none) (s x : Operand) (t : TypeId)
    (ho : o.op = .call { callee := .builtin .append, args := #[s, x], argTypes := #[t, t] })
    (base e : Nat) (ht : P.underlying t = some (.slice e)) (hinfo : (P.info? e).map (fun i => (i.zero, i.size, i.bytes)) = some (some (.int .u8 0), 1, 1))
    (v : Value) (xs : List UInt8) (hs : a.eval s = v) (hown : w.ownsRow base e 1 v xs.length (bc xs)) (A : Option Addr) (c : Nat) (l : List UInt8) (hx : a.eval x = .slice A l.length c) (hr : RB w A c l)
    (hlen : xs.length + l.length ≤ 140737488355328) (hbase : base ≤ w.heap.size)
    (h : ∀ A' c' w', w'.ownsRow base e 1 (.slice A' (xs ++ l).length c') (xs ++ l).length (bc (xs ++ l)) → w.grownBy w' v.ownBlock → K (a.put o.dst (.slice A' (xs ++ l).length c')) w') :
    if Region.wanted o (yielded ops a.tmps) = true then Oper.wp P o a w K Q else E := by
  rw [if_pos (by simp [Region.wanted, hg])]
  exact wp_app8 s x t ho base e ht hinfo v xs hs hown A c l hx hr hlen hbase h
theorem ap_len (l : List UInt8) : ∀ (es : List Ed) (i : Nat), (ap l i es).length ≤ l.length * (es.length + 1) + lenE es
  | [], i => by simp [ap, lenE]
  | e :: r, i => by
    have ih := ap_len l r (e.1 + e.2.1).toNat
    simp only [ap, List.length_append, List.length_take, List.length_drop, List.length_cons, lenE, List.map_cons, List.sum_cons] at ih ⊢
    rw [Nat.mul_add l.length (r.length + 1) 1]
    omega
set_option maxRecDepth 100000 in
set_option maxHeartbeats 2000000 in
theorem apply_calls (A : Option Addr) (c : Nat) (l : List UInt8) (A2 : Option Addr) (c2 : Nat) (x : List Ed) (w : World) (hr : RB w A c l) (h1 : RdE.S (fun _ => True) w A2 c2 x) (hl : l.length ≤ 600) (hx : okE x) (hxl : x.length + lenE x ≤ 300) (hm : mayB l.length 0 x = true) :
    Calls Try.prog 50 #[.slice A l.length c, .slice A2 x.length c2] w fun e w' => ∃ A3 c3, e = .returned (.tuple #[.slice A3 (ap l 0 x).length c3, .int .i64 0]) ∧ RB w' A3 c3 (ap l 0 x) ∧ Below w.heap.size w w' := by
  have hlc := hr.1
  obtain ⟨i1, hi1, hz0, hz1, hz2⟩ := info_parts info_u8
  have hmay := may_calls l.length (by omega) A2 c2 x w h1 hx
  rw [hm] at hmay
  obtain ⟨al, hal⟩ : ∃ al, al = ap l 0 x := ⟨_, rfl⟩
  have hall : al.length ≤ 1000000 := by
    have := ap_len l x 0
    have h3 : l.length * (x.length + 1) ≤ 600 * 301 := Nat.mul_le_mul hl (by omega)
    rw [hal]
    omega
  rw [← hal]
  have Hal := Lib.hid hal
  have Hm := Lib.hid hm
  clear hal hm
  go_enter Try.func50, Try.ntmps50
  go_wp2_with fail
  refine hmay.mono ?_
  rintro e w1 ⟨rfl, hB1⟩
  have h2 := Rd.S_below (by decide) h1 hB1
  have hr1 := hr.below hB1
  clear hmay h1
  go_wp2
  go_loopw [6, 7, 17] (fun o a i wr => ∃ (k at' : Nat) (done : List UInt8), i = .int .i64 k ∧ a = .int .i64 at' ∧ k ≤ x.length ∧ at' ≤ l.length ∧ wr.ownsRow w1.heap.size 5 1 o done.length (bc done) ∧ Hid (done ++ ap l at' (x.drop k) = al) ∧ Hid (mayB l.length at' (x.drop k) = true) ∧ Below w1.heap.size w1 wr) (fun _ _ i _ => x.length - (intOf i).toNat)
  case atStart => exact ⟨0, 0, [], rfl, rfl, Nat.zero_le _, Nat.zero_le _, World.ownsRow_nil _ _ _ _, Lib.hid (by rw [Hal.out]; rfl), Hm, Below.refl _ _⟩
  case round =>
    obtain ⟨k, i, done, rfl, rfl, hk, hi, hown, hd, hm, hB⟩ := hrel
    have j1 : (0 : Int) ≤ (k : Int) := Int.natCast_nonneg _
    have j2 : (0 : Int) ≤ (i : Int) := Int.natCast_nonneg _
    have j3 : (i : Int) ≤ (l.length : Int) := by omega
    have hdl : done.length ≤ al.length := by rw [← hd.out]; simp
    have hBs := hB.size
    obtain ⟨A4, c4, rfl⟩ := own_form hown
    by_cases hlt : k < x.length
    · obtain ⟨ad, P1, d1, rfl, hrp, hwf, hz⟩ := ed_at h2 k hlt
      obtain ⟨y0, y1, y2⟩ := hz _ hB
      have hdr := List.drop_eq_getElem_cons hlt
      rw [hdr] at hd hm
      obtain ⟨m1, m2, m3, m4⟩ := mayB_cons hm.out
      generalize x[k] = s at *
      obtain ⟨f, n, b⟩ := s
      dsimp only at *
      obtain ⟨f, rfl⟩ : ∃ F : Nat, f = F := ⟨f.toNat, by omega⟩
      obtain ⟨n, rfl⟩ : ∃ N : Nat, n = N := ⟨n.toNat, by omega⟩
      obtain ⟨A5, c5, hcut, hrc, hbc⟩ := cut_lh (P := Try.prog) 25 5 Try.underlying25 hi1 hz1 A c l i f (by omega) (by omega) hlc
      have hd2 : ((done ++ (l.drop i).take (f - i)) ++ b) ++ ap l (f + n) (x.drop (k + 1)) = al := by
        rw [← hd.out]
        show _ = done ++ ((l.drop i).take (((f : Nat) : Int).toNat - i) ++ b ++ ap l (((f : Nat) : Int) + ((n : Nat) : Int)).toNat (x.drop (k + 1)))
        rw [show (((f : Nat) : Int)).toNat = f from rfl, show (((f : Nat) : Int) + ((n : Nat) : Int)).toNat = f + n from by omega]
        simp [List.append_assoc]
      have hl1 : (done ++ (l.drop i).take (f - i)).length ≤ 1000000 ∧ ((done ++ (l.drop i).take (f - i)) ++ b).length ≤ 1000000 := by
        have := congrArg List.length hd2
        simp only [List.length_append] at this ⊢
        omega
      have hr5 := hrc wr (hr1.below hB)
      have j4 : (0 : Int) ≤ (f : Int) := Int.natCast_nonneg _
      have j5 : (0 : Int) ≤ (n : Int) := Int.natCast_nonneg _
      have j6 : (f : Int) + (n : Int) ≤ (l.length : Int) := by omega
      have j7 : (i : Int) ≤ (f : Int) := by omega
      have j8 : (f : Int) ≤ (l.length : Int) := by omega
      have HD2 := Lib.hid hd2
      have HM4 := Lib.hid m4
      generalize hcc : (l.drop i).take (f - i) = cc at *
      clear hd hm hd2 m4 hdr hz hwf hrc hbc hcc
      obtain ⟨l1, hl1e⟩ : ∃ l1, l1 = done ++ cc := ⟨_, rfl⟩
      obtain ⟨l2, hl2e⟩ : ∃ l2, l2 = l1 ++ b := ⟨_, rfl⟩
      have hll1 : l1.length = done.length + cc.length := by rw [hl1e]; simp
      have hll2 : l2.length = l1.length + b.length := by rw [hl2e]; simp
      obtain ⟨hl1a, hl1b⟩ := hl1
      rw [← hl1e, ← hl2e] at HD2 hl1b
      rw [← hl1e] at hl1a
      have hcl : cc.length ≤ 1000000 := by omega
      have hbl : b.length ≤ 1000000 := by omega
      clear hll1 hll2
      have Hl1 := Lib.hid hl1e
      have Hl2 := Lib.hid hl2e
      have HB := Lib.hid hB
      have hbx := Blk.new wr 148 [.int .i64 (f : Int), .int .i64 (n : Int), .slice P1 b.length d1]
      have Hbx := Lib.hid hbx
      have hownx := hown.alloc (.cells #[.int .i64 (f : Int), .int .i64 (n : Int), .slice P1 b.length d1] 148)
      have hr5x := hr5.alloc (.cells #[.int .i64 (f : Int), .int .i64 (n : Int), .slice P1 b.length d1] 148)
      have hBx1 := below_new hB (.cells #[.int .i64 (f : Int), .int .i64 (n : Int), .slice P1 b.length d1] 148)
      clear hl1e hl2e hB hbx hown hr5
      obtain ⟨W0, hW0⟩ : ∃ W0, W0 = wr.alloc (.cells #[.int .i64 (f : Int), .int .i64 (n : Int), .slice P1 b.length d1] 148) := ⟨_, rfl⟩
      have HW0 := Lib.hid hW0
      clear hW0
      go_wp2_with fail
      rw [← HW0.out] at hownx hr5x Hbx hBx1 ⊢
      obtain ⟨Bx, hBx⟩ : ∃ Bx, Bx = wr.heap.size := ⟨_, rfl⟩
      rw [← hBx] at Hbx ⊢
      have x0 := Hbx.out.cell 0
      have x2 := Hbx.out.cell 2
      simp only [List.getElem?_cons_zero, List.getElem?_cons_succ] at x0 x2
      have hnb : some Bx ≠ (Value.slice A4 done.length c4).ownBlock := fun e => by
        have h1 := hownx
        rcases h1.2 with ⟨hv, _⟩ | ⟨g, cap, cur, hv, _, hh, _⟩
        · rw [hv] at e; simp [Value.ownBlock] at e
        · rw [hv] at e
          simp [Value.ownBlock] at e
          subst e
          have h2 : W0.heap[Bx]? = _ := Hbx.out
          rw [hh] at h2
          simp at h2
      have Hnb := Lib.hid hnb
      have hWs : w1.heap.size ≤ W0.heap.size := hBx1.size
      clear hnb y0 y1 y2 hBx
      have Hown := Lib.hid (fun W (hW : Below W0.heap.size W0 W) => own_below hownx hW)
      have Hr5 := Lib.hid (fun W (hW : Below W0.heap.size W0 W) => hr5x.below hW)
      have HBx1 := Lib.hid hBx1
      have Hrp := Lib.hid hrp
      have HbxD : RowKit.Hid (Blk W0.drew Bx 148 [.int .i64 (f : Int), .int .i64 (n : Int), .slice P1 b.length d1]) := Hbx.out
      have Hbase := Lib.hid (fun g e => own_base hownx g e)
      clear hownx hr5x hBx1 hrp
      go_region_law (first
        | ((refine step_app8 rfl _ _ 25 (by rfl) w1.heap.size 5 Try.underlying25 info_u8 (.slice A4 done.length c4) done (by rfl) (Hown.out _ (by first | exact Below.refl _ _ | exact (Below.refl _ _).drew)) A5 c5 cc (by rfl) (Hr5.out _ (by first | exact Below.refl _ _ | exact (Below.refl _ _).drew)) (by omega) (by first | exact hWs | (simp; omega)) ?_); intro A6 c6 w3 hown3 hgrow3; rw [← Hl1.out] at hown3 ⊢; have hX3 : Blk w3 Bx 148 [.int .i64 (f : Int), .int .i64 (n : Int), .slice P1 b.length d1] := (by first | exact Blk.kept Hbx.out hgrow3 Hnb.out | exact Blk.kept HbxD.out hgrow3 Hnb.out); have z0 := hX3.cell 0; have z1 := hX3.cell 1; have z2 := hX3.cell 2; simp only [List.getElem?_cons_zero, List.getElem?_cons_succ] at z0 z1 z2; have hB3 : Below w1.heap.size w1 w3 := (by first | exact HBx1.out.grown hgrow3 hWs Hbase.out | exact HBx1.out.drew.grown hgrow3 hWs Hbase.out); have hrp3 := Hrp.out.below hB3; have HX3 := Lib.hid hX3; clear hX3)
        | ((refine step_app8 rfl _ _ 25 (by rfl) w1.heap.size 5 Try.underlying25 info_u8 (.slice A6 l1.length c6) l1 (by rfl) (by first | exact hown3 | exact own_below hown3 ((Below.refl _ _).drew)) P1 d1 b (by rfl) (by first | exact hrp3 | exact hrp3.below ((Below.refl _ _).drew)) (by omega) (by have := hB3.size; first | omega | (simp; omega)) ?_); intro A7 c7 w4 hown4 hgrow4; rw [← Hl2.out] at hown4 ⊢))
      all_goals
        have HB4 : RowKit.Hid (Below w1.heap.size w1 w4) := Lib.hid (hB3.grown hgrow4 hB3.size (fun g e => own_base hown3 g e))
        have hne : some Bx ≠ (Value.slice A6 l1.length c6).ownBlock := fun e => by
          rcases hown3.2 with ⟨hv, _⟩ | ⟨g, cap, cur, hv, _, hh, _⟩
          · rw [hv] at e; simp [Value.ownBlock] at e
          · rw [hv] at e
            simp [Value.ownBlock] at e
            subst e
            have h2 : w3.heap[Bx]? = _ := HX3.out
            rw [hh] at h2
            simp at h2
        have hX4 := Blk.kept HX3.out hgrow4 hne
        have v0 := hX4.cell 0
        have v1 := hX4.cell 1
        simp only [List.getElem?_cons_zero, List.getElem?_cons_succ] at v0 v1
        clear hne hX4 z0 z1 z2 x0 x2 hgrow3 hgrow4 hB3 hrp3 hown3 HX3
        go_wp2
        go_roundw
        case rel => exact ⟨k + 1, f + n, l2, by go_num, by go_num, by omega, by omega, hown4, HD2, Lib.hid (by rw [show ((f + n : Nat) : Int) = (f : Int) + (n : Int) from by omega]; exact HM4.out), HB4.out⟩
        case measure => simp [intOf]; omega
    · have hkx : x.drop k = [] := List.drop_eq_nil_of_le (by omega)
      rw [hkx] at hd
      obtain ⟨A5, c5, hcut, hrc, hbc⟩ := cut_l (P := Try.prog) 25 5 Try.underlying25 hi1 hz1 A c l i hi hlc
      have hr5 := hrc wr (hr1.below hB)
      have hd2 : al = done ++ l.drop i := hd.out.symm
      have hdl2 : (l.drop i).length ≤ 600 := by simp; omega
      generalize l.drop i = dl at *
      have Hd2 := Lib.hid hd2
      have HB := Lib.hid hB
      clear hd hd2 hm hrc hbc hB
      go_wp2_with (at_builtin; go_loud (refine wpList_app8 rfl _ _ 25 rfl w1.heap.size 5 Try.underlying25 info_u8 _ done rfl hown A5 c5 dl rfl hr5 (by omega) hBs ?_); intro A6 c6 w3 hown3 hgrow; rw [← Hd2.out] at hown3 ⊢)
      have hr3 := own_RB hown3 (by omega)
      have HB3 := HB.out.grown hgrow hBs (fun g e => own_base hown g e)
      go_ret2
      exact ⟨A6, c6, rfl, hr3, below_chain hB1 HB3⟩
end Go.Proofs.Ytepnillddlemaaa
