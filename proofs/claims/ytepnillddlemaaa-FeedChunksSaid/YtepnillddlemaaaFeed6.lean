/- Package feed: parts, to the end. Conditions stand in each theorem. Package feed: parts, not to the end. Conditions stand in each theorem. -/
import Derived.Test.YtepnillddlemaaaFind2
import Derived.Test.YtepnillddlemaaaFeed4
set_option linter.unusedVariables false
set_option linter.unusedSimpArgs false
namespace Go.Proofs.Ytepnillddlemaaa
open Go.RowKit Go.Shelf TG TG.Crc
attribute [local go_sem] Oper.semAt_some

set_option maxRecDepth 100000 in
set_option maxHeartbeats 2000000 in
theorem partsN_calls (w : World) (Bf base : Nat) (A : Option Addr) (c : Nat) (l : List UInt8) (P0 sk0 : Nat) (cl : Bool) (hb : Fd w Bf (.slice A (l.drop P0).length c) P0 sk0 cl)
    (ho : w.ownsRow base 5 1 (.slice A (l.drop P0).length c) (l.drop P0).length (bc (l.drop P0))) (hP0 : P0 ≤ l.length) (hs0 : sk0 ≤ P0) (hl : l.length ≤ 100000) :
    Calls Try.prog 89 #[.pointer (some ⟨Bf, 0, none⟩), .bool true] w fun e w' => ∃ A2 c2 A3 c3, e = .returned (.slice A2 (pM true l P0 sk0).1.length c2) ∧
      PI w Bf (.slice A (l.drop P0).length c) cl l w' A2 c2 (pM true l P0 sk0).1 A3 c3 (pM true l P0 sk0).2.1 (pM true l P0 sk0).2.2 := by
  have hI : PI w Bf (.slice A (l.drop P0).length c) cl l w none 0 [] A c P0 sk0 := ⟨Rd.Own.nil _ _ _ _ _, (fun b k => by simp [Value.ownBlock] at k), hb, own_dig ho (Nat.zero_le _), (fun g e => .inl (.inr e)), But.refl _ _, hs0, hP0⟩
  generalize hv0 : Value.slice A (l.drop P0).length c = v0 at *
  have HI := Lib.hid hI
  clear hI hb ho
  go_enter Try.func89, Try.ntmps89
  go_wp2_with fail
  go_loopw [5] (fun vo wr => ∃ (done : List Sg) (A2 : Option Addr) (c2 : Nat) (A3 : Option Addr) (c3 P sk : Nat), vo = .slice A2 done.length c2 ∧ done.length ≤ P ∧ Hid (PI w Bf v0 cl l wr A2 c2 done A3 c3 P sk) ∧ Hid (done ++ (pM true l P sk).1 = (pM true l P0 sk0).1 ∧ (pM true l P sk).2 = (pM true l P0 sk0).2)) (fun _ wr => l.length - (((wr.cell? ⟨Bf, 1, none⟩).map intOf).getD 0).toNat)
  case atStart => exact ⟨[], none, 0, A, c, P0, sk0, rfl, Nat.zero_le _, HI, ⟨rfl, rfl⟩⟩
  case round =>
    obtain ⟨done, A2, c2, A3, c3, P, sk, rfl, hdP, HP, Hps⟩ := hrel
    have hP1 := HP.out.lt
    have hsP := HP.out.le
    have hdl : (l.drop P).length = l.length - P := List.length_drop
    have hr3 := own_RB HP.out.row (by omega)
    have hnx := next_calls A3 c3 (l.drop P) 0 (by decide) wr hr3 (by omega)
    have hla := look_drop true l P hP1
    have hlook : nxt (l.drop P) (0 : Int).toNat = lookF true (l.drop P) 0 := rfl
    rw [hlook] at hnx
    have hge := look_ge true l P
    have hle := look_le true l P hP1
    have x0 := HP.out.fd.cell 0
    simp only [List.getElem?_cons_zero, List.getElem?_cons_succ] at x0
    have hmu : ((wr.cell? ⟨Bf, 1, none⟩).map intOf).getD 0 = (P : Int) := by
      have := HP.out.fd.cell 1
      simp only [List.getElem?_cons_zero, List.getElem?_cons_succ] at this
      rw [this]
      rfl
    have Hmu := Lib.hid hmu
    clear hmu
    generalize ha : lookF true (l.drop P) 0 = a at *
    generalize hb : lookF true l P = b at *
    have hba : P + a = b := by omega
    have hdl1 : (l.drop P).length + P ≤ l.length := by omega
    have hdl2 : l.length ≤ (l.drop P).length + P := by omega
    have hdd : (l.drop P).drop a = l.drop b := by rw [List.drop_drop, hba]
    have hE0 := frm_room l b
    have Hb := Lib.hid hb
    -- what drop does, wherever it is called
    have hdrop : ∀ w1, Below wr.heap.size wr w1 → Calls Try.prog 134 #[.pointer (some ⟨Bf, 0, none⟩), .int .i64 a] w1 fun r w' => (∃ v, r = .returned v) ∧ ∃ A4 c4, PI w Bf v0 cl l w' A2 c2 done A4 c4 b sk := fun w1 hB1 => by
      have h1 := HP.out.below hB1
      refine (drop_calls w1 Bf 0 A3 c3 (l.drop P) P sk a cl h1.fd h1.row (by omega) (by omega) (by omega)).mono ?_
      rintro e w2 ⟨k1, A4, c4, k2, k3, k4⟩
      rw [hdd, hba] at k2
      rw [hdd] at k3
      exact ⟨k1, A4, c4, h1.dropped k2 k3 k4 (by omega) hle⟩
    have hat : ∀ w2 A4 c4, PI w Bf v0 cl l w2 A2 c2 done A4 c4 b sk → Calls Try.prog 100 #[.slice A4 (l.drop b).length c4, .int .i64 0] w2 (RG w2 (l.drop b)) := fun w2 A4 c4 h => by
      have := at_calls A4 c4 (l.drop b) 0 (Nat.zero_le _) w2 (own_RB h.row (by rw [List.length_drop]; omega)) (by rw [List.length_drop]; omega)
      rwa [List.drop_zero] at this
    have Hdrop := Lib.hid hdrop
    have Hat := Lib.hid hat
    have Hnx := Lib.hid hnx
    clear hnx hr3 hlook hla hdrop hat hdd hb hdl
    generalize hh : l.drop P = h at *
    by_cases hlt : a < h.length
    · rw [show nv h a = a from if_pos hlt, show decide (a < h.length) = true from by simp [hlt]] at Hnx
      have j1 : (0 : Int) ≤ (a : Int) := Int.natCast_nonneg _
      have hbl : b < l.length := by omega
      clear ha hh
      go_wp2_with fail
      refine Hnx.out.mono ?_
      rintro e w1 ⟨rfl, hB1⟩
      clear Hnx x0
      have hdr := Hdrop.out w1 hB1
      clear hB1 Hdrop
      go_wp2_with fail
      refine hdr.mono ?_
      rintro e w2 ⟨⟨v2, rfl⟩, A4, c4, hP2⟩
      have hat := Hat.out w2 A4 c4 hP2
      have x0 := hP2.fd.cell 0
      simp only [List.getElem?_cons_zero, List.getElem?_cons_succ] at x0
      have HP2 := Lib.hid hP2
      clear hdr hP2 Hat HP
      generalize hh : l.drop b = hb at *
      go_wp2_with fail
      refine hat.mono ?_
      rintro e w3 ⟨A5, c5, rfl, hr5, hA5, hB3⟩
      subst hh
      clear hat x0
      have hgS : ((gS (l.drop b) : Nat) : Int) = ((gS (l.drop b) : Nat) : Int) := rfl
      by_cases hE : wE l b = 0
      · obtain ⟨e1, e2, e3⟩ := g_some (l := l.drop b) hE
        have hfe : fgE (l.drop b) = 0 := hE
        rw [e1, e2, e3, hfe]
        rw [e2] at hr5
        have hnx := pM_next true l P sk b _ Hb.out hbl hE rfl
        have hroom := (frm_room l b hE).1
        have hF : frm l b = ⟨b, fgB (l.drop b) + 4, true, fgK (l.drop b), fgP (l.drop b)⟩ := rfl
        rw [hF] at hnx
        have hn9 := (fg_room (l.drop b) hE).1
        have hdrop2 : ∀ W A' c' done' A3' c3', PI w Bf v0 cl l W A' c' done' A3' c3' b sk → Calls Try.prog 134 #[.pointer (some ⟨Bf, 0, none⟩), .int .i64 ((fgB (l.drop b) + 4 : Nat) : Int)] W fun r w' => (∃ v, r = .returned v) ∧ ∃ A8 c8, PI w Bf v0 cl l w' A' c' done' A8 c8 (b + (fgB (l.drop b) + 4)) sk := fun W A' c' done' A3' c3' h1 => by
          have h2 : (l.drop b).drop (fgB (l.drop b) + 4) = l.drop (b + (fgB (l.drop b) + 4)) := List.drop_drop
          have h3 : (l.drop b).length = l.length - b := List.length_drop
          refine (drop_calls W Bf 0 A3' c3' (l.drop b) b sk (fgB (l.drop b) + 4) cl h1.fd h1.row (by omega) (by omega) (by omega)).mono ?_
          rintro e w2 ⟨k1, A4, c4, k2, k3, k4⟩
          rw [h2] at k2 k3
          exact ⟨k1, A4, c4, h1.dropped k2 k3 k4 (by omega) hroom⟩
        generalize fgB (l.drop b) + 4 = n at *
        generalize fgK (l.drop b) = K at *
        generalize fgP (l.drop b) = p at *
        obtain ⟨W4, hW4⟩ : ∃ W4, W4 = w3.alloc (.cells #[.int .i64 (K : Int), .slice A5 p.length c5] 29) := ⟨_, rfl⟩
        have hP4 : PI w Bf v0 cl l W4 A2 c2 done A4 c4 b sk := by rw [hW4]; exact HP2.out.below (below_new hB3 _)
        have hr4 : RB W4 A5 c5 p := by rw [hW4]; exact hr5.alloc _
        have hbx : Blk W4 w3.heap.size 29 [.int .i64 (K : Int), .slice A5 p.length c5] := by rw [hW4]; exact Blk.new w3 _ _
        have hs4 : W4.heap.size = w3.heap.size + 1 := by rw [hW4]; simp
        have hs23 := hB3.size
        have hs34 : w3.heap.size ≤ W4.heap.size := by omega
        have hvo2 : ∀ x, (Value.slice A2 done.length c2).ownBlock = some x → x < w2.heap.size := fun x e => HP2.out.own.lt e
        have hXF2 : ∀ x, XG w Bf (.slice A4 (l.drop b).length c4) x → x < w2.heap.size := fun x k => k.elim (fun k => k.elim (fun e => e ▸ HP2.out.fd.lt) (fun e => (HP2.out.row.lt x e).2)) (fun k => Nat.lt_of_lt_of_le k HP2.out.size)
        have hPY : ∀ x, PY A5 p x → w2.heap.size ≤ x ∧ x < W4.heap.size := fun x k => ⟨by obtain ⟨_, ad, k1, rfl⟩ := k; exact hA5 ad k1, PY.lt hr4 k⟩
        have hdl3 : done.length + 2 ≤ b + n := by omega
        obtain ⟨d1, hd1⟩ : ∃ d1, d1 = done ++ tl sk b := ⟨_, rfl⟩
        have hd1l : d1.length ≤ done.length + 1 := by rw [hd1, List.length_append]; have := tl_len sk b; omega
        have hT : ∀ W, Below W4.heap.size W4 W → Calls Try.prog 90 #[.pointer (some ⟨Bf, 0, none⟩), .slice A2 done.length c2] W fun e w' => ∃ A6 c6, e = .returned (.slice A6 d1.length c6) ∧
            Rd.seg.Own (XG w Bf (.slice A4 (l.drop b).length c4)) w' w.heap.size 31 (.slice A6 d1.length c6) d1 ∧ But (fun x => (Value.slice A2 done.length c2).ownBlock = some x) W w' ∧ (∀ g, (Value.slice A6 d1.length c6).ownBlock = some g → (Value.slice A2 done.length c2).ownBlock = some g ∨ W.heap.size ≤ g) := fun W hW => by
          have h4 := hP4.below hW
          rw [hd1]
          exact tell_calls W Bf w.heap.size _ A2 c2 done b sk cl _ h4.fd h4.own (fun x k => by have := hXF2 x k; have := hW.size; omega) h4.le (by omega) (by omega) h4.size
        have hkeep : ∀ X, But (fun x => (Value.slice A2 done.length c2).ownBlock = some x) W4 X → X.cell? ⟨Bf, 1, none⟩ = some (.int .i64 (b : Int)) ∧ X.cell? ⟨w3.heap.size, 0, none⟩ = some (.int .i64 (K : Int)) ∧ X.cell? ⟨w3.heap.size, 1, none⟩ = some (.slice A5 p.length c5) := fun X hX => by
          have k1 := hX.blk hP4.fd (fun e => hP4.far Bf e (.inl rfl))
          have k2 := hX.blk hbx (fun e => by have := hvo2 _ e; omega)
          exact ⟨k1.cell 1, k2.cell 0, k2.cell 1⟩
        have hRB : ∀ X, But (fun x => (Value.slice A2 done.length c2).ownBlock = some x) W4 X → RB X A5 c5 p := fun X hX => hX.RB hr4 (fun ad he k => by have := hvo2 _ k; have := hA5 ad he; omega)
        obtain ⟨d2, hd2⟩ : ∃ d2, d2 = d1 ++ [(⟨b, n, true, K, p⟩ : Sg)] := ⟨_, rfl⟩
        have hd2l : d2.length ≤ done.length + 2 := by rw [hd2, List.length_append]; simp; omega
        have hs0 := HP2.out.size
        have hhF : ∀ (vt : Value), (∀ g, vt.ownBlock = some g → (Value.slice A2 done.length c2).ownBlock = some g ∨ W4.heap.size ≤ g) → ∀ x, ((W4.heap.size ≤ x ∧ vt.ownBlock ≠ some x) ∨ PY A5 p x) → ¬ XG w Bf (.slice A4 (l.drop b).length c4) x ∧ vt.ownBlock ≠ some x := fun vt hvt x hx => by
          rcases hx with ⟨k1, k2⟩ | k
          · exact ⟨fun k3 => by have := hXF2 x k3; omega, k2⟩
          · obtain ⟨k1, k2⟩ := hPY x k
            refine ⟨fun k3 => by have := hXF2 x k3; omega, fun e => ?_⟩
            rcases hvt x e with k3 | k3
            · have := hvo2 x k3; omega
            · omega
        have hnB : ∀ (vt : Value), (∀ g, vt.ownBlock = some g → (Value.slice A2 done.length c2).ownBlock = some g ∨ W4.heap.size ≤ g) → ∀ x, vt.ownBlock = some x → (Value.slice A2 done.length c2).ownBlock = some x ∨ W4.heap.size ≤ x := fun vt hvt x e => hvt x e
        have HTS := Lib.hid (fun (W : World) (g : Nat) (vt : Value) (hg : W.heap[g]? = some (.cells #[.int .i64 (b : Int), .int .i64 (n : Int), .bool true, .int .i64 (K : Int), .slice A5 p.length c5] 31 (0, 0))) (h1 : W4.heap.size ≤ g) (h2 : vt.ownBlock ≠ some g) (hr : RB W A5 c5 p) => told_S (s := ⟨b, n, true, K, p⟩) (A := A5) (c := c5) (w1 := W4) hg h1 h2 hr)
        have HhF := Lib.hid hhF
        have HnB := Lib.hid hnB
        clear hhF hnB
        have Hd2 := Lib.hid hd2
        have Hd1 := Lib.hid hd1
        have HT := Lib.hid hT
        have HK := Lib.hid hkeep
        have HRB := Lib.hid hRB
        have HPY := Lib.hid hPY
        have HX2 := Lib.hid hXF2
        have Hvo2 := Lib.hid hvo2
        have HP4 := Lib.hid hP4
        have Hdrop2 := Lib.hid hdrop2
        have Hnx2 := Lib.hid hnx
        have HW4 := Lib.hid hW4
        have j2 : (b : Int) + (n : Int) ≤ (l.length : Int) := by omega
        clear hd2 hd1 hT hkeep hRB hPY hXF2 hvo2 hP4 hdrop2 hnx hW4 hr5 hr4 hbx hB3 hA5 e1 e2 e3 hfe hF hE0 HP2 hs4
        go_wp2_with fail
        rw [← HW4.out]
        go_region_held3 (fun X => But (fun x => (Value.slice A2 done.length c2).ownBlock = some x) W4 X ∧ X.cell? ⟨Bf, 1, none⟩ = some (.int .i64 (b : Int)) ∧ X.cell? ⟨w3.heap.size, 0, none⟩ = some (.int .i64 (K : Int)) ∧ X.cell? ⟨w3.heap.size, 1, none⟩ = some (.slice A5 p.length c5))
          (first
            | (refine (fun hb' => ⟨hb', HK.out _ hb'⟩ : But (fun x => (Value.slice A2 done.length c2).ownBlock = some x) W4 _ → _) ?_; first | assumption | exact And.left (by assumption) | exact But.of_below ((Below.refl _ _).drew) _ | exact But.trans (by first | assumption | exact And.left (by assumption) | exact But.of_below ((Below.refl _ _).drew) _) (But.of_below (below_new (Below.refl _ _) _) _) (fun _ k => k) (fun _ k => .inl k)))
          (first
            | (go_at_call 90; (with_reducible refine (HT.out _ (by first | exact (Below.refl _ _).drew | exact below_new ((Below.refl _ _).drew) _ | exact (below_new (Below.refl _ _) _).drew | exact below_new (Below.refl _ _) _)).mono ?_); rintro e w5 ⟨A6, c6, rfl, hown5, hbut5, hnew5w⟩; have hnew5 : ∀ g, (Value.slice A6 d1.length c6).ownBlock = some g → (Value.slice A2 done.length c2).ownBlock = some g ∨ W4.heap.size ≤ g := (fun g e => (hnew5w g e).imp id (fun k => Nat.le_trans (by simp) k)); have hB5 : But (fun x => (Value.slice A2 done.length c2).ownBlock = some x) W4 w5 := But.trans (by first | assumption | exact And.left (by assumption) | exact But.of_below ((Below.refl _ _).drew) _) hbut5 (fun _ k => k) (fun _ k => .inl k))
            | ((refine step_appS Rd.cb_seg rfl _ _ 26 (by rfl) (XG w Bf (.slice A4 (l.drop b).length c4)) w.heap.size 31 56 seg_type (.slice A6 d1.length c6) d1 (by rfl) (hown5.alloc _) (some ⟨w5.heap.size, 0, none⟩) 1 1 (fun x => (W4.heap.size ≤ x ∧ (Value.slice A6 d1.length c6).ownBlock ≠ some x) ∨ PY A5 p x) [(⟨b, n, true, K, p⟩ : Sg)] rfl (by rfl) (HTS.out _ _ _ (World.alloc_heap_new w5 _) hB5.size (fun k => by have := hown5.lt k; omega) ((HRB.out w5 hB5).alloc _)) (fun x hx _ => HhF.out _ hnew5 x hx) (by simp; omega) (by simp; omega) (by have := hB5.size; simp; omega) ?_); intro A7 c7 w7 hown7 hgrow7 hnew7; rw [← Hd2.out] at hown7 hnew7 ⊢; have hB7 : But (fun x => (Value.slice A2 done.length c2).ownBlock = some x) W4 w7 := But.trans (But.trans hB5 (But.of_below (below_new (Below.refl _ _) _) _) (fun _ k => k) (fun _ k => .inl k)) (But.of_grown hgrow7 (fun x => (Value.slice A6 d1.length c6).ownBlock = some x) (fun r e => e)) (fun _ k => k) (fun x k => HnB.out _ hnew5 x k))
            | ((refine step_appS Rd.cb_seg rfl _ _ 26 (by rfl) (XG w Bf (.slice A4 (l.drop b).length c4)) w.heap.size 31 56 seg_type (.slice A6 d1.length c6) d1 (by rfl) hown5 (some ⟨W4.heap.size, 0, none⟩) 1 1 (fun x => (W4.heap.size ≤ x ∧ (Value.slice A6 d1.length c6).ownBlock ≠ some x) ∨ PY A5 p x) [(⟨b, n, true, K, p⟩ : Sg)] rfl (by rfl) (HTS.out _ _ _ ((hbut5.block W4.heap.size (by show W4.heap.size < (W4.alloc _).heap.size; simp) (fun k => by have := Hvo2.out _ k; omega)).trans (by first | exact World.alloc_heap_new W4 _ | exact World.alloc_heap_new W4.drew _)) (Nat.le_refl _) (fun k => (hnew5w _ k).elim (fun k2 => by have := Hvo2.out _ k2; omega) (fun k2 => absurd k2 (by show ¬ (W4.alloc _).heap.size ≤ W4.heap.size; simp))) (HRB.out w5 hB5)) (fun x hx _ => HhF.out _ hnew5 x hx) (by simp; omega) (by simp; omega) (by have := hB5.size; omega) ?_); intro A7 c7 w7 hown7 hgrow7 hnew7; rw [← Hd2.out] at hown7 hnew7 ⊢; have hB7 : But (fun x => (Value.slice A2 done.length c2).ownBlock = some x) W4 w7 := But.trans hB5 (But.of_grown hgrow7 (fun x => (Value.slice A6 d1.length c6).ownBlock = some x) (fun r e => e)) (fun _ k => k) (fun x k => HnB.out _ hnew5 x k)))
        all_goals
          have hP7 := HP4.out.told hown7 hB7 (fun g e => (hnew7 g e).elim (fun k => hnew5 g k) (fun k => .inr (Nat.le_trans hB5.size (Nat.le_trans (by first | exact Nat.le_refl _ | (simp; done)) k))))
          have hdr := Hdrop2.out _ _ _ _ _ _ hP7
          clear hown7 hB7 hnew7 hgrow7 hown5 hbut5 hnew5 hnew5w hB5 HTS HhF HnB HT HK HRB HPY HX2 Hvo2 HP4 Hdrop2 HW4 hP7
          go_wp2_with fail
          refine hdr.mono ?_
          rintro e w8 ⟨⟨v8, rfl⟩, A8, c8, hP8⟩
          have x1 := hP8.fd.cell 1
          have x2 := hP8.fd.cell 2
          have x3 := hP8.fd.frozen 2
          simp only [List.getElem?_cons_zero, List.getElem?_cons_succ] at x1 x2
          have HP8 := Lib.hid hP8
          clear hdr hP8
          generalize hbn : b + n = bn at *
          go_wp2
          have hps := Hps.out
          have hnx := Hnx2.out
          refine ⟨⟨d2, A7, c7, A8, c8, bn, bn, rfl, by omega, HP8.out.skip, ?_⟩, ?measure⟩
          · show _ ∧ _
            rw [hnx] at hps
            rw [Hd2.out, Hd1.out]
            refine ⟨?_, hps.2⟩
            rw [← hps.1]
            simp
          case measure =>
            have h1 := HP8.out.skip.fd.cell 1
            simp only [List.getElem?_cons_zero, List.getElem?_cons_succ] at h1
            rw [h1, Hmu.out]
            simp [intOf]
            omega
      · have hfe : fgE (l.drop b) = wE l b := rfl
        rw [hfe]
        have hstop := pM_stop true l P sk (by rw [Hb.out]; exact fun k => hE k.2)
        rw [Hb.out] at hstop
        have HB4 := Lib.hid (below_new hB3 (.cells #[.int .i64 (gK (l.drop b) : Int), .slice A5 (gP (l.drop b)).length c5] 29))
        have j5 : ¬ (wE l b : Int) = 0 := by omega
        have j6 : ((wE l b : Int) == 0) = false := by simp; omega
        generalize wE l b = E at *
        generalize gK (l.drop b) = K at *
        generalize gP (l.drop b) = p at *
        generalize gS (l.drop b) = G at *
        clear hr5 hA5 hB3
        go_wp2
        go_ret
        have hps := Hps.out
        rw [hstop] at hps
        dsimp only at hps
        rw [← hps.1, ← hps.2, List.append_nil]
        exact ⟨A2, c2, A4, c4, rfl, HP2.out.below HB4.out⟩
    · rw [show nv h a = 0 from if_neg hlt, show decide (a < h.length) = false from by simp [hlt]] at Hnx
      have hah : a = h.length := by omega
      have Hh := Lib.hid hh
      clear ha hh
      go_wp2_with fail
      refine Hnx.out.mono ?_
      rintro e w1 ⟨rfl, hB1⟩
      have x0 := (HP.out.fd.below hB1).cell 0
      simp only [List.getElem?_cons_zero, List.getElem?_cons_succ] at x0
      rw [Hh.out] at x0
      clear Hnx
      have hdr := Hdrop.out w1 hB1
      rw [hah] at hdr
      clear hB1 Hdrop
      go_wp2_with fail
      refine hdr.mono ?_
      rintro e w2 ⟨⟨v2, rfl⟩, A4, c4, hP2⟩
      have hat := Hat.out w2 A4 c4 hP2
      have x0 := hP2.fd.cell 0
      simp only [List.getElem?_cons_zero, List.getElem?_cons_succ] at x0
      have HP2 := Lib.hid hP2
      clear hdr hP2 Hat HP
      generalize hh : l.drop b = hb at *
      go_wp2_with fail
      refine hat.mono ?_
      rintro e w3 ⟨A5, c5, rfl, hr5, hA5, hB3⟩
      subst hh
      clear hat x0
      have hstop := pM_stop true l P sk (by rw [Hb.out]; exact fun k => by omega)
      rw [Hb.out] at hstop
      have HB4 := Lib.hid (below_new hB3 (.cells #[.int .i64 (gK (l.drop b) : Int), .slice A5 (gP (l.drop b)).length c5] 29))
      generalize fgE (l.drop b) = E at *
      generalize gK (l.drop b) = K at *
      generalize gP (l.drop b) = p at *
      generalize gS (l.drop b) = G at *
      clear hr5 hA5 hB3
      go_wp2
      go_ret
      have hps := Hps.out
      rw [hstop] at hps
      dsimp only at hps
      rw [← hps.1, ← hps.2, List.append_nil]
      exact ⟨A2, c2, A4, c4, rfl, HP2.out.below HB4.out⟩
end Go.Proofs.Ytepnillddlemaaa
namespace Go.Proofs.Ytepnillddlemaaa
open Go.RowKit Go.Shelf TG TG.Crc
attribute [local go_sem] Oper.semAt_some

set_option maxRecDepth 100000 in
set_option maxHeartbeats 2000000 in
theorem partsO_calls (w : World) (Bf base : Nat) (A : Option Addr) (c : Nat) (l : List UInt8) (P0 sk0 : Nat) (cl : Bool) (hb : Fd w Bf (.slice A (l.drop P0).length c) P0 sk0 cl)
    (ho : w.ownsRow base 5 1 (.slice A (l.drop P0).length c) (l.drop P0).length (bc (l.drop P0))) (hP0 : P0 ≤ l.length) (hs0 : sk0 ≤ P0) (hl : l.length ≤ 100000) :
    Calls Try.prog 89 #[.pointer (some ⟨Bf, 0, none⟩), .bool false] w fun e w' => ∃ A2 c2 A3 c3, e = .returned (.slice A2 (pM false l P0 sk0).1.length c2) ∧
      PI w Bf (.slice A (l.drop P0).length c) cl l w' A2 c2 (pM false l P0 sk0).1 A3 c3 (pM false l P0 sk0).2.1 (pM false l P0 sk0).2.2 := by
  have hI : PI w Bf (.slice A (l.drop P0).length c) cl l w none 0 [] A c P0 sk0 := ⟨Rd.Own.nil _ _ _ _ _, (fun b k => by simp [Value.ownBlock] at k), hb, own_dig ho (Nat.zero_le _), (fun g e => .inl (.inr e)), But.refl _ _, hs0, hP0⟩
  generalize hv0 : Value.slice A (l.drop P0).length c = v0 at *
  have HI := Lib.hid hI
  clear hI hb ho
  go_enter Try.func89, Try.ntmps89
  go_wp2_with fail
  go_loopw [5] (fun vo wr => ∃ (done : List Sg) (A2 : Option Addr) (c2 : Nat) (A3 : Option Addr) (c3 P sk : Nat), vo = .slice A2 done.length c2 ∧ done.length ≤ P ∧ Hid (PI w Bf v0 cl l wr A2 c2 done A3 c3 P sk) ∧ Hid (done ++ (pM false l P sk).1 = (pM false l P0 sk0).1 ∧ (pM false l P sk).2 = (pM false l P0 sk0).2)) (fun _ wr => l.length - (((wr.cell? ⟨Bf, 1, none⟩).map intOf).getD 0).toNat)
  case atStart => exact ⟨[], none, 0, A, c, P0, sk0, rfl, Nat.zero_le _, HI, ⟨rfl, rfl⟩⟩
  case round =>
    obtain ⟨done, A2, c2, A3, c3, P, sk, rfl, hdP, HP, Hps⟩ := hrel
    have hP1 := HP.out.lt
    have hsP := HP.out.le
    have hdl : (l.drop P).length = l.length - P := List.length_drop
    have hr3 := own_RB HP.out.row (by omega)
    have hnx := open_calls A3 c3 (l.drop P) 0 (by decide) wr hr3 (by omega)
    have hla := look_drop false l P hP1
    have hlook : opn (l.drop P) (0 : Int).toNat = lookF false (l.drop P) 0 := rfl
    rw [hlook] at hnx
    have hge := look_ge false l P
    have hle := look_le false l P hP1
    have x0 := HP.out.fd.cell 0
    simp only [List.getElem?_cons_zero, List.getElem?_cons_succ] at x0
    have hmu : ((wr.cell? ⟨Bf, 1, none⟩).map intOf).getD 0 = (P : Int) := by
      have := HP.out.fd.cell 1
      simp only [List.getElem?_cons_zero, List.getElem?_cons_succ] at this
      rw [this]
      rfl
    have Hmu := Lib.hid hmu
    clear hmu
    generalize ha : lookF false (l.drop P) 0 = a at *
    generalize hb : lookF false l P = b at *
    have hba : P + a = b := by omega
    have hdl1 : (l.drop P).length + P ≤ l.length := by omega
    have hdl2 : l.length ≤ (l.drop P).length + P := by omega
    have hdd : (l.drop P).drop a = l.drop b := by rw [List.drop_drop, hba]
    have hE0 := frm_room l b
    have Hb := Lib.hid hb
    -- what drop does, wherever it is called
    have hdrop : ∀ w1, Below wr.heap.size wr w1 → Calls Try.prog 134 #[.pointer (some ⟨Bf, 0, none⟩), .int .i64 a] w1 fun r w' => (∃ v, r = .returned v) ∧ ∃ A4 c4, PI w Bf v0 cl l w' A2 c2 done A4 c4 b sk := fun w1 hB1 => by
      have h1 := HP.out.below hB1
      refine (drop_calls w1 Bf 0 A3 c3 (l.drop P) P sk a cl h1.fd h1.row (by omega) (by omega) (by omega)).mono ?_
      rintro e w2 ⟨k1, A4, c4, k2, k3, k4⟩
      rw [hdd, hba] at k2
      rw [hdd] at k3
      exact ⟨k1, A4, c4, h1.dropped k2 k3 k4 (by omega) hle⟩
    have hat : ∀ w2 A4 c4, PI w Bf v0 cl l w2 A2 c2 done A4 c4 b sk → Calls Try.prog 100 #[.slice A4 (l.drop b).length c4, .int .i64 0] w2 (RG w2 (l.drop b)) := fun w2 A4 c4 h => by
      have := at_calls A4 c4 (l.drop b) 0 (Nat.zero_le _) w2 (own_RB h.row (by rw [List.length_drop]; omega)) (by rw [List.length_drop]; omega)
      rwa [List.drop_zero] at this
    have Hdrop := Lib.hid hdrop
    have Hat := Lib.hid hat
    have Hnx := Lib.hid hnx
    clear hnx hr3 hlook hla hdrop hat hdd hb hdl
    generalize hh : l.drop P = h at *
    by_cases hlt : a < h.length
    · rw [show nv h a = a from if_pos hlt, show decide (a < h.length) = true from by simp [hlt]] at Hnx
      have j1 : (0 : Int) ≤ (a : Int) := Int.natCast_nonneg _
      have hbl : b < l.length := by omega
      clear ha hh
      go_wp2_with fail
      refine Hnx.out.mono ?_
      rintro e w1 ⟨rfl, hB1⟩
      clear Hnx x0
      have hdr := Hdrop.out w1 hB1
      clear hB1 Hdrop
      go_wp2_with fail
      refine hdr.mono ?_
      rintro e w2 ⟨⟨v2, rfl⟩, A4, c4, hP2⟩
      have hat := Hat.out w2 A4 c4 hP2
      have x0 := hP2.fd.cell 0
      simp only [List.getElem?_cons_zero, List.getElem?_cons_succ] at x0
      have HP2 := Lib.hid hP2
      clear hdr hP2 Hat HP
      generalize hh : l.drop b = hb at *
      go_wp2_with fail
      refine hat.mono ?_
      rintro e w3 ⟨A5, c5, rfl, hr5, hA5, hB3⟩
      subst hh
      clear hat x0
      have hgS : ((gS (l.drop b) : Nat) : Int) = ((gS (l.drop b) : Nat) : Int) := rfl
      by_cases hE : wE l b = 0
      · obtain ⟨e1, e2, e3⟩ := g_some (l := l.drop b) hE
        have hfe : fgE (l.drop b) = 0 := hE
        rw [e1, e2, e3, hfe]
        rw [e2] at hr5
        have hnx := pM_next false l P sk b _ Hb.out hbl hE rfl
        have hroom := (frm_room l b hE).1
        have hF : frm l b = ⟨b, fgB (l.drop b) + 4, true, fgK (l.drop b), fgP (l.drop b)⟩ := rfl
        rw [hF] at hnx
        have hn9 := (fg_room (l.drop b) hE).1
        have hdrop2 : ∀ W A' c' done' A3' c3', PI w Bf v0 cl l W A' c' done' A3' c3' b sk → Calls Try.prog 134 #[.pointer (some ⟨Bf, 0, none⟩), .int .i64 ((fgB (l.drop b) + 4 : Nat) : Int)] W fun r w' => (∃ v, r = .returned v) ∧ ∃ A8 c8, PI w Bf v0 cl l w' A' c' done' A8 c8 (b + (fgB (l.drop b) + 4)) sk := fun W A' c' done' A3' c3' h1 => by
          have h2 : (l.drop b).drop (fgB (l.drop b) + 4) = l.drop (b + (fgB (l.drop b) + 4)) := List.drop_drop
          have h3 : (l.drop b).length = l.length - b := List.length_drop
          refine (drop_calls W Bf 0 A3' c3' (l.drop b) b sk (fgB (l.drop b) + 4) cl h1.fd h1.row (by omega) (by omega) (by omega)).mono ?_
          rintro e w2 ⟨k1, A4, c4, k2, k3, k4⟩
          rw [h2] at k2 k3
          exact ⟨k1, A4, c4, h1.dropped k2 k3 k4 (by omega) hroom⟩
        generalize fgB (l.drop b) + 4 = n at *
        generalize fgK (l.drop b) = K at *
        generalize fgP (l.drop b) = p at *
        obtain ⟨W4, hW4⟩ : ∃ W4, W4 = w3.alloc (.cells #[.int .i64 (K : Int), .slice A5 p.length c5] 29) := ⟨_, rfl⟩
        have hP4 : PI w Bf v0 cl l W4 A2 c2 done A4 c4 b sk := by rw [hW4]; exact HP2.out.below (below_new hB3 _)
        have hr4 : RB W4 A5 c5 p := by rw [hW4]; exact hr5.alloc _
        have hbx : Blk W4 w3.heap.size 29 [.int .i64 (K : Int), .slice A5 p.length c5] := by rw [hW4]; exact Blk.new w3 _ _
        have hs4 : W4.heap.size = w3.heap.size + 1 := by rw [hW4]; simp
        have hs23 := hB3.size
        have hs34 : w3.heap.size ≤ W4.heap.size := by omega
        have hvo2 : ∀ x, (Value.slice A2 done.length c2).ownBlock = some x → x < w2.heap.size := fun x e => HP2.out.own.lt e
        have hXF2 : ∀ x, XG w Bf (.slice A4 (l.drop b).length c4) x → x < w2.heap.size := fun x k => k.elim (fun k => k.elim (fun e => e ▸ HP2.out.fd.lt) (fun e => (HP2.out.row.lt x e).2)) (fun k => Nat.lt_of_lt_of_le k HP2.out.size)
        have hPY : ∀ x, PY A5 p x → w2.heap.size ≤ x ∧ x < W4.heap.size := fun x k => ⟨by obtain ⟨_, ad, k1, rfl⟩ := k; exact hA5 ad k1, PY.lt hr4 k⟩
        have hdl3 : done.length + 2 ≤ b + n := by omega
        obtain ⟨d1, hd1⟩ : ∃ d1, d1 = done ++ tl sk b := ⟨_, rfl⟩
        have hd1l : d1.length ≤ done.length + 1 := by rw [hd1, List.length_append]; have := tl_len sk b; omega
        have hT : ∀ W, Below W4.heap.size W4 W → Calls Try.prog 90 #[.pointer (some ⟨Bf, 0, none⟩), .slice A2 done.length c2] W fun e w' => ∃ A6 c6, e = .returned (.slice A6 d1.length c6) ∧
            Rd.seg.Own (XG w Bf (.slice A4 (l.drop b).length c4)) w' w.heap.size 31 (.slice A6 d1.length c6) d1 ∧ But (fun x => (Value.slice A2 done.length c2).ownBlock = some x) W w' ∧ (∀ g, (Value.slice A6 d1.length c6).ownBlock = some g → (Value.slice A2 done.length c2).ownBlock = some g ∨ W.heap.size ≤ g) := fun W hW => by
          have h4 := hP4.below hW
          rw [hd1]
          exact tell_calls W Bf w.heap.size _ A2 c2 done b sk cl _ h4.fd h4.own (fun x k => by have := hXF2 x k; have := hW.size; omega) h4.le (by omega) (by omega) h4.size
        have hkeep : ∀ X, But (fun x => (Value.slice A2 done.length c2).ownBlock = some x) W4 X → X.cell? ⟨Bf, 1, none⟩ = some (.int .i64 (b : Int)) ∧ X.cell? ⟨w3.heap.size, 0, none⟩ = some (.int .i64 (K : Int)) ∧ X.cell? ⟨w3.heap.size, 1, none⟩ = some (.slice A5 p.length c5) := fun X hX => by
          have k1 := hX.blk hP4.fd (fun e => hP4.far Bf e (.inl rfl))
          have k2 := hX.blk hbx (fun e => by have := hvo2 _ e; omega)
          exact ⟨k1.cell 1, k2.cell 0, k2.cell 1⟩
        have hRB : ∀ X, But (fun x => (Value.slice A2 done.length c2).ownBlock = some x) W4 X → RB X A5 c5 p := fun X hX => hX.RB hr4 (fun ad he k => by have := hvo2 _ k; have := hA5 ad he; omega)
        obtain ⟨d2, hd2⟩ : ∃ d2, d2 = d1 ++ [(⟨b, n, true, K, p⟩ : Sg)] := ⟨_, rfl⟩
        have hd2l : d2.length ≤ done.length + 2 := by rw [hd2, List.length_append]; simp; omega
        have hs0 := HP2.out.size
        have hhF : ∀ (vt : Value), (∀ g, vt.ownBlock = some g → (Value.slice A2 done.length c2).ownBlock = some g ∨ W4.heap.size ≤ g) → ∀ x, ((W4.heap.size ≤ x ∧ vt.ownBlock ≠ some x) ∨ PY A5 p x) → ¬ XG w Bf (.slice A4 (l.drop b).length c4) x ∧ vt.ownBlock ≠ some x := fun vt hvt x hx => by
          rcases hx with ⟨k1, k2⟩ | k
          · exact ⟨fun k3 => by have := hXF2 x k3; omega, k2⟩
          · obtain ⟨k1, k2⟩ := hPY x k
            refine ⟨fun k3 => by have := hXF2 x k3; omega, fun e => ?_⟩
            rcases hvt x e with k3 | k3
            · have := hvo2 x k3; omega
            · omega
        have hnB : ∀ (vt : Value), (∀ g, vt.ownBlock = some g → (Value.slice A2 done.length c2).ownBlock = some g ∨ W4.heap.size ≤ g) → ∀ x, vt.ownBlock = some x → (Value.slice A2 done.length c2).ownBlock = some x ∨ W4.heap.size ≤ x := fun vt hvt x e => hvt x e
        have HTS := Lib.hid (fun (W : World) (g : Nat) (vt : Value) (hg : W.heap[g]? = some (.cells #[.int .i64 (b : Int), .int .i64 (n : Int), .bool true, .int .i64 (K : Int), .slice A5 p.length c5] 31 (0, 0))) (h1 : W4.heap.size ≤ g) (h2 : vt.ownBlock ≠ some g) (hr : RB W A5 c5 p) => told_S (s := ⟨b, n, true, K, p⟩) (A := A5) (c := c5) (w1 := W4) hg h1 h2 hr)
        have HhF := Lib.hid hhF
        have HnB := Lib.hid hnB
        clear hhF hnB
        have Hd2 := Lib.hid hd2
        have Hd1 := Lib.hid hd1
        have HT := Lib.hid hT
        have HK := Lib.hid hkeep
        have HRB := Lib.hid hRB
        have HPY := Lib.hid hPY
        have HX2 := Lib.hid hXF2
        have Hvo2 := Lib.hid hvo2
        have HP4 := Lib.hid hP4
        have Hdrop2 := Lib.hid hdrop2
        have Hnx2 := Lib.hid hnx
        have HW4 := Lib.hid hW4
        have j2 : (b : Int) + (n : Int) ≤ (l.length : Int) := by omega
        clear hd2 hd1 hT hkeep hRB hPY hXF2 hvo2 hP4 hdrop2 hnx hW4 hr5 hr4 hbx hB3 hA5 e1 e2 e3 hfe hF hE0 HP2 hs4
        go_wp2_with fail
        rw [← HW4.out]
        go_region_held3 (fun X => But (fun x => (Value.slice A2 done.length c2).ownBlock = some x) W4 X ∧ X.cell? ⟨Bf, 1, none⟩ = some (.int .i64 (b : Int)) ∧ X.cell? ⟨w3.heap.size, 0, none⟩ = some (.int .i64 (K : Int)) ∧ X.cell? ⟨w3.heap.size, 1, none⟩ = some (.slice A5 p.length c5))
          (first
            | (refine (fun hb' => ⟨hb', HK.out _ hb'⟩ : But (fun x => (Value.slice A2 done.length c2).ownBlock = some x) W4 _ → _) ?_; first | assumption | exact And.left (by assumption) | exact But.of_below ((Below.refl _ _).drew) _ | exact But.trans (by first | assumption | exact And.left (by assumption) | exact But.of_below ((Below.refl _ _).drew) _) (But.of_below (below_new (Below.refl _ _) _) _) (fun _ k => k) (fun _ k => .inl k)))
          (first
            | (go_at_call 90; (with_reducible refine (HT.out _ (by first | exact (Below.refl _ _).drew | exact below_new ((Below.refl _ _).drew) _ | exact (below_new (Below.refl _ _) _).drew | exact below_new (Below.refl _ _) _)).mono ?_); rintro e w5 ⟨A6, c6, rfl, hown5, hbut5, hnew5w⟩; have hnew5 : ∀ g, (Value.slice A6 d1.length c6).ownBlock = some g → (Value.slice A2 done.length c2).ownBlock = some g ∨ W4.heap.size ≤ g := (fun g e => (hnew5w g e).imp id (fun k => Nat.le_trans (by simp) k)); have hB5 : But (fun x => (Value.slice A2 done.length c2).ownBlock = some x) W4 w5 := But.trans (by first | assumption | exact And.left (by assumption) | exact But.of_below ((Below.refl _ _).drew) _) hbut5 (fun _ k => k) (fun _ k => .inl k))
            | ((refine step_appS Rd.cb_seg rfl _ _ 26 (by rfl) (XG w Bf (.slice A4 (l.drop b).length c4)) w.heap.size 31 56 seg_type (.slice A6 d1.length c6) d1 (by rfl) (hown5.alloc _) (some ⟨w5.heap.size, 0, none⟩) 1 1 (fun x => (W4.heap.size ≤ x ∧ (Value.slice A6 d1.length c6).ownBlock ≠ some x) ∨ PY A5 p x) [(⟨b, n, true, K, p⟩ : Sg)] rfl (by rfl) (HTS.out _ _ _ (World.alloc_heap_new w5 _) hB5.size (fun k => by have := hown5.lt k; omega) ((HRB.out w5 hB5).alloc _)) (fun x hx _ => HhF.out _ hnew5 x hx) (by simp; omega) (by simp; omega) (by have := hB5.size; simp; omega) ?_); intro A7 c7 w7 hown7 hgrow7 hnew7; rw [← Hd2.out] at hown7 hnew7 ⊢; have hB7 : But (fun x => (Value.slice A2 done.length c2).ownBlock = some x) W4 w7 := But.trans (But.trans hB5 (But.of_below (below_new (Below.refl _ _) _) _) (fun _ k => k) (fun _ k => .inl k)) (But.of_grown hgrow7 (fun x => (Value.slice A6 d1.length c6).ownBlock = some x) (fun r e => e)) (fun _ k => k) (fun x k => HnB.out _ hnew5 x k))
            | ((refine step_appS Rd.cb_seg rfl _ _ 26 (by rfl) (XG w Bf (.slice A4 (l.drop b).length c4)) w.heap.size 31 56 seg_type (.slice A6 d1.length c6) d1 (by rfl) hown5 (some ⟨W4.heap.size, 0, none⟩) 1 1 (fun x => (W4.heap.size ≤ x ∧ (Value.slice A6 d1.length c6).ownBlock ≠ some x) ∨ PY A5 p x) [(⟨b, n, true, K, p⟩ : Sg)] rfl (by rfl) (HTS.out _ _ _ ((hbut5.block W4.heap.size (by show W4.heap.size < (W4.alloc _).heap.size; simp) (fun k => by have := Hvo2.out _ k; omega)).trans (by first | exact World.alloc_heap_new W4 _ | exact World.alloc_heap_new W4.drew _)) (Nat.le_refl _) (fun k => (hnew5w _ k).elim (fun k2 => by have := Hvo2.out _ k2; omega) (fun k2 => absurd k2 (by show ¬ (W4.alloc _).heap.size ≤ W4.heap.size; simp))) (HRB.out w5 hB5)) (fun x hx _ => HhF.out _ hnew5 x hx) (by simp; omega) (by simp; omega) (by have := hB5.size; omega) ?_); intro A7 c7 w7 hown7 hgrow7 hnew7; rw [← Hd2.out] at hown7 hnew7 ⊢; have hB7 : But (fun x => (Value.slice A2 done.length c2).ownBlock = some x) W4 w7 := But.trans hB5 (But.of_grown hgrow7 (fun x => (Value.slice A6 d1.length c6).ownBlock = some x) (fun r e => e)) (fun _ k => k) (fun x k => HnB.out _ hnew5 x k)))
        all_goals
          have hP7 := HP4.out.told hown7 hB7 (fun g e => (hnew7 g e).elim (fun k => hnew5 g k) (fun k => .inr (Nat.le_trans hB5.size (Nat.le_trans (by first | exact Nat.le_refl _ | (simp; done)) k))))
          have hdr := Hdrop2.out _ _ _ _ _ _ hP7
          clear hown7 hB7 hnew7 hgrow7 hown5 hbut5 hnew5 hnew5w hB5 HTS HhF HnB HT HK HRB HPY HX2 Hvo2 HP4 Hdrop2 HW4 hP7
          go_wp2_with fail
          refine hdr.mono ?_
          rintro e w8 ⟨⟨v8, rfl⟩, A8, c8, hP8⟩
          have x1 := hP8.fd.cell 1
          have x2 := hP8.fd.cell 2
          have x3 := hP8.fd.frozen 2
          simp only [List.getElem?_cons_zero, List.getElem?_cons_succ] at x1 x2
          have HP8 := Lib.hid hP8
          clear hdr hP8
          generalize hbn : b + n = bn at *
          go_wp2
          have hps := Hps.out
          have hnx := Hnx2.out
          refine ⟨⟨d2, A7, c7, A8, c8, bn, bn, rfl, by omega, HP8.out.skip, ?_⟩, ?measure⟩
          · show _ ∧ _
            rw [hnx] at hps
            rw [Hd2.out, Hd1.out]
            refine ⟨?_, hps.2⟩
            rw [← hps.1]
            simp
          case measure =>
            have h1 := HP8.out.skip.fd.cell 1
            simp only [List.getElem?_cons_zero, List.getElem?_cons_succ] at h1
            rw [h1, Hmu.out]
            simp [intOf]
            omega
      · have hfe : fgE (l.drop b) = wE l b := rfl
        rw [hfe]
        have hstop := pM_stop false l P sk (by rw [Hb.out]; exact fun k => hE k.2)
        rw [Hb.out] at hstop
        have HB4 := Lib.hid (below_new hB3 (.cells #[.int .i64 (gK (l.drop b) : Int), .slice A5 (gP (l.drop b)).length c5] 29))
        have j5 : ¬ (wE l b : Int) = 0 := by omega
        have j6 : ((wE l b : Int) == 0) = false := by simp; omega
        generalize wE l b = E at *
        generalize gK (l.drop b) = K at *
        generalize gP (l.drop b) = p at *
        generalize gS (l.drop b) = G at *
        clear hr5 hA5 hB3
        go_wp2
        go_ret
        have hps := Hps.out
        rw [hstop] at hps
        dsimp only at hps
        rw [← hps.1, ← hps.2, List.append_nil]
        exact ⟨A2, c2, A4, c4, rfl, HP2.out.below HB4.out⟩
    · rw [show nv h a = 0 from if_neg hlt, show decide (a < h.length) = false from by simp [hlt]] at Hnx
      have hah : a = h.length := by omega
      have Hh := Lib.hid hh
      clear ha hh
      go_wp2_with fail
      refine Hnx.out.mono ?_
      rintro e w1 ⟨rfl, hB1⟩
      have x0 := (HP.out.fd.below hB1).cell 0
      simp only [List.getElem?_cons_zero, List.getElem?_cons_succ] at x0
      rw [Hh.out] at x0
      clear Hnx
      have hdr := Hdrop.out w1 hB1
      rw [hah] at hdr
      clear hB1 Hdrop
      go_wp2_with fail
      refine hdr.mono ?_
      rintro e w2 ⟨⟨v2, rfl⟩, A4, c4, hP2⟩
      have hat := Hat.out w2 A4 c4 hP2
      have x0 := hP2.fd.cell 0
      simp only [List.getElem?_cons_zero, List.getElem?_cons_succ] at x0
      have HP2 := Lib.hid hP2
      clear hdr hP2 Hat HP
      generalize hh : l.drop b = hb at *
      go_wp2_with fail
      refine hat.mono ?_
      rintro e w3 ⟨A5, c5, rfl, hr5, hA5, hB3⟩
      subst hh
      clear hat x0
      have hstop := pM_stop false l P sk (by rw [Hb.out]; exact fun k => by omega)
      rw [Hb.out] at hstop
      have HB4 := Lib.hid (below_new hB3 (.cells #[.int .i64 (gK (l.drop b) : Int), .slice A5 (gP (l.drop b)).length c5] 29))
      generalize fgE (l.drop b) = E at *
      generalize gK (l.drop b) = K at *
      generalize gP (l.drop b) = p at *
      generalize gS (l.drop b) = G at *
      clear hr5 hA5 hB3
      go_wp2
      go_ret
      have hps := Hps.out
      rw [hstop] at hps
      dsimp only at hps
      rw [← hps.1, ← hps.2, List.append_nil]
      exact ⟨A2, c2, A4, c4, rfl, HP2.out.below HB4.out⟩
end Go.Proofs.Ytepnillddlemaaa
