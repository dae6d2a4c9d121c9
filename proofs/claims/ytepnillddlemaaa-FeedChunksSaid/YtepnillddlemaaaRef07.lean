/- The references of layer 7: the same parts; those that are frames; the parts. Conditions stand in each theorem. -/
import Derived.Test.YtepnillddlemaaaSegs2
import Derived.Test.YtepnillddlemaaaLaw06
import Derived.Lib.QuietBelow
import Derived.BigQuiet
set_option linter.unusedVariables false
set_option linter.unusedSimpArgs false
namespace Go.Proofs.Ytepnillddlemaaa
open Go.RowKit Go.Shelf TG TG.Crc
attribute [local go_sem] Oper.semAt_some

theorem seg_at {F : Nat → Prop} {w : World} {A : Option Addr} {c : Nat} {x : List Sg} (h : Rd.seg.S F w A c x) (i : Nat) (hi : i < x.length) :
    ∃ ad A5 c5, A = some ad ∧ Rd.u8.S F w A5 c5 x[i].p ∧ ∀ W, Below w.heap.size w W → W.cell? (ad.add (i * 5)) = some (.int .i64 (x[i].fr : Int)) ∧ W.cell? ⟨(ad.add (i * 5)).block, (ad.add (i * 5)).off + 1, none⟩ = some (.int .i64 (x[i].n : Int)) ∧ W.cell? ⟨(ad.add (i * 5)).block, (ad.add (i * 5)).off + 2, none⟩ = some (.bool x[i].is) ∧
      W.cell? ⟨(ad.add (i * 5)).block, (ad.add (i * 5)).off + 3, none⟩ = some (.int .i64 (x[i].k : Int)) ∧ W.cell? ⟨(ad.add (i * 5)).block, (ad.add (i * 5)).off + 4, none⟩ = some (.slice A5 x[i].p.length c5) := by
  obtain ⟨ad, h1, _, cs, ⟨A5, c5, rfl, hS⟩, h3⟩ := Rd.S_at h i hi
  have key : ∀ W, Below w.heap.size w W → ∀ j u, (segC (x[i], A5, c5))[j]? = some u → W.cell? ((ad.add (i * 5)).add j) = some u := fun W hW j u hj => by
    have h4 := h3 j u hj
    rw [show (Rd.seg).sz = 5 from rfl, ← add_add] at h4
    exact (hW.cell (World.block_lt_of_cell? w _ h4)).trans h4
  refine ⟨ad, A5, c5, h1, hS, fun W hW => ⟨?_, ?_, ?_, ?_, ?_⟩⟩
  · have := key W hW 0 _ rfl
    rwa [show (ad.add (i * 5)).add 0 = ad.add (i * 5) from by simp [Addr.add]] at this
  · exact key W hW 1 _ rfl
  · exact key W hW 2 _ rfl
  · exact key W hW 3 _ rfl
  · exact key W hW 4 _ rfl

set_option maxRecDepth 100000 in
set_option maxHeartbeats 1000000 in
theorem same7_calls (A1 A2 : Option Addr) (c1 c2 : Nat) (x : List Sg) (w : World) (h1 : Rd.seg.S (fun _ => True) w A1 c1 x) (h2 : Rd.seg.S (fun _ => True) w A2 c2 x) :
    Calls Try.prog 19 #[.slice A1 x.length c1, .slice A2 x.length c2] w fun e w' => e = .returned (.bool true) ∧ Below w.heap.size w w' := by
  have hxl := h1.2.1
  go_enter Try.func19, Try.ntmps19
  go_wp2
  go_loopw [5] (fun n wr => ∃ i : Nat, i ≤ x.length ∧ n = .int .i64 i ∧ Below w.heap.size w wr) (fun n _ => x.length - (intOf n).toNat)
  case atStart => exact ⟨0, Nat.zero_le _, rfl, Below.refl _ _⟩
  case round =>
    obtain ⟨i, hi, rfl, hB⟩ := hrel
    have j1 : (0 : Int) ≤ (i : Int) := Int.natCast_nonneg _
    by_cases hlt : i < x.length
    · obtain ⟨ad1, P1, d1, rfl, hs1, hz1⟩ := seg_at (Rd.S_below (by decide) h1 hB) i hlt
      obtain ⟨ad2, P2, d2, rfl, hs2, hz2⟩ := seg_at (Rd.S_below (by decide) h2 hB) i hlt
      have hr1 := Rd.S_RB hs1
      have hr2 := Rd.S_RB hs2
      clear hs1 hs2
      have hsm := fun W (hW : Below wr.heap.size wr W) => fsame_calls (x[i].k : Int) (x[i].k : Int) P1 d1 x[i].p P2 d2 x[i].p W (hr1.below hW) (hr2.below hW)
      rw [show (((x[i].k : Int) == (x[i].k : Int)) && x[i].p == x[i].p) = true from by simp] at hsm
      have y0 := fun d os => (hz1 _ (below_regrown wr d os)).1
      have y1 := fun d os => (hz1 _ (below_regrown wr d os)).2.1
      have y2 := fun d os => (hz1 _ (below_regrown wr d os)).2.2.1
      have y3 := fun d os => (hz1 _ (below_regrown wr d os)).2.2.2.1
      have y4 := fun d os => (hz1 _ (below_regrown wr d os)).2.2.2.2
      have z0 := fun d os => (hz2 _ (below_regrown wr d os)).1
      have z1 := fun d os => (hz2 _ (below_regrown wr d os)).2.1
      have z2 := fun d os => (hz2 _ (below_regrown wr d os)).2.2.1
      have z3 := fun d os => (hz2 _ (below_regrown wr d os)).2.2.2.1
      have z4 := fun d os => (hz2 _ (below_regrown wr d os)).2.2.2.2
      clear hz1 hz2 hr1 hr2
      generalize x[i] = s at *
      obtain ⟨fr, n, is, k, p⟩ := s
      dsimp only at *
      have HB := Lib.hid hB
      clear hB
      go_wp2_with fail
      refine wp_region_quiet_below (by kernel_rfl) (by kernel_rfl) ?_
      repeat (first | go_big_quiet_step (exact Calls.regrown_of (hsm _ (below_regrown _ _ _))) | quiet_step (exact Calls.regrown_of (hsm _ (below_regrown _ _ _))))
      refine wpQuiet_nil ?_
      intro _ hw'
      obtain ⟨⟨dq, osq⟩, hw''⟩ := hw'
      subst hw''
      have HB8 := Lib.hid (below_chain HB.out (below_regrown wr dq osq))
      clear y0 y1 y2 y3 y4 z0 z1 z2 z3 z4 hsm
      go_wp2
      go_roundw
      case rel => exact ⟨i + 1, by omega, by go_num, HB8.out⟩
      case measure => simp [intOf]; omega
    · go_wp2
      go_ret
      exact ⟨rfl, hB⟩

/-- what is read of a part in a block of its own: its payload lies outside of v's row -/
theorem one_part {F : Nat → Prop} {X : World} {y : PS} {v : Value} (hy : Rd.u8.S F X y.2.1 y.2.2 y.1.p) (hv : ∀ b, F b → v.ownBlock ≠ some b) (hl : ∀ g, v.ownBlock = some g → g < X.heap.size) :
    ∃ F' : Nat → Prop, Rd.seg.S F' (X.alloc (.cells (segC y).toArray 31)) (some ⟨X.heap.size, 0, none⟩) 1 [y.1] ∧ ∀ b, F' b → isC (X.alloc (.cells (segC y).toArray 31)) b → ¬ False ∧ v.ownBlock ≠ some b := by
  refine ⟨fun b => b = X.heap.size ∨ F b, S_single (World.alloc_heap_new X _) (.inl rfl) ⟨y.2.1, y.2.2, rfl, Rd.S_mono (Rd.S_below (by decide) hy (below_new (Below.refl _ _) _)) (fun b hb => .inr hb)⟩, ?_⟩
  rintro b (rfl | h) _
  · exact ⟨id, fun e => by have := hl _ e; omega⟩
  · exact ⟨id, hv b h⟩

set_option maxRecDepth 100000 in
set_option maxHeartbeats 1000000 in
theorem refframes7_calls (A : Option Addr) (c : Nat) (x : List Sg) (w : World) (h1 : Rd.seg.S (fun _ => True) w A c x) (hx : x.length ≤ 1000000) :
    Calls Try.prog 34 #[.slice A x.length c] w fun e w' => ∃ v, e = .returned v ∧ Rd.seg.Own (fun _ => False) w' w.heap.size 31 v (x.filter (·.is)) ∧ Below w.heap.size w w' := by
  have hS := Rd.S_bound (by decide) h1
  go_enter Try.func34, Try.ntmps34
  go_wp2
  go_loopw [3, 4] (fun v n wr => ∃ i : Nat, i ≤ x.length ∧ n = .int .i64 i ∧ Rd.seg.Own (fun _ => False) wr w.heap.size 31 v ((x.take i).filter (·.is)) ∧ Below w.heap.size w wr) (fun _ n _ => x.length - (intOf n).toNat)
  case atStart => exact ⟨0, Nat.zero_le _, rfl, Rd.Own.empty _ _ _ _, below_new (Below.refl _ _) _⟩
  case round =>
    obtain ⟨i, hi, rfl, hown, hB⟩ := hrel
    have j1 : (0 : Int) ≤ (i : Int) := Int.natCast_nonneg _
    by_cases hlt : i < x.length
    · obtain ⟨ad1, P1, d1, rfl, hs1, hz1⟩ := seg_at (Rd.S_below (by decide) hS hB) i hlt
      obtain ⟨y0, y1, y2, y3, y4⟩ := hz1 _ (Below.refl _ _)
      have htk : x.take (i + 1) = x.take i ++ [x[i]] := List.take_succ_eq_append_getElem hlt
      have Htk := Lib.hid htk
      clear htk hz1
      generalize x[i] = s at *
      obtain ⟨fr, n, is, k, p⟩ := s
      dsimp only at *
      have HB := Lib.hid hB
      have hsz := hB.size
      have Hown := Lib.hid hown
      clear hB
      cases is with
      | false =>
        go_wp2
        go_roundw
        case rel => exact ⟨i + 1, by omega, by go_num, by rw [Htk.out]; simpa using Hown.out, HB.out⟩
        case measure => simp [intOf]; omega
      | true =>
        obtain ⟨F, hS1, hF⟩ := one_part (y := (⟨fr, n, true, k, p⟩, P1, d1)) hs1 (fun b hb e => by have := hown.base b e; have := hb.2; omega) (fun g e => hown.lt e)
        dsimp only [segC] at hS1 hF
        have hlen : ((x.take i).filter (·.is)).length ≤ i := Nat.le_trans (List.length_filter_le _ _) (List.length_take_le _ _)
        obtain ⟨fl, hfl⟩ : ∃ fl, fl = (x.take i).filter (·.is) := ⟨_, rfl⟩
        rw [← hfl] at hown hlen
        have Hfl := Lib.hid hfl
        clear hfl
        go_wp2_with (at_builtin; go_loud (refine wpList_appS Rd.cb_seg rfl _ _ 26 rfl (fun _ => False) w.heap.size 31 56 seg_type u3 fl rfl (hown.alloc _) (some ⟨wr.heap.size, 0, none⟩) 1 1 F [⟨fr, n, true, k, p⟩] rfl rfl hS1 hF (by simp; omega) (by simp; omega) (by simp; omega) ?_); intro A' c' w3 hown' hgrow hfr)
        go_roundw
        case rel =>
          refine ⟨i + 1, by omega, by go_num, ?_, ((below_new HB.out (.cells #[.int .i64 (fr : Int), .int .i64 (n : Int), .bool true, .int .i64 (k : Int), .slice P1 p.length d1] 31)).grown hgrow (by simp; omega) (fun g e => hown.base g e))⟩
          rw [Htk.out, List.filter_append, ← Hfl.out, show List.filter (·.is) [(⟨fr, n, true, k, p⟩ : Sg)] = [⟨fr, n, true, k, p⟩] from rfl]
          rw [List.length_append] at hown'
          exact hown'
        case measure => simp [intOf]; omega
    · have HE := Lib.hid (show x.take i = x from List.take_of_length_le (by omega))
      go_wp2
      go_ret
      exact ⟨u3, rfl, by rw [← HE.out]; exact hown, hB⟩
end Go.Proofs.Ytepnillddlemaaa
