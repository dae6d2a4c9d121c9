/- The iterator of package wound: what it hands on. Conditions stand in each theorem. -/
import Derived.Test.YtepnillddlemaaaWound2
import Derived.Test.YtepnillddlemaaaScope
set_option linter.unusedVariables false
set_option linter.unusedSimpArgs false
namespace Go.Proofs.Ytepnillddlemaaa
open Go.RowKit Go.Shelf TG TG.Crc
attribute [local go_sem] Oper.semAt_some

set_option maxRecDepth 100000 in
set_option maxHeartbeats 1000000 in
theorem each_in (k : Nat) (A : Option Addr) (c n : Nat) (A2 : Option Addr) (c2 n2 : Nat) (w : World) :
    CallsIn Fence.wide k Try.prog 99 #[.slice A n c, .slice A2 n2 c2] w fun e w' => e = .returned (.func (.func 141) #[] #[.pointer (some ⟨w.heap.size, 0, none⟩), .pointer (some ⟨w.heap.size + 1, 0, none⟩)]) ∧ w' = (w.alloc (.cells #[.slice A n c] 26)).alloc (.cells #[.slice A2 n2 c2] 75) := by
  refine callsIn_of_wp Try.func99 rfl trivial ?_ rfl
  simp only [Try.ntmps99, List.size_toArray, List.length_cons, List.length_nil, Nat.reduceAdd, Nat.reduceSub, Array.replicate_succ, Array.replicate_zero, List.push_toArray, List.append_toArray, List.nil_append, List.cons_append]
  gi_wp2
  go_ret
  exact ⟨rfl, rfl⟩
/-- a part, where its payload lies, and whether no edit hits it -/
abbrev PL := PS × Bool
/-- what the iterator reads -/
def ER (Bp Be : Nat) (A : Option Addr) (c : Nat) (x : List Sg) (A2 : Option Addr) (c2 : Nat) (es : List Ed) (W : World) : Prop :=
  (W.heap[Bp]? = some (.cells #[.slice A x.length c] 26 (0, 0)) ∧ W.heap[Be]? = some (.cells #[.slice A2 es.length c2] 75 (0, 0))) ∧ Rd.seg.S (fun _ => True) W A c x ∧ RdE.S (fun _ => True) W A2 c2 es
def plO (y : PL) : Sg × Bool := (y.1.1, y.2)
def EF (x : List Sg) (es : List Ed) (pre : List PL) (y : PL) (A0 A : World) : Prop := (pre ++ [y]).map plO <+: x.map (fun s => (s, leftB es s)) ∧ RB A y.1.2.1 y.1.2.2 y.1.1.p

set_option maxRecDepth 100000 in
set_option maxHeartbeats 4000000 in
theorem each1_seq (dk : Nat) (hdk : 1 ≤ dk) (Bp Be : Nat) (A : Option Addr) (c : Nat) (x : List Sg) (A2 : Option Addr) (c2 : Nat) (es : List Ed) (hx : ∀ p ∈ x, p.fr ≤ 1048576 ∧ p.n ≤ 1048576) (he : okE es) :
    Rf.SeqOf Fence.wide dk Try.prog 141 #[.pointer (some ⟨Bp, 0, none⟩), .pointer (some ⟨Be, 0, none⟩)] (fun y : PL => #[.agg (segC y.1).toArray, .bool y.2]) (ER Bp Be A c x A2 c2 es) (EF x es) (fun ys => ys.map plO = x.map (fun s => (s, leftB es s))) := by
  intro lp J W hJR hJb hY h0
  refine callsIn_of_wp Try.func141 rfl trivial ?_ rfl
  simp only [Try.ntmps141, List.size_toArray, List.length_cons, List.length_nil, Nat.reduceAdd, Nat.reduceSub, Array.replicate_succ, Array.replicate_zero, List.push_toArray, List.append_toArray, List.nil_append, List.cons_append]
  obtain ⟨⟨hbp, hbe⟩, hSx, hSe⟩ := hJR _ _ h0
  have hxl := hSx.2.1
  have hel := hSe.2.1
  have hc0 : W.cell? ⟨Bp, 0, none⟩ = some (.slice A x.length c) := Boxed.cell (t := 26) hbp
  gi_wp2
  refine Rf.wpIn_scope (wpIn_seq (wpIn_label ?_))
  gi_wp2
  gi_loopw [10] (fun i wr => ∃ (pre : List PL) (k : Nat), i = .int .i64 k ∧ k ≤ x.length ∧ Hid (pre.map plO = (x.take k).map (fun s => (s, leftB es s))) ∧ J pre wr) (fun i _ => x.length - (intOf i).toNat)
  case atStart => exact ⟨[], 0, rfl, Nat.zero_le _, by simp [RowKit.Hid], h0⟩
  case round =>
    obtain ⟨pre, k, rfl, hk, hpre, hJ⟩ := hrel
    obtain ⟨⟨hbp1, hbe1⟩, hSx1, hSe1⟩ := hJR _ _ hJ
    have j1 : (0 : Int) ≤ (k : Int) := Int.natCast_nonneg _
    by_cases hlt : k < x.length
    · obtain ⟨ad, P1, d1, rfl, hs1, hz⟩ := seg_at hSx1 k hlt
      obtain ⟨y0, y1, y2, y3, y4⟩ := hz _ (Below.refl _ _)
      have htk : x.take (k + 1) = x.take k ++ [x[k]] := List.take_succ_eq_append_getElem hlt
      have hpx : (x.take (k + 1)).map (fun s => (s, leftB es s)) <+: x.map (fun s => (s, leftB es s)) := (List.take_prefix (k + 1) x).map _
      have hxk := hx _ (List.getElem_mem hlt)
      have hrp := Rd.S_RB hs1
      clear hz hs1
      generalize x[k] = s at *
      obtain ⟨fr, n, is, kk, p⟩ := s
      dsimp only at *
      have hpre2 : ∀ L : Bool, leftB es ⟨fr, n, is, kk, p⟩ = L → (pre ++ [(((⟨fr, n, is, kk, p⟩ : Sg), P1, d1), L)]).map plO = (x.take (k + 1)).map (fun s => (s, leftB es s)) := fun L hL => by
        rw [htk, List.map_append, List.map_append, hpre.out]
        simp [plO, hL]
      have HP2 := Lib.hid hpre2
      have HPX := Lib.hid hpx
      have hlb : Be < wr.heap.size := (Array.getElem?_eq_some_iff.1 hbe1).1
      have hce : wr.cell? ⟨Be, 0, none⟩ = some (.slice A2 es.length c2) := Boxed.cell (t := 75) hbe1
      have hBx := Blk.new wr 31 (segC (⟨fr, n, is, kk, p⟩, P1, d1))
      have HBx := Lib.hid hBx
      have HB0 := Lib.hid (below_new (Below.refl wr.heap.size wr) (.cells (segC (⟨fr, n, is, kk, p⟩, P1, d1)).toArray 31))
      dsimp only [segC] at HBx HB0
      obtain ⟨Bx, hBxe⟩ : ∃ Bx, Bx = wr.heap.size := ⟨_, rfl⟩
      rw [← hBxe] at HBx
      clear hpre2 hpx htk hBx hbp1 hbe1
      gi_wp2
      rw [← hBxe]
      clear hBxe
      obtain ⟨wo, hwo⟩ : ∃ wo, wo = wr := ⟨_, rfl⟩
      subst hwo
      gi_loopw [16] (fun i wq => ∃ m : Nat, i = .int .i64 m ∧ m ≤ es.length ∧ Hid (∀ e ∈ es.take m, hit fr n e = false) ∧ Hid (Below wo.heap.size wo wq) ∧ Hid (Blk wq Bx 31 [.int .i64 (fr : Int), .int .i64 (n : Int), .bool is, .int .i64 (kk : Int), .slice P1 p.length d1])) (fun i _ => es.length - (intOf i).toNat)
      case atStart => exact ⟨0, rfl, Nat.zero_le _, Lib.hid (by simp), HB0, HBx⟩
      case round =>
        obtain ⟨m, rfl, hm, hnh, hBq, hXq⟩ := hrel
        have j2 : (0 : Int) ≤ (m : Int) := Int.natCast_nonneg _
        have x0 := hXq.out.cell 0
        have x1 := hXq.out.cell 1
        have x2 := hXq.out.cell 2
        have x3 := hXq.out.cell 3
        have x4 := hXq.out.cell 4
        simp only [List.getElem?_cons_zero, List.getElem?_cons_succ] at x0 x1 x2 x3 x4
        have hpr := HPX
        by_cases hml : m < es.length
        · obtain ⟨ad2, P2, d2, rfl, hr2, _, hz⟩ := ed_at (Rd.S_below (by decide) hSe1 hBq.out) m hml
          obtain ⟨z0, z1, z2⟩ := hz _ (Below.refl _ _)
          have htk : es.take (m + 1) = es.take m ++ [es[m]] := List.take_succ_eq_append_getElem hml
          have hem := List.getElem_mem hml
          have hok := he _ hem
          have hhit := fun W => hits_calls P1 d1 ⟨fr, n, is, kk, p⟩ P2 d2 es[m] W hxk hok
          generalize es[m] = e at *
          obtain ⟨f, q, b⟩ := e
          dsimp only [segC] at *
          have HW2 := Lib.hid (below_new hBq.out (.cells #[.int .i64 f, .int .i64 q, .slice P2 b.length d2] 148))
          have HX2 := Lib.hid (hXq.out.alloc (.cells #[.int .i64 f, .int .i64 q, .slice P2 b.length d2] 148))
          have hBl := hXq.out.lt
          have Htk := Lib.hid htk
          clear hz hr2 htk hBq hXq
          cases hh : hit fr n (f, q, b) with
          | true =>
            rw [hh] at hhit
            have Hleft := Lib.hid (show leftB es ⟨fr, n, is, kk, p⟩ = false by
              cases hl : leftB es ⟨fr, n, is, kk, p⟩ with
              | false => rfl
              | true => have := leftB_iff.1 hl _ hem; rw [hh] at this; cases this)
            clear hh hem hnh
            gi_wp2_with fail
            refine ⟨trivial, ?_⟩
            refine (callsIn_wide.2 (hhit _)).mono ?_
            rintro r w3 ⟨rfl, hB3⟩
            have hX3 := HX2.out.below hB3
            have v0 := hX3.cell 0
            have v1 := hX3.cell 1
            have v2 := hX3.cell 2
            have v3 := hX3.cell 3
            have v4 := hX3.cell 4
            simp only [List.getElem?_cons_zero, List.getElem?_cons_succ] at v0 v1 v2 v3 v4
            have HB3 := Lib.hid (below_chain HW2.out hB3)
            obtain ⟨fn, tmps, assign, body, hy, hR⟩ := hY pre ((⟨fr, n, is, kk, p⟩, P1, d1), false) wo w3 hJ HB3.out ⟨by rw [HP2.out false Hleft.out]; exact HPX.out, hrp.below HB3.out⟩
            clear hhit x0 x1 x2 x3 x4 z0 z1 z2 y0 y1 y2 y3 y4 hX3 hB3 hce
            gi_wp2_with fail
            refine hR.mono ?_
            rintro e W5 ⟨rfl, hJ5⟩
            clear hy hR v0 v1 v2 v3 v4
            gi_wp2
            go_roundw
            case rel => exact ⟨_, k + 1, by go_num, by omega, HP2.out false Hleft.out, hJ5⟩
            case measure => simp [intOf]; omega
          | false =>
            rw [hh] at hhit
            have HN := Lib.hid (show ∀ e ∈ es.take (m + 1), hit fr n e = false from fun e h => by
              rw [Htk.out, List.mem_append, List.mem_singleton] at h
              rcases h with h | rfl
              · exact hnh.out e h
              · exact hh)
            clear hh hnh
            gi_wp2_with fail
            refine ⟨trivial, ?_⟩
            refine (callsIn_wide.2 (hhit _)).mono ?_
            rintro r w3 ⟨rfl, hB3⟩
            have HX3 := Lib.hid (HX2.out.below hB3)
            have HB3 := Lib.hid (below_chain HW2.out hB3)
            clear hhit x0 x1 x2 x3 x4 z0 z1 z2 y0 y1 y2 y3 y4 hB3 hce
            gi_wp2
            go_roundw
            case rel => exact ⟨m + 1, by go_num, by omega, HN, HB3, HX3⟩
            case measure => simp [intOf]; omega
        · have Hleft := Lib.hid (show leftB es ⟨fr, n, is, kk, p⟩ = true by
            rw [leftB_iff]
            intro e h
            have := hnh.out
            rw [List.take_of_length_le (by omega)] at this
            exact this e h)
          obtain ⟨fn, tmps, assign, body, hy, hR⟩ := hY pre ((⟨fr, n, is, kk, p⟩, P1, d1), true) wo wr hJ hBq.out ⟨by rw [HP2.out true Hleft.out]; exact HPX.out, hrp.below hBq.out⟩
          dsimp only [segC] at hy
          clear hnh
          gi_wp2_with fail
          refine hR.mono ?_
          rintro e W5 ⟨rfl, hJ5⟩
          clear hy hR x0 x1 x2 x3 x4 y0 y1 y2 y3 y4 hce
          gi_wp2
          refine ⟨⟨_, k + 1, by go_num, by omega, HP2.out true Hleft.out, hJ5⟩, ?measure⟩
          case measure => simp [intOf]; omega
    · have HE := Lib.hid (show x.take k = x from List.take_of_length_le (by omega))
      gi_wp2
      rw [Exit.noGoto_normal]
      go_end0
      exact ⟨⟨_, rfl⟩, pre, by rw [hpre.out, HE.out], hJ⟩
end Go.Proofs.Ytepnillddlemaaa
