/- The functions of package wire, and of the reference of layer 1, return what plain Lean says of their bytes. Conditions stand in each theorem. -/
import Derived.Test.YtepnillddlemaaaProg
import Derived.Test.YtepnillddlemaaaRead
import Derived.Test.YtepnillddlemaaaRf
import Derived.Test.YtepnillddlemaaaMathWire
import Derived.Test.YtepnillddlemaaaMathBits
import Derived.Shelf.Abstract
import Derived.Shelf.RegionOpen
import Derived.OwnWalkIn
import Derived.TacticsInMore
import Derived.LoopNIn
import Derived.LoopIn
import Derived.Outline
import Derived.BigQuiet
set_option linter.unusedVariables false
set_option linter.unusedSimpArgs false
namespace Go.Proofs.Ytepnillddlemaaa
open Go.RowKit Go.Shelf TG
attribute [local go_sem] Oper.semAt_some

theorem info_u8 : (Try.prog.info? 5).map (fun i => (i.zero, i.size, i.bytes)) = some (some (.int .u8 0), 1, 1) := by kernel_rfl

set_option maxRecDepth 100000 in
set_option maxHeartbeats 1000000 in
theorem clone8_calls (A : Option Addr) (c : Nat) (l : List UInt8) (w : World) (hr : RB w A c l) :
    Calls Try.prog 115 #[.slice A l.length c] w fun e w' => ∃ v, e = .returned v ∧ w'.ownsRow w.heap.size 5 1 v l.length (bc l) ∧ Below w.heap.size w w' := by
  obtain ⟨i0, hi, hz0, hz1, hz2⟩ := info_parts info_u8
  have hnil := @Lib.run_eql_slice_nil Try.prog
  cases A with
  | none =>
    have hl : l = [] := hr.2.2.1 rfl
    subst hl
    go_enter Try.func115, Try.ntmps115
    go_wp2
    go_ret
    exact ⟨_, rfl, World.ownsRow_nil _ _ _ _, Below.refl _ _⟩
  | some ad =>
    go_enter Try.func115, Try.ntmps115
    have hr1 := hr.alloc (.cells #[] 5)
    go_wp2_with (at_builtin; go_loud (refine wpList_append_own _ rfl _ _ 25 rfl w.heap.size 5 i0 (.int .u8 0) 1 1 Try.underlying25 hi hz0 hz1 hz2 rfl (by decide) _ 0 [] rfl (own_empty w 5 1) ad l.length c (bc l) rfl (by simp) hr1.news (bc_one l) (by simp only [maxLen]; have := hr.2.1; omega) (by have := hr.2.1; omega) (by simp) ?_); intro v' w1 hown' hgrow _)
    go_ret
    refine ⟨_, rfl, ?_, ?_⟩
    · simpa using hown'
    · exact ((Below.refl w.heap.size w).alloc (Nat.le_refl _) _).grown hgrow (by simp) (fun k e => by simp [Act.eval, Value.ownBlock] at e; omega)

theorem or128 : ∀ a : Fin 256, bits .or .u8 (a.val : Int) 128 = ((UInt8.ofNat (a.val % 128 + 128)).toNat : Int) := by decide +kernel
def celln (W : World) (B : Nat) : Nat := match W.heap[B]? with
  | some (.cells cs _ _) => (intOf (cs[0]?.getD undef)).toNat
  | _ => 0

set_option maxRecDepth 100000 in
set_option maxHeartbeats 1000000 in
theorem groups_in (F : Fence) (k : Nat) (h : F.fn 116) (hro : F.round = none) (n : Nat) (w : World) :
    CallsIn F k Try.prog 116 #[.int .u64 n] w fun e w' => e = .returned (.func (.func 153) #[] #[.pointer (some ⟨w.heap.size, 0, none⟩)]) ∧ w' = w.alloc (.cells #[.int .u64 n] 44) := by
  refine callsIn_of_wp Try.func116 rfl h ?_ hro
  simp only [Try.ntmps116, List.size_toArray, List.length_cons, List.length_nil, Nat.reduceAdd, Nat.reduceSub, Array.replicate_succ, Array.replicate_zero, List.push_toArray, List.append_toArray, List.nil_append, List.cons_append]
  gi_wp2
  go_ret
  exact ⟨rfl, rfl⟩

set_option maxRecDepth 100000 in
set_option maxHeartbeats 1000000 in
theorem groups1_seq (F : Fence) (k : Nat) (h : F.fn 153) (hro : F.round = none) (hk : 1 ≤ k) (n : Nat) (Bn : Nat) (w : World) (hb : w.heap[Bn]? = some (.cells #[.int .u64 n] 44 (0, 0))) :
    Rf.SeqCell F k Try.prog 153 #[.pointer (some ⟨Bn, 0, none⟩)] (fun x : UInt8 => #[.int .u8 (x.toNat : Int)]) Bn 44 (nb n) w := by
  intro l J W hW hJc hY h0
  refine callsIn_of_wp Try.func153 rfl h ?_ hro
  simp only [Try.ntmps153, List.size_toArray, List.length_cons, List.length_nil, Nat.reduceAdd, Nat.reduceSub, Array.replicate_succ, Array.replicate_zero, List.push_toArray, List.append_toArray, List.nil_append, List.cons_append]
  gi_wp2
  gi_loopw [3] (fun _ wr => ∃ (pre : List UInt8) (m : Nat), wr.heap[Bn]? = some (.cells #[.int .u64 m] 44 (0, 0)) ∧ pre ++ nb m = nb n ∧ J pre wr) (fun _ wr => celln wr Bn)
  case atStart => exact ⟨[], n, hW.trans hb, rfl, h0⟩
  case round =>
    obtain ⟨pre, m, hm, hpre, hJ⟩ := hrel
    have Hm := Lib.hid hm; have Hpre := Lib.hid hpre; clear hpre
    have hc : wr.cell? ⟨Bn, 0, none⟩ = some (.int .u64 m) := by rw [Boxed.cell (t := 44) hm]
    have hfz : wr.frozen? ⟨Bn, 0, none⟩ = false := Boxed.frozen (t := 44) (v := .int .u64 m) hm
    clear hm
    by_cases h128 : m < 128
    · have hnb : nb m = [UInt8.ofNat m] := nb_small h128
      have hmm : ((UInt8.ofNat m).toNat : Int) = m := by rw [UInt8.toNat_ofNat', Nat.mod_eq_of_lt (by omega)]
      obtain ⟨fn, tmps, assign, body, hy, hR⟩ := hY pre (UInt8.ofNat m) wr hJ (by rw [← Hpre.out, hnb]; exact List.prefix_rfl)
      have Hnb := Lib.hid hnb
      clear hnb
      rw [hmm] at hy
      clear hmm
      gi_wp2
      refine hR.mono ?_
      rintro e W3 ⟨rfl, hJ3, hb3⟩
      have Hb3 := Lib.hid hb3
      clear hb3
      gi_wp2
      go_end0
      exact ⟨⟨_, rfl⟩, by rw [← Hpre.out, Hnb.out]; exact hJ3⟩
    · have hnb : nb m = UInt8.ofNat (m % 128 + 128) :: nb (m / 128) := nb_great h128
      have hx : bits .or .u8 ((m : Int) % 256) 128 = ((UInt8.ofNat (m % 128 + 128)).toNat : Int) := by
        have := or128 ⟨m % 256, by omega⟩
        simp only at this
        rw [show ((m : Int) % 256) = ((m % 256 : Nat) : Int) from by omega, this, show m % 256 % 128 = m % 128 from by omega]
      obtain ⟨fn, tmps, assign, body, hy, hR⟩ := hY pre (UInt8.ofNat (m % 128 + 128)) wr hJ (by rw [← Hpre.out, hnb]; exact ⟨nb (m / 128), by simp⟩)
      have Hnb := Lib.hid hnb
      have Hx := Lib.hid hx
      rw [← hx] at hy
      clear hnb hx
      gi_wp2
      refine hR.mono ?_
      rintro e W3 ⟨rfl, hJ3, hb3⟩
      have hc3 : W3.cell? ⟨Bn, 0, none⟩ = some (.int .u64 m) := Boxed.cell (t := 44) (hb3.trans Hm.out)
      have hf3 : W3.frozen? ⟨Bn, 0, none⟩ = false := Boxed.frozen (t := 44) (v := .int .u64 m) (hb3.trans Hm.out)
      have Hb3 := Lib.hid (hb3.trans Hm.out)
      clear hb3
      gi_wp2
      go_roundw
      case rel =>
        have := Boxed.set (W := W3) (B := Bn) (t := 44) (.int .u64 ((m / 128 : Nat) : Int)) Hb3.out
        exact ⟨pre ++ [UInt8.ofNat (m % 128 + 128)], m / 128, this, by rw [← Hpre.out, Hnb.out]; simp, hJc _ _ _ _ hJ3 Hb3.out⟩
      case measure =>
        have h1 : celln wr Bn = m := by unfold celln; rw [Hm.out]; simp [intOf]
        have h2 : celln (W3.setCell ⟨Bn, 0, none⟩ (.int .u64 ((m / 128 : Nat) : Int))) Bn = m / 128 := by unfold celln; rw [Boxed.set (W := W3) (B := Bn) (t := 44) (.int .u64 ((m / 128 : Nat) : Int)) Hb3.out]; simp [intOf]; omega
        rw [h1, show ((m : Int) / 128) = ((m / 128 : Nat) : Int) from rfl, h2]
        omega

set_option maxRecDepth 100000 in
set_option maxHeartbeats 1000000 in
theorem put_calls (A : Option Addr) (c : Nat) (l : List UInt8) (n : Nat) (w : World) (hr : RB w A c l) (hlen : (l ++ nb n).length ≤ 140737488355328) :
    Calls Try.prog 68 #[.slice A l.length c, .int .u64 n] w fun e w' => ∃ v, e = .returned v ∧ w'.ownsRow w.heap.size 5 1 v (l ++ nb n).length (bc (l ++ nb n)) ∧ Below w.heap.size w w' := by
  obtain ⟨i0, hi, hz0, hz1, hz2⟩ := info_parts info_u8
  refine (callsIn_wide (n := 5)).1 ?_
  refine callsIn_of_wp_marks Try.func68 rfl trivial ?_ rfl
  simp only [Try.ntmps68, List.size_toArray, List.length_cons, List.length_nil, Nat.reduceAdd, Nat.reduceSub, Array.replicate_succ, Array.replicate_zero, List.push_toArray, List.append_toArray, List.nil_append, List.cons_append]
  gi_wp2_with (first
    | (refine ⟨trivial, ?_⟩; gi_at_call 115; refine (callsIn_wide.2 (clone8_calls _ _ _ _ hr)).mono ?_; rintro e w1 ⟨v1, rfl, hrow1, hB1⟩; obtain ⟨A1, c1, rfl⟩ := own_form hrow1)
    | (refine ⟨trivial, ?_⟩; gi_at_call 116; refine (groups_in Fence.wide _ trivial rfl n _).mono ?_; rintro e w2 ⟨rfl, rfl⟩))
  obtain ⟨W, hW⟩ : ∃ W, (w1.alloc (.cells #[.slice A1 l.length c1] 25)).alloc (.cells #[.int .u64 n] 44) = W := ⟨_, rfl⟩
  have hsz : W.heap.size = w1.heap.size + 2 := by rw [← hW]; simp
  have hBo : Boxed W w1.heap.size 25 (.slice A1 l.length c1) := by rw [← hW]; exact (Boxed.new w1 25 _).alloc _
  have hBn : W.heap[w1.heap.size + 1]? = some (.cells #[.int .u64 n] 44 (0, 0)) := by
    rw [← hW]
    have := Boxed.new (w1.alloc (.cells #[.slice A1 l.length c1] 25)) 44 (.int .u64 n)
    rwa [World.size_alloc] at this
  have hrow : W.ownsRow w.heap.size 5 1 (.slice A1 l.length c1) l.length (bc l) := by rw [← hW]; exact (hrow1.alloc _).alloc _
  have hBW : Below w.heap.size w W := by rw [← hW]; exact (hB1.alloc hB1.size _).alloc (by have := hB1.size; simp; omega) _
  have hle1 := hB1.size
  rw [hW]
  clear hW
  refine Rf.rangeFunc_cell (Bn := w1.heap.size + 1) (xs := nb n) rfl (by decide) (gf := 153) (lb := #[.pointer (some ⟨w1.heap.size + 1, 0, none⟩)]) rfl trivial (enters_of Try.func153 (by kernel_rfl) rfl)
    (groups1_seq Fence.wide _ trivial rfl (by decide) n (w1.heap.size + 1) W hBn) (by omega) (fun _ => rfl)
    (fun pre X => (∃ v, Boxed X w1.heap.size 25 v ∧ X.ownsRow w.heap.size 5 1 v (l.length + pre.length) (bc (l ++ pre)) ∧ True) ∧ (∃ u, Boxed X (w1.heap.size + 1) 44 u) ∧ Below w.heap.size w X)
    (OwnFrom.and (Own.from (holdsRow_own w.heap.size w1.heap.size 25 5 1 (fun pre => l.length + pre.length) (fun pre => bc (l ++ pre)) (fun _ _ => True)) _) (OwnFrom.and (Own.from (fun s A B row ⟨u, hu⟩ hg hr => ⟨u, boxed_own (w1.heap.size + 1) 44 (fun _ => u) s A B row hu hg hr⟩) _) (ownFrom_below (Nat.le_refl _) (by omega))))
    ?hIc ⟨⟨_, hBo, by simpa using hrow, trivial⟩, ⟨_, hBn⟩, hBW⟩
    (fun x => { tmps := #[.slice A l.length c, .int .u64 n, undef, undef, .slice none 0 0, .pointer (some ⟨w1.heap.size, 0, none⟩), .int .u8 (x.toNat : Int), .slice A l.length c, .slice A1 l.length c1, .int .u64 n, .func (.func 153) #[] #[.pointer (some ⟨w1.heap.size + 1, 0, none⟩)], .int .u8 (x.toNat : Int), undef, undef, undef, undef, undef], defers := [] }) ?assign ?body ?done
  case hIc =>
    rintro pre X v u ⟨⟨v0, hv, hr0, _⟩, _, hB⟩ hc
    have hne : w1.heap.size ≠ w1.heap.size + 1 := by omega
    exact ⟨⟨v0, hv.other hne u, hr0.kept (grownBy_setCell' X _ u) (.inr (Boxed.not_row (t := 44) hc (by decide) hr0).symm), trivial⟩, ⟨u, Boxed.set (t := 44) u hc⟩, hB.setCell (p := ⟨w1.heap.size + 1, 0, none⟩) (by simp; omega) u⟩
  case assign =>
    intro l x W K hK
    gi_wp2
    exact hK
  case body =>
    rintro lp pre x X ⟨⟨v, hv, hrow2, _⟩, ⟨u, hu⟩, hB2⟩ hpre
    have hc := hv.cell
    have hlp : l.length + pre.length + 1 ≤ 140737488355328 := by
      have := hpre.length_le
      simp at this hlen
      omega
    have hB2s := hB2.size
    gi_wp2_with (gi_at_builtin; go_loud (refine wpListIn_append_own _ rfl _ _ 25 rfl w.heap.size 5 i0 (.int .u8 0) 1 1 Try.underlying25 hi hz0 hz1 hz2 rfl (by decide) _ _ _ rfl (hrow2.alloc _) ⟨X.heap.size, 0, none⟩ 1 1 [.int .u8 (x.toNat : Int)] rfl rfl (cell_one_new _ _ _) (by simp [Value.oneCell']) (by simp only [maxLen]; omega) (by omega) (by simp; omega) ?_); intro v' w3 hown' hgrow _; obtain ⟨g', cap', rfl⟩ := ownsRow_succ hown'; obtain ⟨hv1, hv2, hr2, hk2, hb2⟩ := hv.appended (by decide) hrow2 hB2.size hle1 hown' hgrow; have hc1 := hv1.cell; have hf1 := hv1.frozen)
    have hu1 := hu.alloc (.cells #[.int .u8 (x.toNat : Int)] 5)
    have hu3 := hu1.kept hgrow (Boxed.not_row (t := 44) hu1 (by decide) (hrow2.alloc (.cells #[.int .u8 (x.toNat : Int)] 5)))
    refine ⟨hk2.from _, ?_, ⟨_, hv2, by simpa [bc, Nat.add_assoc] using hr2, trivial⟩, ⟨u, hu3.other (by omega) _⟩, hB2.trans hb2⟩
    exact (Below.heap_setCell _ _ _ _ (by simp)).trans (hu3.trans hu.symm)
  case done =>
    rintro X ⟨⟨v, hv, hrow2, _⟩, _, hB2⟩ hK
    obtain ⟨A2, c2, rfl⟩ := own_form hrow2
    have hc := hv.cell
    gi_wp2
    refine ⟨by simp, .inl ⟨_, _, rfl, run_takeDeferred hK, ?_⟩⟩
    rw [List.length_append]
    exact ⟨_, results_tmp rfl _ _ _, _, rfl, ownsRow_putObj hrow2 _ hK rfl, hB2.trans (belowK_b (w := w) (Nat.le_refl _) X W.heap.size _ _ (by omega) hK rfl rfl)⟩
end Go.Proofs.Ytepnillddlemaaa
