/- segs.Of, segs.Frames, segs.Skipped. Conditions stand in each theorem. -/
import Derived.Test.YtepnillddlemaaaSegs
set_option linter.unusedVariables false
set_option linter.unusedSimpArgs false
namespace TG
open Go Go.RowKit Go.Proofs
theorem sgs_bound (l : List UInt8) : ∀ (m i : Nat), l.length - i = m → (sgs l i).length ≤ m := by
  intro m
  induction m using Nat.strongRecOn with
  | _ m ih =>
    intro i hm
    by_cases h : i < l.length
    · obtain ⟨s, e1, e2, e3, e4, _⟩ := sgs_cons l i h
      rw [e1, List.length_cons]
      have := ih (l.length - (i + s.n)) (by omega) (i + s.n) rfl
      omega
    · rw [sgs_end l i (by omega)]
      simp
theorem sgs_len (l : List UInt8) : (sgs l 0).length ≤ l.length := by
  have := sgs_bound l l.length 0 (by omega)
  exact this
end TG
namespace Go.Proofs.Ytepnillddlemaaa
open Go.RowKit Go.Shelf TG TG.Crc
attribute [local go_sem] Oper.semAt_some

/-- the box of the bytes that the iterator reads -/
def PB (Bb : Nat) (A : Option Addr) (c : Nat) (l : List UInt8) (W : World) : Prop := W.heap[Bb]? = some (.cells #[.slice A l.length c] 25 (0, 0))
/-- ahead of a round: out's box, what the iterator reads, what lay before; f: what is kept of what has come -/
def OfI (f : List PS → List Sg) (w : World) (A : Option Addr) (c : Nat) (l : List UInt8) (pre : List PS) (X : World) : Prop :=
  (∃ v, Boxed X w.heap.size 26 v ∧ Rd.seg.Own (fun b => b = w.heap.size) X w.heap.size 31 v (f pre)) ∧ PB (w.heap.size + 1) A c l X ∧ Below w.heap.size w X
theorem OfI.own (f : List PS → List Sg) (w : World) (A : Option Addr) (c : Nat) (l : List UInt8) (C : Nat) (hC : w.heap.size ≤ C) : OwnFrom C (OfI f w A c l) :=
  OwnFrom.and (holds_own C _ _ _ _ _ _) (OwnFrom.and (cells_own C _ _ _ _) (ownFrom_below (Nat.le_refl _) hC))
/-- in a round: the round's own part lies in a box, too -/
def OfA (f : List PS → List Sg) (w : World) (A : Option Addr) (c : Nat) (l : List UInt8) (pre : List PS) (y : PS) (Bx : Nat) (X : World) : Prop :=
  (∃ v, (Boxed X w.heap.size 26 v ∧ Rd.seg.Own (fun b => b = w.heap.size) X w.heap.size 31 v (f pre)) ∧ ∀ ad, y.2.1 = some ad → ad.block ≠ w.heap.size ∧ v.ownBlock ≠ some ad.block) ∧
  (PB (w.heap.size + 1) A c l X ∧ Below w.heap.size w X) ∧ RB X y.2.1 y.2.2 y.1.p ∧ X.heap[Bx]? = some (.cells (segC y).toArray 31 (0, 0))
theorem OfA.own (f : List PS → List Sg) (w : World) (A : Option Addr) (c : Nat) (l : List UInt8) (pre : List PS) (y : PS) (Bx C : Nat) (hC : w.heap.size ≤ C) : OwnFrom C (fun (_ : Unit) X => OfA f w A c l pre y Bx X) := by
  have h1 := OwnFrom.and (OwnFrom.and (cells_own (β := Unit) C (w.heap.size + 1) 25 (fun _ => #[.slice A l.length c]) (0, 0)) (ownFrom_below (B := C) (w₀ := w) (Nat.le_refl w.heap.size) hC))
    (OwnFrom.and (rb_own (β := Unit) C (fun _ => y.2.1) (fun _ => y.2.2) (fun _ => y.1.p)) (cells_own C Bx 31 (fun _ => (segC y).toArray) (0, 0)))
  rintro s W W' row ⟨⟨v, h2, h3⟩, h4⟩ hg hr
  refine ⟨⟨v, ?_, h3⟩, h1 () W W' row h4 hg hr⟩
  exact ⟨h2.1.kept hg (fun e => by
    obtain ⟨_, o, ho, hc⟩ := hr _ e.symm
    rw [show W.heap[w.heap.size]? = _ from h2.1] at ho
    cases ho
    simp [Obj.isCells] at hc), h2.2.kept hg (h2.2.noncells (fun r e => (hr r e).2))⟩
/-- a part is taken into out -/
theorem OfA.took {f : List PS → List Sg} {w : World} {A : Option Addr} {c : Nat} {l : List UInt8} {pre : List PS} {y : PS} {X W2 : World} {v v' : Value}
    (hb : Boxed X w.heap.size 26 v) (hv : Rd.seg.Own (fun b => b = w.heap.size) X w.heap.size 31 v (f pre)) (hp : PB (w.heap.size + 1) A c l X) (hB : Below w.heap.size w X)
    (hf : f (pre ++ [y]) = f pre ++ [y.1])
    (ho : Rd.seg.Own (fun b => b = w.heap.size) W2 w.heap.size 31 v' (f pre ++ [y.1])) (hg : (X.alloc (.cells (segC y).toArray 31)).grownBy W2 v.ownBlock) (hfr : ∀ g, v'.ownBlock = some g → v.ownBlock = some g ∨ (X.alloc (.cells (segC y).toArray 31)).heap.size ≤ g) (B : Nat) :
    KeepsFrom B X (W2.setCell ⟨w.heap.size, 0, none⟩ v') ∧ OfI f w A c l (pre ++ [y]) (W2.setCell ⟨w.heap.size, 0, none⟩ v') := by
  have hn := hv.not_box hb (by decide)
  have hs0 := hB.size
  have hx := hb.lt
  have hn' : v'.ownBlock ≠ some w.heap.size := fun e => by
    rcases hfr _ e with k | k
    · exact hn k
    · simp at k; omega
  have hb2 : Boxed W2 w.heap.size 26 v := (hb.alloc _).kept hg (fun e => hn e.symm)
  have hnp : v.ownBlock ≠ some (w.heap.size + 1) := hv.not_box (show Boxed X (w.heap.size + 1) 25 _ from hp) (by decide)
  have hp2 : Boxed W2 (w.heap.size + 1) 25 (.slice A l.length c) := ((show Boxed X (w.heap.size + 1) 25 _ from hp).alloc _).kept hg (fun e => hnp e.symm)
  have hB3 : Below w.heap.size w W2 := (hB.alloc hs0 _).grown hg (by simp; omega) (fun k e => hv.base k e)
  have k1 : KeepsOthers (X.alloc (.cells (segC y).toArray 31)) W2 := KeepsOthers.of_grownBy hg (fun r o e hr => by
    obtain ⟨F, css, _, h2, _⟩ := hv
    rcases h2.2 with ⟨rfl, _⟩ | ⟨g, cap, cur, rfl, _, hh, _⟩
    · simp [Value.ownBlock] at e
    · simp [Value.ownBlock] at e
      subst e
      rw [(Below.heap_alloc X (.cells (segC y).toArray 31) _ (Array.getElem?_eq_some_iff.1 hh).1).trans hh] at hr
      cases hr
      rfl)
  exact ⟨(((KeepsOthers.alloc X _).trans k1).trans (KeepsOthers.setCell _ _ _)).from _, ⟨v', hb2.set v', by rw [hf]; exact ho.setBox hn' v'⟩, hp2.other (by omega) v', hB3.setCell (p := ⟨w.heap.size, 0, none⟩) (Nat.le_refl _) v'⟩

/-- what stands where the loop begins -/
def ofW (w : World) (A : Option Addr) (c : Nat) (l : List UInt8) : World := (w.alloc (.cells #[.slice none 0 0] 26)).alloc (.cells #[.slice A l.length c] 25)
theorem ofW_size (w : World) (A : Option Addr) (c : Nat) (l : List UInt8) : (ofW w A c l).heap.size = w.heap.size + 2 := by simp [ofW]
theorem ofW_I (f : List PS → List Sg) (hf : f [] = []) (w : World) (A : Option Addr) (c : Nat) (l : List UInt8) : OfI f w A c l [] (ofW w A c l) := by
  refine ⟨⟨.slice none 0 0, (Boxed.new w _ _).alloc _, by rw [hf]; exact Rd.Own.nil _ _ _ _ _⟩, ?_, below_new (below_new (Below.refl _ _) _) _⟩
  have := Boxed.new (w.alloc (.cells #[.slice none 0 0] 26)) 25 (.slice A l.length c)
  rw [World.size_alloc] at this
  exact this

theorem OfA.enter {f : List PS → List Sg} {w : World} {A : Option Addr} {c : Nat} {l : List UInt8} {pre : List PS} {y : PS} {A0 X : World} (h0 : OfI f w A c l pre A0) (hB : Below A0.heap.size A0 X) (hy : RB X y.2.1 y.2.2 y.1.p) (hn : ∀ ad, y.2.1 = some ad → A0.heap.size ≤ ad.block) :
    OfA f w A c l pre y X.heap.size (X.alloc (.cells (segC y).toArray 31)) := by
  obtain ⟨⟨v, h1, h2⟩, h3, h4⟩ := h0
  refine ⟨⟨v, ⟨(show Boxed X _ 26 _ from (hB.block _ h1.lt).trans h1).alloc _, (h2.below hB).alloc _⟩, fun ad he => ?_⟩, ⟨((show Boxed X _ 25 _ from (hB.block _ (Array.getElem?_eq_some_iff.1 h3).1).trans h3).alloc _), below_new (h4.trans (hB.mono h4.size)) _⟩, hy.alloc _, World.alloc_heap_new X _⟩
  have := hn ad he
  have h5 := h1.lt
  refine ⟨by omega, fun e => ?_⟩
  have := h2.lt e
  omega
/-- what is read of a round's own part -/
theorem OfA.part {f : List PS → List Sg} {w : World} {A : Option Addr} {c : Nat} {l : List UInt8} {pre : List PS} {y : PS} {Bx : Nat} {X : World} {v : Value} (hy : RB X y.2.1 y.2.2 y.1.p) (hv : ∀ ad, y.2.1 = some ad → ad.block ≠ w.heap.size ∧ v.ownBlock ≠ some ad.block) (hw : w.heap.size < X.heap.size) (hl : ∀ g, v.ownBlock = some g → g < X.heap.size) :
    ∃ F : Nat → Prop, Rd.seg.S F (X.alloc (.cells (segC y).toArray 31)) (some ⟨X.heap.size, 0, none⟩) 1 [y.1] ∧ ∀ b, F b → isC (X.alloc (.cells (segC y).toArray 31)) b → ¬ b = w.heap.size ∧ v.ownBlock ≠ some b := by
  refine ⟨fun b => b = X.heap.size ∨ ∃ ad, y.2.1 = some ad ∧ b = ad.block, S_single (World.alloc_heap_new X _) (.inl rfl) ⟨y.2.1, y.2.2, rfl, Rd.u8_of_RB (hy.alloc _) fun ad he => .inr ⟨ad, he, rfl⟩⟩, ?_⟩
  rintro b (rfl | ⟨ad, he, rfl⟩) _
  · exact ⟨by omega, fun e => by have := hl _ e; omega⟩
  · exact hv ad he
theorem pre_len {l : List UInt8} {pre : List PS} {y : PS} (h : ((pre ++ [y]).map (·.1)) <+: sgs l 0) : pre.length + 1 ≤ l.length := by
  have h1 := h.length_le
  have h2 := sgs_len l
  simp at h1
  omega

set_option maxRecDepth 100000 in
set_option maxHeartbeats 2000000 in
theorem of_calls (A : Option Addr) (c : Nat) (l : List UInt8) (w : World) (hr : RB w A c l) (hl : l.length ≤ 1000000) :
    Calls Try.prog 16 #[.slice A l.length c] w fun e w' => ∃ v, e = .returned v ∧ Rd.seg.Own (fun _ => False) w' w.heap.size 31 v (sgs l 0) ∧ Below w.heap.size w w' := by
  refine (callsIn_wide (n := 5)).1 ?_
  refine callsIn_of_wp_marks Try.func16 rfl trivial ?_ rfl
  simp only [Try.ntmps16, List.size_toArray, List.length_cons, List.length_nil, Nat.reduceAdd, Nat.reduceSub, Array.replicate_succ, Array.replicate_zero, List.push_toArray, List.append_toArray, List.nil_append, List.cons_append]
  gi_wp2_with (refine ⟨trivial, ?_⟩; gi_at_call 66; refine (parts_in _ _ _ _ _).mono ?_; rintro e w2 ⟨rfl, rfl⟩)
  have hsz := ofW_size w A c l
  rw [show (w.alloc (.cells #[.slice none 0 0] 26)).alloc (.cells #[.slice A l.length c] 25) = ofW w A c l from rfl]
  refine Rf.rangeFunc_of rfl (by decide) (gf := 113) (lb := #[.pointer (some ⟨w.heap.size + 1, 0, none⟩)]) rfl trivial (enters_of Try.func113 (by kernel_rfl) rfl)
    (parts1_seq 4 (by decide) (w.heap.size + 1) A c l hr.2.1 hr.1) (fun _ => rfl)
    (OfI (fun pre => pre.map (·.1)) w A c l) (OfI.own _ _ _ _ _ _ (by rw [hsz]; omega)) (fun pre X h => ⟨hr.below h.2.2, h.2.1⟩) (ofW_I _ rfl w A c l)
    (fun pre y a' X => ∃ Bx, OfA (fun pre => pre.map (·.1)) w A c l pre y Bx X ∧ ((pre ++ [y]).map (·.1)) <+: sgs l 0 ∧ w.heap.size < Bx ∧ a' = { tmps := #[.slice A l.length c, undef, .slice none 0 0, .pointer (some ⟨w.heap.size, 0, none⟩), .pointer (some ⟨Bx, 0, none⟩), .slice A l.length c, .func (.func 113) #[] #[.pointer (some ⟨w.heap.size + 1, 0, none⟩)], .agg (segC y).toArray, undef, undef, undef, undef, undef], defers := [] })
    ?own ?assign ?body ?done
  case own =>
    rintro pre y a' X X' row ⟨Bx, h1, h2⟩ hg hrow
    exact ⟨Bx, OfA.own _ _ _ _ _ _ _ _ _ (by rw [hsz]; omega) () X X' row h1 hg hrow, h2⟩
  case assign =>
    rintro lp pre y A0 X K hI0 hB0 hI ⟨hpf, hry, hny⟩ hK
    have hE := OfA.enter hI0 hB0 hry hny
    have hlt := hI.1.choose_spec.1.lt
    obtain ⟨⟨fr, n, is, k, p⟩, A1, c1⟩ := y
    dsimp only [segC]
    gi_wp2
    exact hK _ _ ((KeepsOthers.alloc _ _).from _) ⟨X.heap.size, hE, hpf, hlt, rfl⟩
  case body =>
    rintro lp pre y a' X hlp ⟨rec, hrec⟩ ⟨Bx, ⟨⟨v, ⟨hb, hv⟩, hx⟩, ⟨hp, hB⟩, hry, hbx⟩, hpf, hBx, rfl⟩
    obtain ⟨F, hS, hF⟩ := OfA.part (f := fun pre => pre.map (·.1)) (A := A) (c := c) (l := l) (pre := pre) (Bx := Bx) hry hx hb.lt (fun g e => hv.lt e)
    have hpl := pre_len hpf
    obtain ⟨⟨fr, n, is, k, p⟩, A1, c1⟩ := y
    dsimp only [segC] at hbx hS hF ⊢
    have hc := hb.cell
    have hk := Blk.cell (t := 31) hbx
    have hk0 := hk 0
    have hk1 := hk 1
    have hk2 := hk 2
    have hk3 := hk 3
    have hk4 := hk 4
    simp only [List.getElem?_cons_zero, List.getElem?_cons_succ] at hk0 hk1 hk2 hk3 hk4
    have hsz1 := hB.size
    clear hk
    have hnb := hv.not_box hb (by decide)
    have Hnb := Lib.hid hnb
    clear hnb
    gi_wp2_with (gi_at_builtin; go_loud (refine wpListIn_appS Rd.cb_seg rfl _ _ 26 rfl (fun b => b = w.heap.size) w.heap.size 31 56 seg_type v (pre.map (·.1)) rfl (hv.alloc _) (some ⟨X.heap.size, 0, none⟩) 1 1 F [⟨fr, n, is, k, p⟩] rfl rfl hS hF (by simp; omega) (by simp; omega) (by simp; omega) ?_); intro A' c' w3 hown' hgrow hfr; have hb2 := (hb.alloc _).kept hgrow (fun e => Hnb.out e.symm); have hc1 := hb2.cell; have hf1 := hb2.frozen; have HG := Lib.hid hgrow; have HO := Lib.hid hown'; have HFR := Lib.hid hfr; clear hgrow hown' hfr hb2)
    have := OfA.took (y := (⟨fr, n, is, k, p⟩, A1, c1)) hb hv hp hB (by simp) HO.out HG.out HFR.out (w.heap.size + 2)
    rw [List.length_append, List.length_map] at this
    exact this
  case done =>
    rintro xs X hS ⟨⟨v, hb, hv⟩, hp, hB⟩ hK
    have hc := hb.cell
    rw [hsz] at hK
    gi_wp2
    refine ⟨by simp, .inl ⟨_, _, rfl, run_takeDeferred hK, ?_⟩⟩
    refine ⟨_, results_tmp rfl _ _ _, v, rfl, ?_, hB.trans (belowK_b (w := w) (Nat.le_refl _) X _ _ _ (by omega) hK rfl rfl)⟩
    rw [← show xs.map (·.1) = sgs l 0 from hS]
    exact (hv.kept (grownBy_putObj' X _ _) (hv.noncells (fun r e => by cases e; exact ⟨_, hK, rfl⟩))).weak (fun b h => h.elim)
set_option maxRecDepth 100000 in
set_option maxHeartbeats 2000000 in
theorem frames_calls (A : Option Addr) (c : Nat) (l : List UInt8) (w : World) (hr : RB w A c l) (hl : l.length ≤ 1000000) :
    Calls Try.prog 33 #[.slice A l.length c] w fun e w' => ∃ v, e = .returned v ∧ Rd.seg.Own (fun _ => False) w' w.heap.size 31 v ((sgs l 0).filter (·.is)) ∧ Below w.heap.size w w' := by
  refine (callsIn_wide (n := 5)).1 ?_
  refine callsIn_of_wp_marks Try.func33 rfl trivial ?_ rfl
  simp only [Try.ntmps33, List.size_toArray, List.length_cons, List.length_nil, Nat.reduceAdd, Nat.reduceSub, Array.replicate_succ, Array.replicate_zero, List.push_toArray, List.append_toArray, List.nil_append, List.cons_append]
  gi_wp2_with (refine ⟨trivial, ?_⟩; gi_at_call 66; refine (parts_in _ _ _ _ _).mono ?_; rintro e w2 ⟨rfl, rfl⟩)
  have hsz := ofW_size w A c l
  rw [show (w.alloc (.cells #[.slice none 0 0] 26)).alloc (.cells #[.slice A l.length c] 25) = ofW w A c l from rfl]
  refine Rf.rangeFunc_of rfl (by decide) (gf := 113) (lb := #[.pointer (some ⟨w.heap.size + 1, 0, none⟩)]) rfl trivial (enters_of Try.func113 (by kernel_rfl) rfl)
    (parts1_seq 4 (by decide) (w.heap.size + 1) A c l hr.2.1 hr.1) (fun _ => rfl)
    (OfI (fun pre => (pre.map (·.1)).filter (·.is)) w A c l) (OfI.own _ _ _ _ _ _ (by rw [hsz]; omega)) (fun pre X h => ⟨hr.below h.2.2, h.2.1⟩) (ofW_I _ rfl w A c l)
    (fun pre y a' X => ∃ Bx, OfA (fun pre => (pre.map (·.1)).filter (·.is)) w A c l pre y Bx X ∧ ((pre ++ [y]).map (·.1)) <+: sgs l 0 ∧ w.heap.size < Bx ∧ a' = { tmps := #[.slice A l.length c, undef, .slice none 0 0, .pointer (some ⟨w.heap.size, 0, none⟩), .pointer (some ⟨Bx, 0, none⟩), .slice A l.length c, .func (.func 113) #[] #[.pointer (some ⟨w.heap.size + 1, 0, none⟩)], .agg (segC y).toArray, undef, undef, undef, undef, undef, undef, undef], defers := [] })
    ?own ?assign ?body ?done
  case own =>
    rintro pre y a' X X' row ⟨Bx, h1, h2⟩ hg hrow
    exact ⟨Bx, OfA.own _ _ _ _ _ _ _ _ _ (by rw [hsz]; omega) () X X' row h1 hg hrow, h2⟩
  case assign =>
    rintro lp pre y A0 X K hI0 hB0 hI ⟨hpf, hry, hny⟩ hK
    have hE := OfA.enter hI0 hB0 hry hny
    have hlt := hI.1.choose_spec.1.lt
    obtain ⟨⟨fr, n, is, k, p⟩, A1, c1⟩ := y
    dsimp only [segC]
    gi_wp2
    exact hK _ _ ((KeepsOthers.alloc _ _).from _) ⟨X.heap.size, hE, hpf, hlt, rfl⟩
  case body =>
    rintro lp pre y a' X hlp ⟨rec, hrec⟩ ⟨Bx, ⟨⟨v, ⟨hb, hv⟩, hx⟩, ⟨hp, hB⟩, hry, hbx⟩, hpf, hBx, rfl⟩
    obtain ⟨F, hS, hF⟩ := OfA.part (f := fun pre => pre.map (·.1)) (A := A) (c := c) (l := l) (pre := pre) (Bx := Bx) hry hx hb.lt (fun g e => hv.lt e)
    have hpl := pre_len hpf
    obtain ⟨⟨fr, n, is, k, p⟩, A1, c1⟩ := y
    dsimp only [segC] at hbx hS hF ⊢
    have hc := hb.cell
    have hk := Blk.cell (t := 31) hbx
    have hk0 := hk 0
    have hk1 := hk 1
    have hk2 := hk 2
    have hk3 := hk 3
    have hk4 := hk 4
    simp only [List.getElem?_cons_zero, List.getElem?_cons_succ] at hk0 hk1 hk2 hk3 hk4
    have hsz1 := hB.size
    clear hk
    have hnb := hv.not_box hb (by decide)
    have Hnb := Lib.hid hnb
    clear hnb
    have hfl : ((pre.map (·.1)).filter (·.is)).length ≤ pre.length := Nat.le_trans (List.length_filter_le _ _) (by simp)
    cases is with
    | false =>
      gi_wp2
      exact ⟨KeepsFrom.refl _ _, ⟨v, hb, by simpa using hv⟩, hp, hB⟩
    | true =>
    dsimp only at hv hx hry
    have Hv := Lib.hid hv
    obtain ⟨fl, hfl2⟩ : ∃ fl, fl = (pre.map (·.1)).filter (·.is) := ⟨_, rfl⟩
    rw [← hfl2] at hv hfl
    have Hfl := Lib.hid hfl2
    clear hfl2
    gi_wp2_with (gi_at_builtin; go_loud (refine wpListIn_appS Rd.cb_seg rfl _ _ 26 rfl (fun b => b = w.heap.size) w.heap.size 31 56 seg_type v fl rfl (hv.alloc _) (some ⟨X.heap.size, 0, none⟩) 1 1 F [⟨fr, n, true, k, p⟩] rfl rfl hS hF (by simp; omega) (by simp; omega) (by simp; omega) ?_); intro A' c' w3 hown' hgrow hfr; have hb2 := (hb.alloc _).kept hgrow (fun e => Hnb.out e.symm); have hc1 := hb2.cell; have hf1 := hb2.frozen; have HG := Lib.hid hgrow; have HO := Lib.hid hown'; have HFR := Lib.hid hfr; clear hgrow hown' hfr hb2)
    have HO' := HO.out
    have HFR' := HFR.out
    rw [Hfl.out] at HO' HFR'
    have := OfA.took (f := fun pre => (pre.map (·.1)).filter (·.is)) (y := (⟨fr, n, true, k, p⟩, A1, c1)) hb Hv.out hp hB (by simp) HO' HG.out HFR' (ofW w A c l).heap.size
    rw [List.length_append] at this
    rw [Hfl.out]
    exact this
  case done =>
    rintro xs X hS ⟨⟨v, hb, hv⟩, hp, hB⟩ hK
    have hc := hb.cell
    rw [hsz] at hK
    gi_wp2
    refine ⟨by simp, .inl ⟨_, _, rfl, run_takeDeferred hK, ?_⟩⟩
    refine ⟨_, results_tmp rfl _ _ _, v, rfl, ?_, hB.trans (belowK_b (w := w) (Nat.le_refl _) X _ _ _ (by omega) hK rfl rfl)⟩
    rw [← show xs.map (·.1) = sgs l 0 from hS]
    exact (hv.kept (grownBy_putObj' X _ _) (hv.noncells (fun r e => by cases e; exact ⟨_, hK, rfl⟩))).weak (fun b h => h.elim)

/-- how many bytes are skipped in parts -/
def skN (ys : List Sg) : Nat := (ys.map fun s => if s.is then 0 else s.n).sum
theorem sgs_sum (l : List UInt8) : ∀ (m i : Nat), l.length - i = m → ((sgs l i).map (·.n)).sum = m := by
  intro m
  induction m using Nat.strongRecOn with
  | _ m ih =>
    intro i hm
    by_cases h : i < l.length
    · obtain ⟨s, e1, e2, e3, e4, _⟩ := sgs_cons l i h
      rw [e1, List.map_cons, List.sum_cons, ih (l.length - (i + s.n)) (by omega) (i + s.n) rfl]
      omega
    · rw [sgs_end l i (by omega)]
      simp
      omega
theorem skN_le (ys : List Sg) : skN ys ≤ (ys.map (·.n)).sum := by
  induction ys with
  | nil => simp [skN]
  | cons y ys ih =>
    unfold skN at *
    simp only [List.map_cons, List.sum_cons]
    split <;> omega
theorem skN_snoc (ys : List Sg) (y : Sg) : skN (ys ++ [y]) = skN ys + if y.is then 0 else y.n := by simp [skN]
theorem skN_pre {l : List UInt8} {ys : List Sg} (h : ys <+: sgs l 0) : skN ys ≤ l.length := by
  obtain ⟨t, ht⟩ := h
  have h1 := sgs_sum l l.length 0 (by omega)
  rw [← ht, List.map_append, List.sum_append] at h1
  have := skN_le ys
  omega
/-- ahead of a round of Skipped -/
def SkI (w : World) (A : Option Addr) (c : Nat) (l : List UInt8) (pre : List PS) (X : World) : Prop :=
  X.heap[w.heap.size]? = some (.cells #[.int .i64 (skN (pre.map (·.1)) : Nat)] 3 (0, 0)) ∧ PB (w.heap.size + 1) A c l X ∧ Below w.heap.size w X
theorem SkI.own (w : World) (A : Option Addr) (c : Nat) (l : List UInt8) (C : Nat) (hC : w.heap.size ≤ C) : OwnFrom C (SkI w A c l) :=
  OwnFrom.and (cells_own C _ _ _ _) (OwnFrom.and (cells_own C _ _ _ _) (ownFrom_below (Nat.le_refl _) hC))
theorem SkI.below {w : World} {A : Option Addr} {c : Nat} {l : List UInt8} {pre : List PS} {X Y : World} (h : SkI w A c l pre X) (hB : Below X.heap.size X Y) : SkI w A c l pre Y :=
  SkI.own w A c l w.heap.size (Nat.le_refl _) pre X Y none h ⟨hB.os, hB.tape, hB.output, hB.size, fun k hk _ => hB.block k hk⟩ (fun r e => by cases e)

set_option maxRecDepth 100000 in
set_option maxHeartbeats 2000000 in
theorem skipped_calls (A : Option Addr) (c : Nat) (l : List UInt8) (w : World) (hr : RB w A c l) (hl : l.length ≤ 1000000) :
    Calls Try.prog 35 #[.slice A l.length c] w fun e w' => e = .returned (.int .i64 (skN (sgs l 0) : Nat)) ∧ Below w.heap.size w w' := by
  refine (callsIn_wide (n := 5)).1 ?_
  refine callsIn_of_wp_marks Try.func35 rfl trivial ?_ rfl
  simp only [Try.ntmps35, List.size_toArray, List.length_cons, List.length_nil, Nat.reduceAdd, Nat.reduceSub, Array.replicate_succ, Array.replicate_zero, List.push_toArray, List.append_toArray, List.nil_append, List.cons_append]
  gi_wp2_with (refine ⟨trivial, ?_⟩; gi_at_call 66; refine (parts_in _ _ _ _ _).mono ?_; rintro e w2 ⟨rfl, rfl⟩)
  obtain ⟨W, hW⟩ : ∃ W, (w.alloc (.cells #[.int .i64 0] 3)).alloc (.cells #[.slice A l.length c] 25) = W := ⟨_, rfl⟩
  have hsz : W.heap.size = w.heap.size + 2 := by rw [← hW]; simp
  have h0 : SkI w A c l [] W := by
    rw [← hW]
    refine ⟨(Boxed.new w 3 (.int .i64 0)).alloc _, ?_, below_new (below_new (Below.refl _ _) _) _⟩
    have := Boxed.new (w.alloc (.cells #[.int .i64 0] 3)) 25 (.slice A l.length c)
    rw [World.size_alloc] at this
    exact this
  rw [hW]
  clear hW
  refine Rf.rangeFunc_of rfl (by decide) (gf := 113) (lb := #[.pointer (some ⟨w.heap.size + 1, 0, none⟩)]) rfl trivial (enters_of Try.func113 (by kernel_rfl) rfl)
    (parts1_seq 4 (by decide) (w.heap.size + 1) A c l hr.2.1 hr.1) (fun _ => rfl)
    (SkI w A c l) (SkI.own _ _ _ _ _ (by rw [hsz]; omega)) (fun pre X h => ⟨hr.below h.2.2, h.2.1⟩) h0
    (fun pre y a' X => ∃ Bx, (SkI w A c l pre X ∧ X.heap[Bx]? = some (.cells (segC y).toArray 31 (0, 0))) ∧ ((pre ++ [y]).map (·.1)) <+: sgs l 0 ∧ w.heap.size < Bx ∧ a' = { tmps := #[.slice A l.length c, undef, .int .i64 0, .pointer (some ⟨w.heap.size, 0, none⟩), .pointer (some ⟨Bx, 0, none⟩), .slice A l.length c, .func (.func 113) #[] #[.pointer (some ⟨w.heap.size + 1, 0, none⟩)], .agg (segC y).toArray, undef, undef, undef, undef, undef, undef, undef, undef], defers := [] })
    ?own ?assign ?body ?done
  case own =>
    rintro pre y a' X X' row ⟨Bx, h1, h2⟩ hg hrow
    exact ⟨Bx, OwnFrom.and (SkI.own w A c l _ (by omega)) (cells_own (β := List PS) W.heap.size Bx 31 (fun _ => (segC y).toArray) (0, 0)) pre X X' row h1 hg hrow, h2⟩
  case assign =>
    rintro lp pre y A0 X K hI0 hB0 hI ⟨hpf, hry, hny⟩ hK
    have hlt : w.heap.size < X.heap.size := (Array.getElem?_eq_some_iff.1 hI.1).1
    obtain ⟨⟨fr, n, is, k, p⟩, A1, c1⟩ := y
    dsimp only [segC]
    gi_wp2
    exact hK _ _ ((KeepsOthers.alloc _ _).from _) ⟨X.heap.size, ⟨hI.below ((Below.refl _ _).alloc (Nat.le_refl _) _), World.alloc_heap_new X _⟩, hpf, hlt, rfl⟩
  case body =>
    rintro lp pre y a' X hlp ⟨rec, hrec⟩ ⟨Bx, ⟨⟨hb, hp, hB⟩, hbx⟩, hpf, hBx, rfl⟩
    obtain ⟨⟨fr, n, is, k, p⟩, A1, c1⟩ := y
    have hbd := skN_pre hpf
    rw [List.map_append, List.map_cons, List.map_nil, skN_snoc] at hbd
    dsimp only [segC] at hbx hbd ⊢
    have hc := Blk.cell (t := 3) hb 0
    have hf := Blk.frozen (t := 3) hb 0
    have hk1 := Blk.cell (t := 31) hbx 1
    have hk2 := Blk.cell (t := 31) hbx 2
    simp only [List.getElem?_cons_zero, List.getElem?_cons_succ] at hc hk1 hk2
    have hfin : ∀ m : Nat, skN ((pre ++ [((⟨fr, n, is, k, p⟩ : Sg), A1, c1)]).map (·.1)) = m → SkI w A c l (pre ++ [(⟨fr, n, is, k, p⟩, A1, c1)]) (X.setCell ⟨w.heap.size, 0, none⟩ (.int .i64 (m : Nat))) := fun m hm =>
      ⟨by rw [hm]; exact Boxed.set (t := 3) _ hb, (show Boxed X (w.heap.size + 1) 25 _ from hp).other (by omega) _, hB.setCell (p := ⟨w.heap.size, 0, none⟩) (Nat.le_refl _) _⟩
    have Hfin := Lib.hid hfin
    have hsn := skN_snoc (pre.map (·.1)) ⟨fr, n, is, k, p⟩
    have Hsn := Lib.hid hsn
    obtain ⟨S, hS⟩ : ∃ S, S = skN (pre.map (·.1)) := ⟨_, rfl⟩
    rw [← hS] at hbd hc
    have HS := Lib.hid hS
    have Hb := Lib.hid hb
    clear hsn hfin hb hS
    cases is with
    | true =>
      gi_wp2
      refine ⟨KeepsFrom.refl _ _, ?_, hp, hB⟩
      have := Hsn.out
      rw [List.map_append, List.map_cons, List.map_nil, this]
      exact Hb.out
    | false =>
      simp only [if_neg (show ¬ (false = true) from by decide)] at hbd
      gi_wp2
      refine ⟨(KeepsOthers.setCell _ _ _).from _, ?_⟩
      have := Hfin.out (S + n) (by rw [List.map_append, List.map_cons, List.map_nil, Hsn.out, ← HS.out]; rfl)
      rw [show ((S + n : Nat) : Int) = (S : Int) + (n : Int) from by omega] at this
      exact this
  case done =>
    rintro xs X hS ⟨hb, hp, hB⟩ hK
    have hc := Blk.cell (t := 3) hb 0
    simp only [List.getElem?_cons_zero] at hc
    gi_wp2
    refine ⟨by simp, .inl ⟨_, _, rfl, run_takeDeferred hK, ?_⟩⟩
    refine ⟨_, results_tmp rfl _ _ _, ?_, hB.trans (belowK_b (w := w) (Nat.le_refl _) X _ _ _ (by omega) hK rfl rfl)⟩
    rw [← show xs.map (·.1) = sgs l 0 from hS]
    rfl
end Go.Proofs.Ytepnillddlemaaa
