/- Package feed: tell, parts. Conditions stand in each theorem. Package feed: parts. Conditions stand in each theorem. -/
import Derived.Test.YtepnillddlemaaaFeed2
set_option linter.unusedVariables false
set_option linter.unusedSimpArgs false
namespace Go.Proofs.Ytepnillddlemaaa
open Go.RowKit Go.Shelf TG TG.Crc
attribute [local go_sem] Oper.semAt_some

set_option maxRecDepth 100000 in
set_option maxHeartbeats 1000000 in
theorem tell_calls (w : World) (Bf base : Nat) (v : Value) (A : Option Addr) (c : Nat) (out : List Sg) (P sk : Nat) (cl : Bool) (X : Nat → Prop) (hb : Fd w Bf v P sk cl)
    (ho : Rd.seg.Own X w base 31 (.slice A out.length c) out) (hX : ∀ b, X b → b < w.heap.size) (hs : sk ≤ P) (hP : P ≤ 1000000000000) (hl : out.length ≤ 1000000) (hbase : base ≤ w.heap.size) :
    Calls Try.prog 90 #[.pointer (some ⟨Bf, 0, none⟩), .slice A out.length c] w fun e w' => ∃ A' c', e = .returned (.slice A' (out ++ tl sk P).length c') ∧ 
      Rd.seg.Own X w' base 31 (.slice A' (out ++ tl sk P).length c') (out ++ tl sk P) ∧ But (fun b => (Value.slice A out.length c).ownBlock = some b) w w' ∧
      (∀ g, (Value.slice A' (out ++ tl sk P).length c').ownBlock = some g → (Value.slice A out.length c).ownBlock = some g ∨ w.heap.size ≤ g) := by
  have Hb := Lib.hid hb
  have x0 : ∀ d os, (Sort.grow (redrawn w d) os).cell? ⟨Bf, 1, none⟩ = some (.int .i64 (P : Int)) := fun d os => (Hb.out.below (below_regrown w d os)).cell 1
  have x1 : ∀ d os, (Sort.grow (redrawn w d) os).cell? ⟨Bf, 2, none⟩ = some (.int .i64 (sk : Int)) := fun d os => (Hb.out.below (below_regrown w d os)).cell 2
  by_cases hlt : sk < P
  · have htl : tl sk P = [skp sk (P - sk)] := if_pos hlt
    rw [htl]
    have hln : (out ++ [skp sk (P - sk)]).length = out.length + 1 := by simp
    generalize hon : out ++ [skp sk (P - sk)] = on at *
    have Hown := Lib.hid (fun W (hW : Below w.heap.size w W) => ho.below hW)
    have Hon := Lib.hid hon
    have HX := Lib.hid hX
    have Holt := Lib.hid (show ∀ g, (Value.slice A out.length c).ownBlock = some g → g < w.heap.size from fun g e => ho.lt (g := g) e)
    have hwr : IntKind.i64.wrap ((P : Int) - (sk : Int)) = (P : Int) - (sk : Int) := by simp [IntKind.wrap, IntKind.min, IntKind.max, IntKind.signed, IntKind.bits]; omega
    have HS := Lib.hid (fun (W : World) (g : Nat) (hg : W.heap[g]? = some (.cells #[.int .i64 (sk : Int), .int .i64 (IntKind.i64.wrap ((P : Int) - (sk : Int))), .bool false, .int .i64 0, .slice none 0 0] 31 (0, 0))) => S_single (d := Rd.seg) (F := fun b => b = g) (x := skp sk (P - sk)) hg rfl
      ⟨none, 0, by rw [hwr]; simp [segC, skp]; omega, Rd.S_nil _ _ _ _⟩)
    clear hwr
    have j1 : (sk : Int) < (P : Int) := by omega
    have j2 : (0 : Int) ≤ (sk : Int) := Int.natCast_nonneg _
    have j3 : (P : Int) ≤ 1000000000000 := by omega
    clear hb ho hX hon htl
    go_enter Try.func90, Try.ntmps90
    go_wp2_with fail
    refine wp_region_quiet_below (by kernel_rfl) (by kernel_rfl) ?_
    repeat (first | go_big_quiet_step (fail) | quiet_step (fail))
    refine wpQuiet_nil ?_
    intro _ hw'
    obtain ⟨⟨dq, osq⟩, hw''⟩ := hw'
    subst hw''
    have hB1 := below_regrown w dq osq
    have y0 := x0 dq osq
    have y1 := x1 dq osq
    generalize Sort.grow (redrawn w dq) osq = w1 at *
    have HB1 := Lib.hid hB1
    have HB1d : RowKit.Hid (Below w.heap.size w w1.drew) := hB1.drew
    have hs1 := hB1.size
    clear x0 x1 hB1
    go_wp2_with fail
    go_region_law (first
      | ((refine step_appS Rd.cb_seg rfl _ _ 26 (by rfl) X base 31 56 seg_type (.slice A out.length c) out (by rfl) (Hown.out _ (by first | exact below_new HB1.out _ | exact below_new HB1d.out _ | exact (below_new HB1.out _).drew)) (some ⟨w1.heap.size, 0, none⟩) 1 1 (fun b => b = w1.heap.size) [skp sk (P - sk)] rfl (by rfl) (HS.out _ _ (by first | exact World.alloc_heap_new w1 _ | exact World.alloc_heap_new w1.drew _)) (fun b hb _ => ⟨fun k => by have := HX.out b k; omega, fun k => by have := Holt.out b k; omega⟩) (by simp; omega) (by simp; omega) (by simp; omega) ?_); intro A2 c2 w2 hown2 hgrow2 hnew2; rw [Hon.out] at hown2 hnew2 ⊢))
    all_goals
      clear y0 y1
      go_wp2
      go_ret
      refine ⟨A2, c2, by rw [hln]; rfl, hown2, (But.of_below (by first | exact below_new HB1.out _ | exact below_new HB1d.out _ | exact (below_new HB1.out _).drew) (fun b => (Value.slice A out.length c).ownBlock = some b)).trans (But.of_grown hgrow2 (fun b => (Value.slice A out.length c).ownBlock = some b) (fun r e => e)) (fun _ k => k) (fun _ k => .inl k), fun g e => ?_⟩
      rcases hnew2 g e with k | k
      · exact .inl k
      · refine .inr (Nat.le_trans ?_ k)
        simp
        omega
  · have htl : tl sk P = [] := if_neg hlt
    rw [htl, List.append_nil]
    have Ho := Lib.hid ho
    have j1 : (P : Int) ≤ (sk : Int) := by omega
    have j4 : decide ((sk : Int) < (P : Int)) = false := by simp; omega
    clear ho hX htl hb
    go_enter Try.func90, Try.ntmps90
    go_wp2_with fail
    refine wp_region_quiet_below (by kernel_rfl) (by kernel_rfl) ?_
    repeat (first | go_big_quiet_step (fail) | quiet_step (fail))
    refine wpQuiet_nil ?_
    intro _ hw'
    obtain ⟨⟨dq, osq⟩, hw''⟩ := hw'
    subst hw''
    have hB1 := below_regrown w dq osq
    generalize Sort.grow (redrawn w dq) osq = w1 at *
    clear x0 x1
    go_wp2
    go_ret
    exact ⟨A, c, rfl, Ho.out.below hB1, But.of_below hB1 _, fun g e => .inl e⟩
end Go.Proofs.Ytepnillddlemaaa
namespace Go.Proofs.Ytepnillddlemaaa
open Go.RowKit Go.Shelf TG TG.Crc
attribute [local go_sem] Oper.semAt_some

theorem own_dig {w : World} {base base' : Nat} {e : TypeId} {size n : Nat} {v : Value} {xs : List Value} (h : w.ownsRow base e size v n xs) (hb : base' ≤ base) : w.ownsRow base' e size v n xs := by
  refine ⟨h.1, ?_⟩
  rcases h.2 with k | ⟨g, cap, cur, k1, k2, k3⟩
  · exact .inl k
  · exact .inr ⟨g, cap, cur, k1, Nat.le_trans hb k2, k3⟩
theorem own_step {α : Type} {d : Rd α} {D X X' : Nat → Prop} {w w' : World} {base : Nat} {e : TypeId} {v : Value} {l : List α} (ho : d.Own X w base e v l) (h : But D w w') (hd : ∀ b, D b → X b ∧ v.ownBlock ≠ some b) (hX : ∀ b, X' b → X b ∨ w.heap.size ≤ b) : d.Own X' w' base e v l :=
  (h.own (ho.more (X' := fun b => X b ∨ X' b) (fun b k => k.elim .inl (hX b))) (fun b k => ⟨.inl (hd b k).1, (hd b k).2⟩)).weak (fun _ k => .inr k)
/-- the same, and what was there at first -/
def XG (w : World) (Bf : Nat) (v : Value) (b : Nat) : Prop := XF Bf v b ∨ b < w.heap.size
/-- what holds ahead of a round: what was told (vo), what is held (vh); v0: what was held at first -/
structure PI (w : World) (Bf : Nat) (v0 : Value) (cl : Bool) (l : List UInt8) (wr : World) (A : Option Addr) (c : Nat) (done : List Sg) (A3 : Option Addr) (c3 P sk : Nat) : Prop where
  own : Rd.seg.Own (XG w Bf (.slice A3 (l.drop P).length c3)) wr w.heap.size 31 (.slice A done.length c) done
  far : ∀ b, (Value.slice A done.length c).ownBlock = some b → ¬ XF Bf (.slice A3 (l.drop P).length c3) b
  fd : Fd wr Bf (.slice A3 (l.drop P).length c3) P sk cl
  row : wr.ownsRow 0 5 1 (.slice A3 (l.drop P).length c3) (l.drop P).length (bc (l.drop P))
  new : ∀ g, (Value.slice A3 (l.drop P).length c3).ownBlock = some g → XF Bf v0 g ∨ w.heap.size ≤ g
  but : But (XF Bf v0) w wr
  le : sk ≤ P
  lt : P ≤ l.length


section
variable {w wr w1 w2 : World} {Bf : Nat} {v0 : Value} {cl : Bool} {l : List UInt8} {A A2 A3 A4 : Option Addr} {c c2 c3 c4 P sk b : Nat} {done done2 : List Sg}
theorem PI.size (h : PI w Bf v0 cl l wr A c done A3 c3 P sk) : w.heap.size ≤ wr.heap.size := h.but.size
theorem PI.below (h : PI w Bf v0 cl l wr A c done A3 c3 P sk) (hB : Below wr.heap.size wr w1) : PI w Bf v0 cl l w1 A c done A3 c3 P sk :=
  ⟨h.own.below hB, h.far, h.fd.below hB, own_below h.row hB, h.new, h.but.trans (But.of_below hB (XF Bf v0)) (fun _ k => k) (fun _ k => .inl k), h.le, h.lt⟩
theorem PI.dropped (h : PI w Bf v0 cl l wr A c done A3 c3 P sk) (hfd : Fd w2 Bf (.slice A4 (l.drop b).length c4) b sk cl)
    (hrow : w2.ownsRow wr.heap.size 5 1 (.slice A4 (l.drop b).length c4) (l.drop b).length (bc (l.drop b))) (hbut : But (XF Bf (.slice A3 (l.drop P).length c3)) wr w2) (hPb : P ≤ b) (hbl : b ≤ l.length) : PI w Bf v0 cl l w2 A c done A4 c4 b sk := by
  have hs := h.size
  refine ⟨own_step h.own hbut (fun x k => ⟨.inl k, fun e => h.far x e k⟩) (fun x k => ?_), fun x e k => ?_, hfd, own_dig hrow (Nat.zero_le _), fun g e => .inr (by have := (hrow.lt g e).1; omega), h.but.trans hbut (fun _ k => k) (fun x k => ?_), by have := h.le; omega, hbl⟩
  · rcases k with (k | k) | k
    · exact .inl (.inl (.inl k))
    · exact .inr (hrow.lt x k).1
    · exact .inl (.inr k)
  · rcases k with k | k
    · exact h.far x e (.inl k)
    · have h1 := (hrow.lt x k).1
      have h2 := h.own.lt e
      omega
  · rcases k with k | k
    · exact .inl (.inl k)
    · exact h.new x k
theorem PI.told (h : PI w Bf v0 cl l wr A c done A3 c3 P sk) (hown : Rd.seg.Own (XG w Bf (.slice A3 (l.drop P).length c3)) w2 w.heap.size 31 (.slice A2 done2.length c2) done2)
    (hbut : But (fun x => (Value.slice A done.length c).ownBlock = some x) wr w2) (hnew : ∀ g, (Value.slice A2 done2.length c2).ownBlock = some g → (Value.slice A done.length c).ownBlock = some g ∨ wr.heap.size ≤ g) : PI w Bf v0 cl l w2 A2 c2 done2 A3 c3 P sk := by
  have hBl := h.fd.lt
  refine ⟨hown, fun x e k => ?_, hbut.blk h.fd (fun e => h.far _ e (.inl rfl)), hbut.row h.row (fun x e k => h.far x k (.inr e)), h.new, h.but.trans hbut (fun _ k => k) (fun x k => .inr (h.own.base x k)), h.le, h.lt⟩
  rcases hnew x e with k1 | k1
  · exact h.far x k1 k
  · rcases k with k2 | k2
    · omega
    · have := (h.row.lt x k2).2
      omega
theorem PI.skip (h : PI w Bf v0 cl l wr A c done A3 c3 P sk) : PI w Bf v0 cl l (wr.setCell ⟨Bf, 2, none⟩ (.int .i64 (P : Int))) A c done A3 c3 P P := by
  have hb : But (fun x => x = Bf) wr (wr.setCell ⟨Bf, 2, none⟩ (.int .i64 (P : Int))) := But.set _ _ _ rfl
  have hne : (Value.slice A3 (l.drop P).length c3).ownBlock ≠ some Bf := fun e => by
    have := blk_not h.fd h.row (by decide)
    exact this e.symm
  refine ⟨hb.own h.own (fun x k => ⟨.inl (.inl k), fun e => h.far x e (.inl k)⟩), h.far, h.fd.set 2 _, hb.row h.row (fun x e k => hne (by rw [e, k])), h.new, h.but.trans hb (fun _ k => k) (fun x k => .inl (.inl k)), Nat.le_refl _, h.lt⟩
/-- what one call has done, seen from ahead of it: w1 is where it begins -/
theorem PI.outer {Ai Ao : Option Addr} {ci co P' sk' : Nat} {s : List Sg} {cl' : Bool} (h : PI w Bf v0 cl l w1 A c done A3 c3 P sk) (k : PI w1 Bf (.slice A3 (l.drop P).length c3) cl' l w2 Ai ci s Ao co P' sk') : PI w Bf v0 cl' l w2 A c done Ao co P' sk' := by
  have hs := h.size
  refine ⟨own_step h.own k.but (fun x k => ⟨.inl k, fun e => h.far x e k⟩) (fun x q => ?_), fun x e q => ?_, k.fd, k.row, fun g e => ?_, h.but.trans k.but (fun _ q => q) (fun x q => ?_), k.le, k.lt⟩
  · rcases q with (q | q) | q
    · exact .inl (.inl (.inl q))
    · exact (k.new x q).elim (fun q2 => .inl (.inl q2)) .inr
    · exact .inl (.inr q)
  · rcases q with q | q
    · exact h.far x e (.inl q)
    · rcases k.new x q with q2 | q2
      · exact h.far x e q2
      · have := h.own.lt e; omega
  · rcases k.new g e with q | q
    · exact q.elim (fun q => .inl (.inl q)) (fun q => h.new g q)
    · exact .inr (by omega)
  · exact q.elim (fun q => .inl (.inl q)) (fun q => h.new x q)
/-- a slice of one's own, read: where it lies -/
theorem own_SF {α : Type} {d : Rd α} {X : Nat → Prop} {base : Nat} {e : TypeId} {n : Nat} {s : List α} (h : d.Own X w1 base e (.slice A n c) s) (hl : s.length ≤ 140737488355328) :
    d.S (fun b => (Value.slice A n c).ownBlock = some b ∨ ¬ X b) w1 A c s := by
  obtain ⟨F, css, h1, h2, h3, h4⟩ := h
  have hcl := Rd.css_len h1 h4
  rcases h2.2 with ⟨hv, h0⟩ | ⟨g, cap, cur, hv, hb, hh, k1, k2, k3, k4⟩
  · have hl0 : s = [] := List.eq_nil_of_length_eq_zero h0
    simp only [Value.slice.injEq] at hv
    obtain ⟨rfl, _, rfl⟩ := hv
    subst hl0
    exact Rd.S_nil d _ w1 0
  · simp only [Value.slice.injEq] at hv
    obtain ⟨rfl, _, rfl⟩ := hv
    refine Rd.S_cells hh (.inl rfl) s c hl k1 (fun j hj => ⟨css[j]'(by omega), d.mono (fun b hb => .inr (h3 b hb).2.1) (h4 j hj (by omega)), fun i u hi => ?_⟩)
    have hi2 : i < d.sz := by rw [← hcl _ (List.getElem_mem (show j < css.length by omega))]; exact (List.getElem?_eq_some_iff.1 hi).1
    have hlt : j * d.sz + i < s.length * d.sz := by
      have : (j + 1) * d.sz ≤ s.length * d.sz := Nat.mul_le_mul_right _ hj
      rw [Nat.succ_mul] at this
      omega
    have := Rd.flatten_get css d.sz hcl j (by omega) i hi2
    rw [← k4, List.getElem?_take, if_pos hlt, hi] at this
    rw [← Array.getElem?_toList]
    exact this
/-- what was told by one call: it may be put behind what was told before -/
theorem PI.part {Ai Ao : Option Addr} {ci co P' sk' : Nat} {s : List Sg} {cl' : Bool} (h : PI w Bf v0 cl l w1 A c done A3 c3 P sk) (k : PI w1 Bf (.slice A3 (l.drop P).length c3) cl' l w2 Ai ci s Ao co P' sk') (hsl : s.length ≤ 140737488355328) :
    ∃ F : Nat → Prop, Rd.seg.S F w2 Ai ci s ∧ ∀ b, F b → ¬ XG w Bf (.slice Ao (l.drop P').length co) b ∧ (Value.slice A done.length c).ownBlock ≠ some b ∧ b < w2.heap.size := by
  have hs := h.size
  refine ⟨_, Rd.S_cb Rd.cb_seg (by decide) (own_SF k.own hsl), fun b hb => ?_⟩
  obtain ⟨hb, hcb⟩ := hb
  rcases hb with hb | hb
  · have h1 := k.own.base b hb
    have h2 := k.far b hb
    exact ⟨fun q => q.elim h2 (fun q => by omega), fun e => by have := h.own.lt e; omega, hcb.lt⟩
  · exact ⟨fun q => q.elim (fun q => hb (.inl q)) (fun q => hb (.inr (by omega))), fun e => hb (.inr (h.own.lt e)), hcb.lt⟩
/-- bytes more -/
theorem PI.fed {r : List UInt8} (h : PI w Bf v0 cl l wr A c done A3 c3 P sk) (hrow : w2.ownsRow 0 5 1 (.slice A4 (l.drop P ++ r).length c4) (l.drop P ++ r).length (bc (l.drop P ++ r)))
    (hg : wr.grownBy w2 (Value.slice A3 (l.drop P).length c3).ownBlock) (hn : ∀ g, (Value.slice A4 (l.drop P ++ r).length c4).ownBlock = some g → (Value.slice A3 (l.drop P).length c3).ownBlock = some g ∨ wr.heap.size ≤ g) :
    PI w Bf v0 cl (l ++ r) (w2.setCell ⟨Bf, 0, none⟩ (.slice A4 (l.drop P ++ r).length c4)) A c done A4 c4 P sk := by
  have hs := h.size
  have hd : (l ++ r).drop P = l.drop P ++ r := List.drop_append_of_le_length h.lt
  have hb1 : But (fun x => (Value.slice A3 (l.drop P).length c3).ownBlock = some x) wr w2 := But.of_grown hg _ (fun r e => e)
  have hnb : (Value.slice A3 (l.drop P).length c3).ownBlock ≠ some Bf := fun e => blk_not h.fd h.row (by decide) e.symm
  have hnb4 : (Value.slice A4 (l.drop P ++ r).length c4).ownBlock ≠ some Bf := fun e => (hn Bf e).elim hnb (fun k => by have := h.fd.lt; omega)
  have hb2 : But (fun x => x = Bf) w2 (w2.setCell ⟨Bf, 0, none⟩ (.slice A4 (l.drop P ++ r).length c4)) := But.set _ _ _ rfl
  have hfd : Fd w2 Bf (.slice A3 (l.drop P).length c3) P sk cl := hb1.blk h.fd hnb
  rw [← hd] at hrow hn hnb4 hb2 ⊢
  refine ⟨hb2.own (own_step h.own hb1 (fun x k => ⟨.inl (.inr k), fun e => h.far x e (.inr k)⟩) (fun x q => ?_)) (fun x k => ⟨.inl (.inl k), fun e => h.far x e (.inl k)⟩), fun x e q => ?_, hfd.set 0 _, hb2.row hrow (fun x e k => hnb4 (by rw [e, k])), fun g e => ?_, (h.but.trans hb1 (fun _ q => q) (fun x q => h.new x q)).trans hb2 (fun _ q => q) (fun x q => .inl (.inl q)), h.le, by have := h.lt; rw [List.length_append]; omega⟩
  · rcases q with (q | q) | q
    · exact .inl (.inl (.inl q))
    · exact (hn x q).elim (fun q => .inl (.inl (.inr q))) .inr
    · exact .inl (.inr q)
  · rcases q with q | q
    · exact h.far x e (.inl q)
    · rcases hn x q with q2 | q2
      · exact h.far x e (.inr q2)
      · have := h.own.lt e; omega
  · exact (hn g e).elim (h.new g) (fun q => .inr (by omega))
theorem PI.shut (h : PI w Bf v0 cl l wr A c done A3 c3 P sk) : PI w Bf v0 true l (wr.setCell ⟨Bf, 3, none⟩ (.bool true)) A c done A3 c3 P sk := by
  have hb : But (fun x => x = Bf) wr (wr.setCell ⟨Bf, 3, none⟩ (.bool true)) := But.set _ _ _ rfl
  have hne : (Value.slice A3 (l.drop P).length c3).ownBlock ≠ some Bf := fun e => by
    have := blk_not h.fd h.row (by decide)
    exact this e.symm
  exact ⟨hb.own h.own (fun x k => ⟨.inl (.inl k), fun e => h.far x e (.inl k)⟩), h.far, h.fd.set 3 _, hb.row h.row (fun x e k => hne (by rw [e, k])), h.new, h.but.trans hb (fun _ k => k) (fun x k => .inl (.inl k)), h.le, h.lt⟩
/-- the payload's place, where it has bytes -/
def PY (A : Option Addr) (p : List UInt8) (b : Nat) : Prop := p ≠ [] ∧ ∃ ad, A = some ad ∧ b = ad.block
theorem u8_S (h : RB wr A c l) : Rd.u8.S (PY A l) wr A c l := by
  by_cases hl : l = []
  · subst hl
    exact ⟨Nat.zero_le _, h.2.1, fun _ => rfl, fun ad he j hj => by simp at hj⟩
  · exact Rd.u8_of_RB h fun ad he => ⟨hl, ad, he, rfl⟩
theorem PY.lt (h : RB wr A c l) {x : Nat} (hp : PY A l x) : x < wr.heap.size := by
  obtain ⟨h1, ad, h2, h3⟩ := hp
  have h4 := h.2.2.2 ad h2 0 (by cases l with | nil => exact absurd rfl h1 | cons => simp)
  have : (ad.add 0).block = ad.block := add_blk _ _
  rw [h3, ← this]
  rcases Nat.lt_or_ge (ad.add 0).block wr.heap.size with k | k
  · exact k
  · simp [World.cell?, Array.getElem?_eq_none k] at h4
/-- a part that is laid behind w1, its payload behind w2 and ahead of w1 -/
theorem told_S {W : World} {g : Nat} {vt : Value} {s : Sg} (hg : W.heap[g]? = some (.cells (segC (s, A, c)).toArray 31 (0, 0))) (h1 : w1.heap.size ≤ g) (h2 : vt.ownBlock ≠ some g) (hr : RB W A c s.p) :
    Rd.seg.S (fun x => (w1.heap.size ≤ x ∧ vt.ownBlock ≠ some x) ∨ PY A s.p x) W (some ⟨g, 0, none⟩) 1 [s] :=
  S_single hg (.inl ⟨h1, h2⟩) ⟨A, c, rfl, Rd.S_mono (u8_S hr) (fun x k => .inr k)⟩
end
end Go.Proofs.Ytepnillddlemaaa
