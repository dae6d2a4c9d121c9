/- Memory of a call's own in two places: what else stays; a slice that is cleared; a cut with a bound. Conditions stand in each theorem. Package feed: drop, tell. Conditions stand in each theorem. -/
import Derived.Test.YtepnillddlemaaaOwnL
import Derived.Test.YtepnillddlemaaaCut
import Derived.Test.YtepnillddlemaaaAppB
import Derived.Test.YtepnillddlemaaaCursor
import Derived.Lib.SliceRun
import Derived.Test.YtepnillddlemaaaSegs
import Derived.Test.YtepnillddlemaaaWound2
import Derived.Test.YtepnillddlemaaaMathFeed
set_option linter.unusedVariables false
set_option linter.unusedSimpArgs false
namespace TG
open Go Go.RowKit Go.Proofs Go.Lib

/-- all blocks but those of D stay -/
structure But (D : Nat → Prop) (w w' : World) : Prop where
  os : w'.os = w.os
  tape : w'.tape = w.tape
  output : w'.output = w.output
  size : w.heap.size ≤ w'.heap.size
  block : ∀ k, k < w.heap.size → ¬ D k → w'.heap[k]? = w.heap[k]?
theorem But.refl (D : Nat → Prop) (w : World) : But D w w := ⟨rfl, rfl, rfl, Nat.le_refl _, fun _ _ _ => rfl⟩
theorem But.trans {D D1 D2 : Nat → Prop} {w w1 w2 : World} (h : But D1 w w1) (k : But D2 w1 w2) (h1 : ∀ b, D1 b → D b) (h2 : ∀ b, D2 b → D b ∨ w.heap.size ≤ b) : But D w w2 :=
  ⟨k.os.trans h.os, k.tape.trans h.tape, k.output.trans h.output, Nat.le_trans h.size k.size, fun b hb hd => (k.block b (Nat.lt_of_lt_of_le hb h.size) (fun e => by
    rcases h2 b e with x | x
    · exact hd x
    · omega)).trans (h.block b hb (fun e => hd (h1 b e)))⟩
theorem But.of_below {w w' : World} (h : Below w.heap.size w w') (D : Nat → Prop) : But D w w' := ⟨h.os, h.tape, h.output, h.size, fun b hb _ => h.block b hb⟩
theorem But.of_grown {w w' : World} {row : Option Nat} (h : w.grownBy w' row) (D : Nat → Prop) (hr : ∀ r, row = some r → D r) : But D w w' := ⟨h.os, h.tape, h.output, h.size, fun b hb hd => h.block b hb (fun e => hd (hr b e.symm))⟩
theorem But.set {D : Nat → Prop} (w : World) (a : Addr) (u : Value) (h : D a.block) : But D w (w.setCell a u) :=
  ⟨rfl, rfl, rfl, by simp [World.setCell], fun b _ hd => Below.heap_setCell _ _ _ _ (fun e => hd (e ▸ h))⟩
theorem But.below {D : Nat → Prop} {w w' : World} {base : Nat} (h : But D w w') (hd : ∀ b, D b → base ≤ b) (hb : base ≤ w.heap.size) : Below base w w' :=
  ⟨h.os, h.tape, h.output, h.size, fun b k => h.block b (by omega) (fun e => by have := hd b e; omega)⟩
theorem But.row {D : Nat → Prop} {w w' : World} {base : Nat} {e : TypeId} {size n : Nat} {v : Value} {xs : List Value} (h : But D w w') (ho : w.ownsRow base e size v n xs) (hd : ∀ b, v.ownBlock = some b → ¬ D b) : w'.ownsRow base e size v n xs := by
  refine ⟨ho.1, ?_⟩
  rcases ho.2 with hn | ⟨g, cap, cur, rfl, hb, hg, r⟩
  · exact .inl hn
  · exact .inr ⟨g, cap, cur, rfl, hb, (h.block g (Array.getElem?_eq_some_iff.1 hg).1 (hd g rfl)).trans hg, r⟩
theorem But.blk {D : Nat → Prop} {w w' : World} {B t : Nat} {cs : List Value} (h : But D w w') (hb : Go.Proofs.Ytepnillddlemaaa.Blk w B t cs) (hd : ¬ D B) : Go.Proofs.Ytepnillddlemaaa.Blk w' B t cs := (h.block B hb.lt hd).trans hb
theorem But.RB {D : Nat → Prop} {w w' : World} {A : Option Addr} {c : Nat} {l : List UInt8} (h : But D w w') (hr : TG.RB w A c l) (hd : ∀ ad, A = some ad → ¬ D ad.block) : TG.RB w' A c l := by
  obtain ⟨a, b, d, e⟩ := hr
  refine ⟨a, b, d, fun ad he j hj => ?_⟩
  have h1 := e ad he j hj
  have hblk : (ad.add j).block = ad.block := add_blk _ _
  have hlt : (ad.add j).block < w.heap.size := by
    rcases Nat.lt_or_ge (ad.add j).block w.heap.size with k | k
    · exact k
    · simp [World.cell?, Array.getElem?_eq_none k] at h1
  rw [World.cell?_of_block (h.block _ hlt (by rw [hblk]; exact hd ad he)), h1]
theorem But.own {α : Type} {d : Rd α} {D : Nat → Prop} {w w' : World} {X : Nat → Prop} {base : Nat} {e : TypeId} {v : Value} {l : List α} (h : But D w w') (ho : d.Own X w base e v l) (hd : ∀ b, D b → X b ∧ v.ownBlock ≠ some b) : d.Own X w' base e v l := by
  obtain ⟨F, css, h1, h2, h3, h4⟩ := ho
  have hsame : ∀ b, F b → w'.heap[b]? = w.heap[b]? := fun b hb => h.block b (h3 b hb).1.lt (fun k => (h3 b hb).2.1 (hd b k).1)
  exact ⟨F, css, h1, h.row h2 (fun b k kd => (hd b kd).2 k), fun b hb => ⟨(h3 b hb).1.same (hsame b hb), (h3 b hb).2⟩, fun j a b => d.move hsame (h4 j a b)⟩

theorem setCells_heap (b : Nat) (k : Nat) (hk : k ≠ b) : ∀ (vs : List Value) (o : Nat) (w : World), (w.setCells b o vs).heap[k]? = w.heap[k]?
  | [], _, _ => rfl
  | v :: r, o, w => by
    rw [World.setCells, setCells_heap b k hk r (o + 1), Below.heap_setCell _ _ _ _ hk]
theorem setCells_grown (b : Nat) : ∀ (vs : List Value) (o : Nat) (w : World), w.grownBy (w.setCells b o vs) (some b)
  | [], _, w => World.grownBy.refl _ _
  | v :: r, o, w => by
    have h := setCells_grown b r (o + 1) (w.setCell ⟨b, o, none⟩ v)
    refine ⟨h.os.trans rfl, h.tape.trans rfl, h.output.trans rfl, Nat.le_trans (by simp [World.setCell]) h.size, fun k hk hne => ?_⟩
    exact setCells_heap b k (fun e => hne (by rw [e])) (v :: r) o w

/-- clear of bytes of the call's own -/
theorem run_clear8 {P : Program} {w : World} (base : Nat) (t ty e : TypeId) (ht : P.underlying t = some (.slice e)) (hinfo : (P.info? e).map (fun i => (i.zero, i.size, i.bytes)) = some (some (.int .u8 0), 1, 1))
    (v : Value) (l : List UInt8) (hown : w.ownsRow base e 1 v l.length (bc l)) :
    ∃ w', (Builtin.clear_ #[t] ty #[v]).run P w = .ok (.tuple #[]) w' ∧ w.grownBy w' v.ownBlock := by
  obtain ⟨i0, hi, hz0, hz1, hz2⟩ := info_parts hinfo
  have hzv : ∀ w, (zeroValue e).run P w = .ok (.int .u8 0) w := fun w => by simp [zeroValue, typeInfo, hi, hz0]
  rcases hown.2 with ⟨rfl, h0⟩ | ⟨g, cap, cur, rfl, hg, hh, h1, h2, h3, h4⟩
  · exact ⟨w, by simp [Builtin.clear_, run_underlying ht, hzv], World.grownBy.refl _ _⟩
  · by_cases hn : 0 < l.length
    · refine ⟨_, run_clear_slice w t e ty (.int .u8 0) ht hzv rfl rfl g 0 l.length cap hn (fun j hj => ?_) (fun j hj => ?_), setCells_grown g _ 0 w⟩
      · rw [Nat.zero_add, cell_of_row w g j cur e (0, 0) hh]
        simp
        omega
      · rw [Nat.zero_add]
        simp [World.frozen?, hh]
    · obtain rfl : l = [] := List.eq_nil_of_length_eq_zero (by omega)
      exact ⟨w, by simp [Builtin.clear_, run_underlying ht, hzv], World.grownBy.refl _ _⟩
theorem wpList_clear8 {P : Program} {w : World} {ops : Array Oper} {rest : List Oper} {o : Oper} {a : Act} {Q : Exit → Act → World → Prop} (hgd : o.guard = none) (s : Operand) (t : TypeId)
    (ho : o.op = .call { callee := .builtin .clear, args := #[s], argTypes := #[t] })
    (base e : Nat) (ht : P.underlying t = some (.slice e)) (hinfo : (P.info? e).map (fun i => (i.zero, i.size, i.bytes)) = some (some (.int .u8 0), 1, 1))
    (v : Value) (l : List UInt8) (hs : a.eval s = v) (hown : w.ownsRow base e 1 v l.length (bc l))
    (h : ∀ w', w.grownBy w' v.ownBlock → wpList P ops Q rest (a.put o.dst (.tuple #[])) w') : wpList P ops Q (o :: rest) a w :=
  wpList_plain hgd fun K hK => by
    obtain ⟨w', h1, h2⟩ := run_clear8 (P := P) base t o.type e ht hinfo v l hown
    unfold Oper.wp execOp
    simp only [ho, resolve, invoke, builtin, Sem.run_bind, Sem.run_pure, Result.andThen_ok, List.map_toArray, List.map_cons, List.map_nil, hs, h1]
    exact hK _ _ (h w' h2)
/-- the cut from a place to the end, with a bound -/
theorem cut_lhm {P : Program} (t e : TypeId) {i : TypeInfo} (ht : P.underlying t = some (.slice e)) (hi : P.info? e = some i) (hsz : i.size = 1) (A : Option Addr) (c : Nat) (l : List UInt8) (lo : Nat) (h1 : lo ≤ l.length) (hc : l.length ≤ c) :
    ∃ (A' : Option Addr) (c' : Nat), (∀ W : World, (Instr.slice t (.slice A l.length c) (some (.int .i64 (lo : Int))) (some (.int .i64 (l.length : Int))) (some (.int .i64 (l.length : Int)))).run P W = .ok (.slice A' (l.drop lo).length c') W) ∧
      (∀ w : World, RB w A c l → RB w A' c' (l.drop lo)) ∧ (∀ ad', A' = some ad' → ∃ ad, A = some ad ∧ ad'.block = ad.block) := by
  refine ⟨if l.length = lo then A else A.map (·.add lo), l.length - lo, fun W => ?_, fun w hr => ?_, fun ad' he => cut_block he⟩
  · have hel : P.elem t = e := by simp [Program.elem, ht]
    have hu : P.underlying t = some (.slice (P.elem t)) := by rw [hel]; exact ht
    have hl : (l.drop lo).length = l.length - lo := by simp
    rw [run_slice_lhm W t A l.length c hu .i64 .i64 .i64 (lo : Int) (l.length : Int) (l.length : Int) (Int.natCast_nonneg _) (by omega) (by omega) (by omega), hel, hl]
    simp [Go.sizeOf, typeInfo, hi, hsz, sliced, Result.andThen]
  · have hr2 : RB w A l.length l := ⟨Nat.le_refl _, hr.2.1, hr.2.2.1, hr.2.2.2⟩
    have := hr2.cut lo l.length h1 (Nat.le_refl _)
    rwa [List.take_of_length_le (by simp)] at this
theorem step_appS {α : Type} {d : Rd α} (hd : d.CB) {P : Program} {w : World} {ops : Array Oper} {o : Oper} {a : Act} {K : Act → World → Prop} {Q : Exit → Act → World → Prop} {E : Prop} (hg : o.guard = none) (s x : Operand) (t : TypeId)
    (ho : o.op = .call { callee := .builtin .append, args := #[s, x], argTypes := #[t, t] })
    (X : Nat → Prop) (base : Nat) (e : TypeId) (bytes : Nat) (hT : TypeOK P t e d.sz bytes) (v : Value) (l : List α) (hs : a.eval s = v) (hown : d.Own X w base e v l)
    (A : Option Addr) (c n : Nat) (F : Nat → Prop) (l2 : List α) (hn : n = l2.length) (hx : a.eval x = .slice A n c) (h2 : d.S F w A c l2) (hF : ∀ b, F b → isC w b → ¬ X b ∧ v.ownBlock ≠ some b) (hb : (l.length + l2.length) * bytes ≤ 140737488355328) (hb2 : l.length + l2.length ≤ 140737488355328) (hbase : base ≤ w.heap.size)
    (h : ∀ A' c' w', d.Own X w' base e (.slice A' (l ++ l2).length c') (l ++ l2) → w.grownBy w' v.ownBlock → (∀ g, (Value.slice A' (l ++ l2).length c').ownBlock = some g → v.ownBlock = some g ∨ w.heap.size ≤ g) → K (a.put o.dst (.slice A' (l ++ l2).length c')) w') :
    if Region.wanted o (yielded ops a.tmps) = true then Oper.wp P o a w K Q else E := by
  rw [if_pos (by simp [Region.wanted, hg])]
  exact wp_appS hd s x t ho X base e bytes hT v l hs hown A c n F l2 hn hx h2 hF hb hb2 hbase h
end TG
namespace Go.Proofs.Ytepnillddlemaaa
open Go.RowKit Go.Shelf TG TG.Crc
attribute [local go_sem] Oper.semAt_some

/-- a feed's box; what of memory is its own -/
def Fd (w : World) (Bf : Nat) (v : Value) (P sk : Nat) (cl : Bool) : Prop := Blk w Bf 138 [v, .int .i64 (P : Int), .int .i64 (sk : Int), .bool cl]
def XF (Bf : Nat) (v : Value) (b : Nat) : Prop := b = Bf ∨ v.ownBlock = some b
theorem blk_not {w : World} {B t : Nat} {cs : List Value} (h : Blk w B t cs) {base : Nat} {e : TypeId} {size n : Nat} {v : Value} {xs : List Value} (ho : w.ownsRow base e size v n xs) (hte : t ≠ e) : some B ≠ v.ownBlock := fun k => by
  rcases ho.2 with ⟨hv, _⟩ | ⟨g, cap, cur, hv, _, hh, _⟩
  · rw [hv] at k; simp [Value.ownBlock] at k
  · rw [hv] at k
    simp [Value.ownBlock] at k
    subst k
    have h2 : w.heap[B]? = _ := h
    rw [hh] at h2
    simp at h2
    exact hte h2.2.symm

set_option maxRecDepth 100000 in
set_option maxHeartbeats 1000000 in
theorem drop_calls (w : World) (Bf base : Nat) (A : Option Addr) (c : Nat) (h : List UInt8) (P sk n : Nat) (cl : Bool) (hb : Fd w Bf (.slice A h.length c) P sk cl)
    (ho : w.ownsRow base 5 1 (.slice A h.length c) h.length (bc h)) (hn : n ≤ h.length) (hl : h.length ≤ 140737488355328) (hP : P + n ≤ 1000000000000) :
    Calls Try.prog 134 #[.pointer (some ⟨Bf, 0, none⟩), .int .i64 n] w fun r w' => (∃ v, r = .returned v) ∧ ∃ A' c', Fd w' Bf (.slice A' (h.drop n).length c') (P + n) sk cl ∧
      w'.ownsRow w.heap.size 5 1 (.slice A' (h.drop n).length c') (h.drop n).length (bc (h.drop n)) ∧ But (XF Bf (.slice A h.length c)) w w' := by
  obtain ⟨i1, hi1, hz0, hz1, hz2⟩ := info_parts info_u8
  have hr := own_RB ho hl
  obtain ⟨A1, c1, hcut, hrc, hbc⟩ := cut_lhm (P := Try.prog) 25 5 Try.underlying25 hi1 hz1 A c h n hn hr.1
  have hr1 := hrc w hr
  have x0 := hb.cell 0
  have x1 := hb.cell 1
  simp only [List.getElem?_cons_zero, List.getElem?_cons_succ] at x0 x1
  have hnb := blk_not hb ho (by decide)
  have Hlt := Lib.hid (fun g e => (ho.lt g e).2)
  have hdl : (h.drop n).length ≤ 140737488355328 := by simp; omega
  generalize hdn : h.drop n = dn at *
  have Hb := Lib.hid hb
  have Ho := Lib.hid ho
  have Hr1 := Lib.hid hr1
  have Hnb := Lib.hid hnb
  have HbD : RowKit.Hid (Blk w.drew Bf 138 [.slice A h.length c, .int .i64 (P : Int), .int .i64 (sk : Int), .bool cl]) := hb
  have j1 : (0 : Int) ≤ (n : Int) := Int.natCast_nonneg _
  have j2 : (n : Int) ≤ (h.length : Int) := by omega
  have j3 : (P : Int) + (n : Int) ≤ 1000000000000 := by omega
  have j4 : (0 : Int) ≤ (P : Int) := Int.natCast_nonneg _
  clear hb ho hr hr1 hrc hbc hnb hdn
  go_enter Try.func134, Try.ntmps134
  go_wp2_with fail
  go_region_law (first
    | ((refine step_app8 rfl _ _ 25 (by rfl) w.heap.size 5 Try.underlying25 info_u8 (.slice none 0 0) [] (by rfl) (World.ownsRow_nil _ _ _ _) A1 c1 dn (by rfl) (Hr1.out.below (by first | exact Below.refl _ _ | exact (Below.refl _ _).drew)) (by simp; omega) (by first | exact Nat.le_refl _ | (simp; omega)) ?_); intro A2 c2 w2 hown2 hgrow2; rw [List.nil_append] at hown2 ⊢))
  all_goals
    have hB2 : Below w.heap.size w w2 := (by first | exact (Below.refl _ w).grown hgrow2 (Nat.le_refl _) (fun g e => by simp [Value.ownBlock] at e) | exact ((Below.refl _ w).drew).grown hgrow2 (Nat.le_refl _) (fun g e => by simp [Value.ownBlock] at e))
    have hb2 := Blk.below Hb.out hB2
    have ho2 := own_below Ho.out hB2
    have hs2 := hB2.size
    have y0 := hb2.cell 0
    have y1 := hb2.cell 1
    have y2 := hb2.frozen 0
    have y3 := hb2.frozen 1
    simp only [List.getElem?_cons_zero, List.getElem?_cons_succ] at y0 y1
    have hnb2 := Hnb.out
    have Hb2 := Lib.hid hb2
    have HB2 := Lib.hid hB2
    have Hown2 := Lib.hid hown2
    clear hgrow2 hcut x0 x1 Hr1 HbD Hb Ho hB2 hb2 hown2 y1 y2 y3
    obtain ⟨w3, hclr, hgrow3⟩ := run_clear8 (P := Try.prog) base 25 0 5 Try.underlying25 info_u8 _ h ho2
    have hb3 := Blk.kept Hb2.out hgrow3 hnb2
    have hne : (Value.slice A2 dn.length c2).ownBlock = none ∨ (Value.slice A2 dn.length c2).ownBlock ≠ (Value.slice A h.length c).ownBlock := by
      cases e : (Value.slice A2 dn.length c2).ownBlock with
      | none => exact .inl rfl
      | some g => exact .inr (fun k => by have h1 := (Hown2.out.lt g e).1; have h2 := Hlt.out g k.symm; omega)
    have hown3 := Lib.hid (Hown2.out.kept hgrow3 hne)
    have hB3 := Lib.hid ((But.of_below HB2.out (XF Bf (.slice A h.length c))).trans (But.of_grown hgrow3 (XF Bf (.slice A h.length c)) (fun r e => .inr e)) (fun _ k => k) (fun _ k => .inl k))
    have y1 := hb3.cell 1
    have y2 := hb3.frozen 0
    have y3 := hb3.frozen 1
    have y4 := hb3.cell 0
    simp only [List.getElem?_cons_zero, List.getElem?_cons_succ] at y1 y4
    have Hb3 := Lib.hid hb3
    clear hne ho2 hgrow3 hnb2 hb3
    go_wp2
    go_end0
    have hnb3 := blk_not Hb3.out hown3.out (by decide)
    refine ⟨⟨_, rfl⟩, A2, c2, ?_, ?_, ?_⟩
    · have h1 := (Hb3.out.set 0 (.slice A2 dn.length c2)).set 1 (.int .i64 ((P : Int) + (n : Int)))
      rw [show (P : Int) + (n : Int) = ((P + n : Nat) : Int) from by omega] at h1 ⊢
      exact h1
    · have h1 := (hown3.out.kept (grown_set w3 Bf 0 (.slice A2 dn.length c2)) (.inr (fun e => hnb3 e.symm))).kept (grown_set (w3.setCell ⟨Bf, 0, none⟩ (.slice A2 dn.length c2)) Bf 1 (.int .i64 ((P : Int) + (n : Int)))) (.inr (fun e => hnb3 e.symm))
      exact h1
    · exact (hB3.out.trans (But.set (D := XF Bf (.slice A h.length c)) _ _ _ (.inl rfl)) (fun _ k => k) (fun _ k => .inl k)).trans (But.set (D := XF Bf (.slice A h.length c)) _ _ _ (.inl rfl)) (fun _ k => k) (fun _ k => .inl k)

end Go.Proofs.Ytepnillddlemaaa
