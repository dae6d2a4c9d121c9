/- A block of a few cells that is read and written; the functions of package cursor. Conditions stand in each theorem. -/
import Derived.Test.YtepnillddlemaaaWire3
set_option linter.unusedVariables false
set_option linter.unusedSimpArgs false
namespace Go.Proofs.Ytepnillddlemaaa
open Go.RowKit Go.Shelf TG
attribute [local go_sem] Oper.semAt_some

/-- block B holds these cells -/
def Blk (w : World) (B t : Nat) (cs : List Value) : Prop := w.heap[B]? = some (.cells cs.toArray t (0, 0))
theorem Blk.lt {w : World} {B t : Nat} {cs : List Value} (h : Blk w B t cs) : B < w.heap.size := (Array.getElem?_eq_some_iff.1 h).1
theorem Blk.cell {w : World} {B t : Nat} {cs : List Value} (h : Blk w B t cs) (j : Nat) : w.cell? ⟨B, j, none⟩ = cs[j]? := by rw [cell_of_row w B j _ t (0, 0) h]; simp
theorem Blk.frozen {w : World} {B t : Nat} {cs : List Value} (h : Blk w B t cs) (j : Nat) : w.frozen? ⟨B, j, none⟩ = false := by
  have h1 : w.heap[B]? = _ := h
  simp [World.frozen?, h1]
theorem Blk.kept {w w1 : World} {B t : Nat} {cs : List Value} {row : Option Nat} (h : Blk w B t cs) (hg : w.grownBy w1 row) (hne : some B ≠ row) : Blk w1 B t cs := (hg.block B h.lt hne).trans h
theorem Blk.below {w w1 : World} {B t : Nat} {cs : List Value} (h : Blk w B t cs) (hb : Below w.heap.size w w1) : Blk w1 B t cs := (hb.block B h.lt).trans h
theorem Blk.alloc {w : World} {B t : Nat} {cs : List Value} (h : Blk w B t cs) (o : Obj) : Blk (w.alloc o) B t cs := h.kept (World.grownBy_alloc w o none) (by simp)
theorem Blk.new (w : World) (t : Nat) (cs : List Value) : Blk (w.alloc (.cells cs.toArray t)) w.heap.size t cs := World.alloc_heap_new w _
theorem Blk.set {w : World} {B t : Nat} {cs : List Value} (h : Blk w B t cs) (j : Nat) (v : Value) : Blk (w.setCell ⟨B, j, none⟩ v) B t (cs.set j v) := by
  obtain ⟨hlt, hk⟩ := Array.getElem?_eq_some_iff.1 h
  show (w.heap.modify B _)[B]? = _
  rw [Array.getElem?_eq_getElem (by rw [Array.size_modify]; exact hlt), Array.getElem_modify_self, hk]
  simp
theorem Blk.drew {w : World} {B t : Nat} {cs : List Value} (h : Blk w B t cs) : Blk w.drew B t cs := h
theorem grown_set (w : World) (B j : Nat) (v : Value) : w.grownBy (w.setCell ⟨B, j, none⟩ v) (some B) :=
  ⟨rfl, rfl, rfl, (KeepsWalks.setCell w _ v).size, fun k _ hk => Below.heap_setCell _ _ _ k (fun e => hk (by rw [e]))⟩
theorem grown_below {w w1 : World} (h : Below w.heap.size w w1) (row : Option Nat) : w.grownBy w1 row := ⟨h.os, h.tape, h.output, h.size, fun k hk _ => h.block k hk⟩
theorem below_grown {w w1 : World} {B base : Nat} (h : w.grownBy w1 (some B)) (hB : base ≤ B) (hw : base ≤ w.heap.size) : Below base w w1 := ⟨h.os, h.tape, h.output, h.size, fun k hk => h.block k (by omega) (by intro e; simp at e; omega)⟩
theorem RB.kept {w w1 : World} {A : Option Addr} {c : Nat} {l : List UInt8} {B base : Nat} (h : RB w A c l) (hl : ∀ ad, A = some ad → ad.block ≠ B) (hg : w.grownBy w1 (some B)) : RB w1 A c l :=
  ⟨h.1, h.2.1, h.2.2.1, fun ad he j hj => by
    have hc := h.2.2.2 ad he j hj
    have hb : (ad.add j).block = ad.block := by unfold Addr.add; split <;> rfl
    exact hg.cell hc (by rw [hb]; simpa using hl ad he)⟩

/-- a cursor at the place 'at' of the bytes l, stopped by e -/
def Cur (w : World) (B : Nat) (l : List UInt8) (i e : Nat) : Prop := Blk w B 183 [.string (mk8 l), .int .i64 i, .int .i64 e]

set_option maxRecDepth 100000 in
theorem cnew_calls (A : Option Addr) (c : Nat) (l : List UInt8) (w : World) (hr : RB w A c l) :
    Calls Try.prog 71 #[.slice A l.length c] w fun e w' => e = .returned (.pointer (some ⟨w.heap.size, 0, none⟩)) ∧ Cur w' w.heap.size l 0 0 ∧ Below w.heap.size w w' := by
  have hcv := conv_str (P := Try.prog) 25 9 5 Try.underlying25 Try.underlying5 Try.underlying9 hr
  go_enter Try.func71, Try.ntmps71
  go_wp2
  go_ret
  exact ⟨rfl, Blk.new _ _ _, (Below.refl _ _).alloc (Nat.le_refl _) _⟩

set_option maxRecDepth 100000 in
theorem cerr_calls (B : Nat) (l : List UInt8) (i e : Nat) (w : World) (h : Cur w B l i e) :
    Calls Try.prog 73 #[.pointer (some ⟨B, 0, none⟩)] w fun r w' => r = .returned (.int .i64 e) ∧ w = w' := by
  have hc := h.cell 2
  go_enter Try.func73, Try.ntmps73
  go_wp2
  go_ret
  exact ⟨rfl, rfl⟩
set_option maxRecDepth 100000 in
theorem cat_calls (B : Nat) (l : List UInt8) (i e : Nat) (w : World) (h : Cur w B l i e) :
    Calls Try.prog 74 #[.pointer (some ⟨B, 0, none⟩)] w fun r w' => r = .returned (.int .i64 i) ∧ w = w' := by
  have hc := h.cell 1
  go_enter Try.func74, Try.ntmps74
  go_wp2
  go_ret
  exact ⟨rfl, rfl⟩
set_option maxRecDepth 100000 in
theorem cstop_calls (B : Nat) (l : List UInt8) (i e x : Nat) (w : World) (hcur : Cur w B l i e) :
    Calls Try.prog 119 #[.pointer (some ⟨B, 0, none⟩), .int .i64 x] w fun r w' => (∃ v, r = .returned v) ∧ Cur w' B l i (if e = 0 then x else e) ∧ w.grownBy w' (some B) := by
  have hc := hcur.cell 2
  have hf := hcur.frozen 2
  by_cases he : e = 0
  · subst he
    go_enter Try.func119, Try.ntmps119
    go_wp2
    go_end0
    exact ⟨⟨_, rfl⟩, by first | exact hcur.set 2 (.int .i64 x) | (rw [if_pos rfl]; exact hcur.set 2 (.int .i64 x)), grown_set _ _ _ _⟩
  · go_enter Try.func119, Try.ntmps119
    go_wp2
    go_end0
    exact ⟨⟨_, rfl⟩, by first | exact hcur | (rw [if_neg he]; exact hcur), World.grownBy.refl _ _⟩

/-- what is taken: the value and the cursor behind it -/
def cbV (l : List UInt8) (i e : Nat) : Nat := if e = 0 then ((l.drop i).head?.getD 0).toNat else 0
def cbI (l : List UInt8) (i e : Nat) : Nat := if e = 0 ∧ i < l.length then i + 1 else i
def cbE (l : List UInt8) (i e : Nat) : Nat := if e = 0 then (if i < l.length then 0 else 2) else e
def cnE0 (l : List UInt8) (most : Nat) : Nat := if wgE l = 0 then (if most < wgN l then 6 else 0) else wgE l
def cnV (l : List UInt8) (i e most : Nat) : Nat := if e = 0 then (if cnE0 (l.drop i) most = 0 then wgN (l.drop i) else 0) else 0
def cnI (l : List UInt8) (i e most : Nat) : Nat := if e = 0 then (if cnE0 (l.drop i) most = 0 then i + wgS (l.drop i) else i) else i
def cnE (l : List UInt8) (i e most : Nat) : Nat := if e = 0 then cnE0 (l.drop i) most else e

set_option maxRecDepth 100000 in
theorem byte1_calls (A : Option Addr) (c : Nat) (l : List UInt8) (w : World) (hr : RB w A c l) :
    Calls Try.prog 156 #[.slice A l.length c] w fun e w' => e = .returned (.tuple #[.int .u8 ((l.head?.getD 0).toNat : Int), .int .i64 (if l = [] then 0 else 1), .int .i64 (if l = [] then 2 else 0)]) ∧ w = w' := by
  cases l with
  | nil =>
    go_enter Try.func156, Try.ntmps156
    go_wp2
    exact bodyPost_ret (v := .tuple #[.int .u8 0, .int .i64 0, .int .i64 2]) (by simp [results, Try.results156, go_sem]) rfl ⟨rfl, rfl⟩
  | cons x r =>
    obtain ⟨ad, rfl, hc⟩ := hr.at 0 (by simp)
    rw [show ad.add 0 = ad from by simp [Addr.add]] at hc
    simp only [List.getElem_cons_zero] at hc
    go_enter Try.func156, Try.ntmps156
    go_wp2
    exact bodyPost_ret (v := .tuple #[.int .u8 (x.toNat : Int), .int .i64 1, .int .i64 0]) (by simp [results, Try.results156, go_sem]) rfl ⟨rfl, rfl⟩


theorem mk8_drop (l : List UInt8) (i : Nat) (h : i ≤ l.length) : (mk8 l).extract i l.length = mk8 (l.drop i) := by
  apply ByteArray.ext
  rw [ByteArray.data_extract]
  simp only [mk8, List.extract_toArray, List.extract_eq_take_drop]
  rw [List.take_of_length_le (by simp)]

set_option maxRecDepth 100000 in
set_option maxHeartbeats 1000000 in
theorem take8_go (B : Nat) (l r : List UInt8) (i : Nat) (w : World) (hcur : Cur w B l i 0) (hi : i ≤ l.length) (hl : l.length ≤ 140737488355328) (hr : l.drop i = r) (v s x : Nat) (hs : i + s ≤ 140737488355328) 
    (hcall : ∀ A c W, RB W A c r → Calls Try.prog 156 #[.slice A r.length c] W fun e W' => e = .returned (.tuple #[.int .u8 v, .int .i64 s, .int .i64 x]) ∧ W = W') :
    Calls Try.prog 155 #[.pointer (some ⟨B, 0, none⟩), .func (.func 156) #[] #[]] w fun e w' => e = .returned (.int .u8 (if x = 0 then v else 0 : Nat)) ∧ Cur w' B l (if x = 0 then i + s else i) x ∧ w.grownBy w' (some B) := by
  have hc0 := hcur.cell 0
  have hc1 := hcur.cell 1
  have hc2 := hcur.cell 2
  simp only [List.getElem?_cons_zero, List.getElem?_cons_succ] at hc0 hc1 hc2
  have hex := mk8_drop l i hi
  have hcv := conv_bytes (P := Try.prog) 9 25 5 Try.underlying9 Try.underlying25 Try.underlying5
  rw [hr] at hex
  have hrl : r.length ≤ 140737488355328 := by rw [← hr]; simp; omega
  have Hl := Lib.hid hl
  have Hr := Lib.hid hr
  have Hc := Lib.hid hcur
  clear hcur hr hl
  have hrb : RB (Lib.bytesWorld w.drew 5 (mk8 r)) (some ⟨w.heap.size, 0, none⟩) (grownCap w.drew r.length 0 5) r := bytes_RB w.drew _ r hrl (grownCap_ge _ _ _ _)
  have Hrb := Lib.hid hrb
  have hwld : ∀ W, Lib.bytesWorld w.drew 5 (mk8 r) = W → Cur W B l i 0 ∧ w.grownBy W none := by
    rintro W rfl
    have hg : w.grownBy (Lib.bytesWorld w.drew 5 (mk8 r)) none := ⟨rfl, rfl, rfl, by rw [Lib.bytesWorld_size]; exact Nat.le_succ _, fun k hk _ => (Lib.bytesWorld_at_old w.drew _ _ k hk).trans rfl⟩
    exact ⟨Blk.kept Hc.out hg (by simp), hg⟩
  have Hwld := Lib.hid hwld
  clear hwld hrb
  go_enter Try.func155, Try.ntmps155
  go_wp2_with fail
  go_region_with (first
    | (go_at_call 156; (with_reducible refine (hcall _ _ _ Hrb.out).mono ?_); rintro e w3 ⟨rfl, hw3⟩))
  all_goals
    obtain ⟨hcur3, hg3⟩ := Hwld.out _ hw3
    clear hw3 hc0 hc1 hc2
    have hc1 := hcur3.cell 1
    have hc2 := hcur3.cell 2
    have hf1 := hcur3.frozen 1
    have hf2 := hcur3.frozen 2
    simp only [List.getElem?_cons_zero, List.getElem?_cons_succ] at hc1 hc2
    by_cases hx : x = 0
    · subst hx
      have hset := hcur3.set 1 (.int .i64 ((i : Int) + s))
      have Hcur3 := Lib.hid hcur3
      have Hset := Lib.hid hset
      clear hcur3 hset
      go_wp2
      go_ret
      exact ⟨by first | rfl | simp, by have := Hset.out; simpa [Cur] using this, (hg3.but _).trans (grown_set _ _ _ _)⟩
    · have hset := hcur3.set 2 (.int .i64 x)
      have Hcur3 := Lib.hid hcur3
      have Hset := Lib.hid hset
      clear hcur3 hset
      go_wp2
      go_ret
      exact ⟨by first | rfl | simp [hx], by have := Hset.out; simpa [Cur, hx] using this, (hg3.but _).trans (grown_set _ _ _ _)⟩

attribute [irreducible] cbV cbI cbE cnE0 cnV cnI cnE
end Go.Proofs.Ytepnillddlemaaa
