/- The functions of package cursor that take things. Conditions stand in each theorem. -/
import Derived.Test.YtepnillddlemaaaCursor
set_option linter.unusedVariables false
set_option linter.unusedSimpArgs false
namespace Go.Proofs.Ytepnillddlemaaa
open Go.RowKit Go.Shelf TG
attribute [local go_sem] Oper.semAt_some

theorem cb_some {l : List UInt8} {i : Nat} (h : i < l.length) : cbV l i 0 = l[i].toNat ∧ cbI l i 0 = i + 1 ∧ cbE l i 0 = 0 := by
  unfold cbV cbI cbE
  rw [if_pos rfl, List.drop_eq_getElem_cons h, if_pos ⟨rfl, h⟩, if_pos rfl, if_pos h]
  exact ⟨rfl, rfl, rfl⟩
theorem cb_none {l : List UInt8} {i : Nat} (h : l.length ≤ i) : cbV l i 0 = 0 ∧ cbI l i 0 = i ∧ cbE l i 0 = 2 := by
  simp [cbV, cbI, cbE, Nat.not_lt.2 h, List.drop_eq_nil_of_le h]
theorem cb_stop {l : List UInt8} {i e : Nat} (h : e ≠ 0) : cbV l i e = 0 ∧ cbI l i e = i ∧ cbE l i e = e := by
  simp [cbV, cbI, cbE, h]

set_option maxRecDepth 100000 in
theorem take8_stop (B : Nat) (l : List UInt8) (i e : Nat) (w : World) (hcur : Cur w B l i e) (he : e ≠ 0) (f : Value) :
    Calls Try.prog 155 #[.pointer (some ⟨B, 0, none⟩), f] w fun r w' => r = .returned (.int .u8 0) ∧ w = w' := by
  have hc2 := hcur.cell 2
  simp only [List.getElem?_cons_zero, List.getElem?_cons_succ] at hc2
  go_enter Try.func155, Try.ntmps155
  go_wp2
  go_ret
  exact ⟨rfl, rfl⟩
set_option maxRecDepth 100000 in
theorem take64_stop (B : Nat) (l : List UInt8) (i e : Nat) (w : World) (hcur : Cur w B l i e) (he : e ≠ 0) (f : Value) :
    Calls Try.prog 136 #[.pointer (some ⟨B, 0, none⟩), f] w fun r w' => r = .returned (.int .u64 0) ∧ w = w' := by
  have hc2 := hcur.cell 2
  simp only [List.getElem?_cons_zero, List.getElem?_cons_succ] at hc2
  go_enter Try.func136, Try.ntmps136
  go_wp2
  go_ret
  exact ⟨rfl, rfl⟩

set_option maxRecDepth 100000 in
theorem cbyte_calls (B : Nat) (l : List UInt8) (i e : Nat) (w : World) (hcur : Cur w B l i e) (hi : i ≤ l.length) (hl : l.length ≤ 140737488355327) :
    Calls Try.prog 118 #[.pointer (some ⟨B, 0, none⟩)] w fun r w' => r = .returned (.int .u8 (cbV l i e)) ∧ Cur w' B l (cbI l i e) (cbE l i e) ∧ w.grownBy w' (some B) := by
  by_cases he : e = 0
  · subst he
    by_cases hlt : i < l.length
    · obtain ⟨e1, e2, e3⟩ := cb_some hlt
      rw [e1, e2, e3]
      have hd : l.drop i = l[i] :: l.drop (i + 1) := List.drop_eq_getElem_cons hlt
      have hgo := take8_go B l _ i w hcur hi (by omega) hd (l[i].toNat) 1 0 (by omega) (fun A c W hr => by
        have := byte1_calls A c (l[i] :: l.drop (i + 1)) W hr
        rw [if_neg (List.cons_ne_nil _ _), if_neg (List.cons_ne_nil _ _)] at this
        exact this)
      simp only [if_true] at hgo
      clear e1 e2 e3 hd
      go_enter Try.func118, Try.ntmps118
      go_wp2_with fail
      refine hgo.mono ?_
      rintro r w' ⟨rfl, h1, h2⟩
      have H1 := Lib.hid h1
      clear h1
      go_wp2
      go_ret
      exact ⟨rfl, H1.out, h2⟩
    · obtain ⟨e1, e2, e3⟩ := cb_none (Nat.not_lt.1 hlt)
      rw [e1, e2, e3]
      have hd : l.drop i = [] := List.drop_eq_nil_of_le (Nat.not_lt.1 hlt)
      have hgo := take8_go B l _ i w hcur hi (by omega) hd 0 0 2 (by omega) (fun A c W hr => by
        have := byte1_calls A c [] W hr
        simpa using this)
      rw [if_neg (by decide), if_neg (by decide)] at hgo
      clear e1 e2 e3 hd
      go_enter Try.func118, Try.ntmps118
      go_wp2_with fail
      refine hgo.mono ?_
      rintro r w' ⟨rfl, h1, h2⟩
      have H1 := Lib.hid h1
      clear h1
      go_wp2
      go_ret
      exact ⟨rfl, H1.out, h2⟩
  · obtain ⟨e1, e2, e3⟩ := cb_stop (l := l) (i := i) he
    rw [e1, e2, e3]
    have hgo := take8_stop B l i e w hcur he
    clear e1 e2 e3
    have Hc := Lib.hid hcur
    clear hcur
    go_enter Try.func118, Try.ntmps118
    go_wp2_with fail
    refine (hgo _).mono ?_
    rintro r w' ⟨rfl, rfl⟩
    go_wp2
    go_ret
    exact ⟨rfl, Hc.out, World.grownBy.refl _ _⟩

set_option maxRecDepth 100000 in
theorem number1_calls (A : Option Addr) (c : Nat) (l : List UInt8) (Bm : Nat) (most : Nat) (w : World) (hr : RB w A c l) (hm : Boxed w Bm 44 (.int .u64 most)) :
    Calls Try.prog 137 #[.slice A l.length c, .pointer (some ⟨Bm, 0, none⟩)] w fun e w' => e = .returned (.tuple #[.int .u64 (wgN l), .int .i64 (wgS l), .int .i64 (cnE0 l most)]) ∧ w = w' := by
  have hc := hm.cell
  by_cases h0 : wgE l = 0
  · by_cases h1 : most < wgN l
    · have hE : cnE0 l most = 6 := by unfold cnE0; rw [if_pos h0, if_pos h1]
      rw [hE]
      have hg := get_calls A c l w hr
      rw [h0] at hg
      clear hE
      go_enter Try.func137, Try.ntmps137
      go_wp2_with fail
      refine hg.mono ?_
      rintro e w' ⟨rfl, rfl⟩
      go_wp2
      exact bodyPost_ret (v := .tuple #[.int .u64 (wgN l), .int .i64 (wgS l), .int .i64 6]) (by simp [results, Try.results137, go_sem]) rfl ⟨rfl, rfl⟩
    · have hE : cnE0 l most = 0 := by unfold cnE0; rw [if_pos h0, if_neg h1]
      rw [hE]
      have hg := get_calls A c l w hr
      rw [h0] at hg
      clear hE
      go_enter Try.func137, Try.ntmps137
      go_wp2_with fail
      refine hg.mono ?_
      rintro e w' ⟨rfl, rfl⟩
      go_wp2
      exact bodyPost_ret (v := .tuple #[.int .u64 (wgN l), .int .i64 (wgS l), .int .i64 0]) (by simp [results, Try.results137, go_sem]) rfl ⟨rfl, rfl⟩
  · have hE : cnE0 l most = wgE l := by unfold cnE0; rw [if_neg h0]
    rw [hE]
    have hg := get_calls A c l w hr
    clear hE
    go_enter Try.func137, Try.ntmps137
    go_wp2_with fail
    refine hg.mono ?_
    rintro e w' ⟨rfl, rfl⟩
    go_wp2
    exact bodyPost_ret (v := .tuple #[.int .u64 (wgN l), .int .i64 (wgS l), .int .i64 (wgE l)]) (by simp [results, Try.results137, go_sem]) rfl ⟨rfl, rfl⟩

set_option maxRecDepth 100000 in
set_option maxHeartbeats 1000000 in
theorem take64_go (B : Nat) (l r : List UInt8) (i : Nat) (w : World) (hcur : Cur w B l i 0) (hi : i ≤ l.length) (hl : l.length ≤ 140737488355328) (hr : l.drop i = r) (v s x : Nat) (hs : i + s ≤ 140737488355328) 
    (Bm : Nat) (hcall : ∀ A c W, RB W A c r → w.grownBy W none → Calls Try.prog 137 #[.slice A r.length c, .pointer (some ⟨Bm, 0, none⟩)] W fun e W' => e = .returned (.tuple #[.int .u64 v, .int .i64 s, .int .i64 x]) ∧ W = W') :
    Calls Try.prog 136 #[.pointer (some ⟨B, 0, none⟩), .func (.func 137) #[] #[.pointer (some ⟨Bm, 0, none⟩)]] w fun e w' => e = .returned (.int .u64 (if x = 0 then v else 0 : Nat)) ∧ Cur w' B l (if x = 0 then i + s else i) x ∧ w.grownBy w' (some B) := by
  have hc0 := hcur.cell 0
  have hc1 := hcur.cell 1
  have hc2 := hcur.cell 2
  simp only [List.getElem?_cons_zero, List.getElem?_cons_succ] at hc0 hc1 hc2
  have hex := mk8_drop l i hi
  have hcv := conv_bytes (P := Try.prog) 9 25 5 Try.underlying9 Try.underlying25 Try.underlying5
  rw [hr] at hex
  have hrl : r.length ≤ 140737488355328 := by rw [← hr]; simp; omega
  have Hl := Lib.hid hl
  have Hr := Lib.hid hr
  have Hc := Lib.hid hcur
  clear hcur hr hl
  have hrb : RB (Lib.bytesWorld w.drew 5 (mk8 r)) (some ⟨w.heap.size, 0, none⟩) (grownCap w.drew r.length 0 5) r := bytes_RB w.drew _ r hrl (grownCap_ge _ _ _ _)
  have Hrb := Lib.hid hrb
  have hwld : ∀ W, Lib.bytesWorld w.drew 5 (mk8 r) = W → Cur W B l i 0 ∧ w.grownBy W none := by
    rintro W rfl
    have hg : w.grownBy (Lib.bytesWorld w.drew 5 (mk8 r)) none := ⟨rfl, rfl, rfl, by rw [Lib.bytesWorld_size]; exact Nat.le_succ _, fun k hk _ => (Lib.bytesWorld_at_old w.drew _ _ k hk).trans rfl⟩
    exact ⟨Blk.kept Hc.out hg (by simp), hg⟩
  have Hwld := Lib.hid hwld
  clear hwld hrb
  go_enter Try.func136, Try.ntmps136
  go_wp2_with fail
  go_region_with (first
    | (go_at_call 137; (with_reducible refine (hcall _ _ _ Hrb.out (Hwld.out _ rfl).2).mono ?_); rintro e w3 ⟨rfl, hw3⟩))
  all_goals
    obtain ⟨hcur3, hg3⟩ := Hwld.out _ hw3
    clear hw3 hc0 hc1 hc2
    have hc1 := hcur3.cell 1
    have hc2 := hcur3.cell 2
    have hf1 := hcur3.frozen 1
    have hf2 := hcur3.frozen 2
    simp only [List.getElem?_cons_zero, List.getElem?_cons_succ] at hc1 hc2
    by_cases hx : x = 0
    · subst hx
      have hset := hcur3.set 1 (.int .i64 ((i : Int) + s))
      have Hcur3 := Lib.hid hcur3
      have Hset := Lib.hid hset
      clear hcur3 hset
      go_wp2
      go_ret
      exact ⟨by first | rfl | simp, by have := Hset.out; simpa [Cur] using this, (hg3.but _).trans (grown_set _ _ _ _)⟩
    · have hset := hcur3.set 2 (.int .i64 x)
      have Hcur3 := Lib.hid hcur3
      have Hset := Lib.hid hset
      clear hcur3 hset
      go_wp2
      go_ret
      exact ⟨by first | rfl | simp [hx], by have := Hset.out; simpa [Cur, hx] using this, (hg3.but _).trans (grown_set _ _ _ _)⟩


set_option maxRecDepth 100000 in
theorem cnumber_calls (B : Nat) (l : List UInt8) (i e most : Nat) (w : World) (hcur : Cur w B l i e) (hi : i ≤ l.length) (hl : l.length ≤ 140737488355328) :
    Calls Try.prog 95 #[.pointer (some ⟨B, 0, none⟩), .int .u64 most] w fun r w' => r = .returned (.int .u64 (cnV l i e most)) ∧ Cur w' B l (cnI l i e most) (cnE l i e most) ∧ w.grownBy w' (some B) := by
  by_cases he : e = 0
  · subst he
    have hs := wgS_len (l.drop i)
    have hcur2 := Blk.alloc hcur (.cells #[.int .u64 most] 44)
    have hm : Boxed (w.alloc (.cells #[.int .u64 most] 44)) w.heap.size 44 (.int .u64 most) := Boxed.new _ _ _
    have hgo := take64_go B l _ i _ hcur2 hi hl rfl (wgN (l.drop i)) (wgS (l.drop i)) (cnE0 (l.drop i) most) (by simp at hs; omega) w.heap.size (fun A c W hr hg => number1_calls A c (l.drop i) w.heap.size most W hr (hm.kept hg (by simp)))
    have e1 : cnV l i 0 most = (if cnE0 (l.drop i) most = 0 then wgN (l.drop i) else 0) := by simp [cnV]
    have e2 : cnI l i 0 most = (if cnE0 (l.drop i) most = 0 then i + wgS (l.drop i) else i) := by simp [cnI]
    have e3 : cnE l i 0 most = cnE0 (l.drop i) most := by simp [cnE]
    rw [← e1, ← e2, ← e3] at hgo
    clear e1 e2 e3 hm hcur2 hs
    generalize cnV l i 0 most = v at *
    generalize cnI l i 0 most = v1 at *
    generalize cnE l i 0 most = v2 at *
    have Hc := Lib.hid hcur
    clear hcur
    go_enter Try.func95, Try.ntmps95
    go_wp2_with fail
    refine hgo.mono ?_
    rintro r w' ⟨rfl, h1, h2⟩
    have H1 := Lib.hid h1
    clear h1
    go_wp2
    go_ret
    exact ⟨rfl, H1.out, (World.grownBy_alloc w _ _).trans h2⟩
  · have e1 : cnV l i e most = 0 := by simp [cnV, he]
    have e2 : cnI l i e most = i := by simp [cnI, he]
    have e3 : cnE l i e most = e := by simp [cnE, he]
    rw [e1, e2, e3]
    have hcur2 := Blk.alloc hcur (.cells #[.int .u64 most] 44)
    have hgo := take64_stop B l i e _ hcur2 he
    clear e1 e2 e3
    have Hc := Lib.hid hcur2
    clear hcur hcur2
    go_enter Try.func95, Try.ntmps95
    go_wp2_with fail
    refine (hgo _).mono ?_
    rintro r w' ⟨rfl, rfl⟩
    go_wp2
    go_ret
    exact ⟨rfl, Hc.out, World.grownBy_alloc w _ _⟩

end Go.Proofs.Ytepnillddlemaaa
