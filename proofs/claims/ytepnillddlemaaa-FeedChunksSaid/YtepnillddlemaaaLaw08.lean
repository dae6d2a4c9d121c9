/- Package feed: New, Give, Close, Held, Total. Conditions stand in each theorem. The chapter's example. No condition. -/
import Derived.Test.YtepnillddlemaaaFeed6
import Derived.Test.YtepnillddlemaaaLaw07
import Derived.Test.YtepnillddlemaaaCutS
set_option linter.unusedVariables false
set_option linter.unusedSimpArgs false
namespace TG
open Go Go.RowKit Go.Proofs
theorem run_app8f {P : Program} {w : World} (base : Nat) (t ty e : TypeId) (ht : P.underlying t = some (.slice e)) (hinfo : (P.info? e).map (fun i => (i.zero, i.size, i.bytes)) = some (some (.int .u8 0), 1, 1))
    (v : Value) (xs : List UInt8) (hown : w.ownsRow base e 1 v xs.length (bc xs)) (A : Option Addr) (c : Nat) (l : List UInt8) (hr : RB w A c l)
    (hlen : xs.length + l.length ≤ 140737488355328) (hbase : base ≤ w.heap.size) :
    ∃ A' c' w', (Builtin.append_ #[t, t] ty #[v, .slice A l.length c]).run P w = .ok (.slice A' (xs ++ l).length c') w' ∧ w'.ownsRow base e 1 (.slice A' (xs ++ l).length c') (xs ++ l).length (bc (xs ++ l)) ∧ w.grownBy w' v.ownBlock ∧
      (∀ g, (Value.slice A' (xs ++ l).length c').ownBlock = some g → v.ownBlock = some g ∨ w.heap.size ≤ g) := by
  obtain ⟨i0, hi, hz0, hz1, hz2⟩ := info_parts hinfo
  cases A with
  | none =>
    have h0 := hr.2.2.1 rfl
    subst h0
    obtain ⟨A', c', rfl⟩ := own_form hown
    refine ⟨A', c', w, ?_, ?_, World.grownBy.refl _ _, fun g e => .inl (by simpa using e)⟩
    · have := run_append_none8 (P := P) (w := w) base t ty e i0 1 ht hi _ _ c _ hown
      simpa using this
    · simpa using hown
  | some ad =>
    obtain ⟨v', w', h1, h2, h3, h4⟩ := run_append_fresh (P := P) w base t ty e i0 (.int .u8 0) 1 1 ht hi hz0 hz1 hz2 rfl (by decide) v xs.length (bc xs) hown ad l.length c (bc l) (by simp) hr.news (bc_one l) (by simp only [maxLen]; omega) (by omega) hbase
    obtain ⟨A', c', rfl⟩ := own_form h2
    refine ⟨A', c', w', ?_, ?_, h3, ?_⟩
    · rw [List.length_append]; exact h1
    · rw [List.length_append, bc_append]; exact h2
    · rw [List.length_append]; exact h4
theorem wpList_app8f {P : Program} {w : World} {ops : Array Oper} {rest : List Oper} {o : Oper} {a : Act} {Q : Exit → Act → World → Prop} (hgd : o.guard = none) (s x : Operand) (t : TypeId)
    (ho : o.op = .call { callee := .builtin .append, args := #[s, x], argTypes := #[t, t] })
    (base e : Nat) (ht : P.underlying t = some (.slice e)) (hinfo : (P.info? e).map (fun i => (i.zero, i.size, i.bytes)) = some (some (.int .u8 0), 1, 1))
    (v : Value) (xs : List UInt8) (hs : a.eval s = v) (hown : w.ownsRow base e 1 v xs.length (bc xs)) (A : Option Addr) (c : Nat) (l : List UInt8) (hx : a.eval x = .slice A l.length c) (hr : RB w A c l)
    (hlen : xs.length + l.length ≤ 140737488355328) (hbase : base ≤ w.heap.size)
    (h : ∀ A' c' w', w'.ownsRow base e 1 (.slice A' (xs ++ l).length c') (xs ++ l).length (bc (xs ++ l)) → w.grownBy w' v.ownBlock → (∀ g, (Value.slice A' (xs ++ l).length c').ownBlock = some g → v.ownBlock = some g ∨ w.heap.size ≤ g) → wpList P ops Q rest (a.put o.dst (.slice A' (xs ++ l).length c')) w') : wpList P ops Q (o :: rest) a w :=
  wpList_plain hgd fun K hK => by
    obtain ⟨A', c', w', h1, h2, h3, h4⟩ := run_app8f (P := P) (w := w) base t o.type e ht hinfo v xs hown A c l hr hlen hbase
    unfold Oper.wp execOp
    simp only [ho, resolve, invoke, builtin, Sem.run_bind, Sem.run_pure, Result.andThen_ok, List.map_toArray, List.map_cons, List.map_nil, hs, hx, h1]
    exact hK _ _ (h A' c' w' h2 h3 h4)
end TG
namespace Go.Proofs.Ytepnillddlemaaa
open Go.RowKit Go.Shelf TG TG.Crc
attribute [local go_sem] Oper.semAt_some

theorem feed_start (w : World) : PI w w.heap.size (.slice none 0 0) false [] (w.alloc (.cells #[.slice none 0 0, .int .i64 0, .int .i64 0, .bool false] 138)) none 0 [] none 0 0 0 :=
  ⟨Rd.Own.nil _ _ _ _ _, (fun b k => by simp [Value.ownBlock] at k), Blk.new w _ [.slice none 0 0, .int .i64 0, .int .i64 0, .bool false], World.ownsRow_nil _ _ _ _, (fun g e => by simp [Value.ownBlock] at e), But.of_below (below_new (Below.refl _ _) _) _, Nat.le_refl _, Nat.le_refl _⟩
set_option maxRecDepth 100000 in
theorem new_calls8 (w : World) : Calls Try.prog 38 #[] w fun e w' => e = .returned (.pointer (some ⟨w.heap.size, 0, none⟩)) ∧ w' = w.alloc (.cells #[.slice none 0 0, .int .i64 0, .int .i64 0, .bool false] 138) := by
  go_enter Try.func38, Try.ntmps38
  go_wp2
  go_ret
  exact ⟨rfl, rfl⟩
set_option maxRecDepth 100000 in
theorem held_calls (w : World) (Bf : Nat) (A : Option Addr) (n c P sk : Nat) (cl : Bool) (h : Fd w Bf (.slice A n c) P sk cl) : Calls Try.prog 87 #[.pointer (some ⟨Bf, 0, none⟩)] w fun e w' => e = .returned (.int .i64 n) ∧ w = w' := by
  have x0 := h.cell 0
  simp only [List.getElem?_cons_zero, List.getElem?_cons_succ] at x0
  go_enter Try.func87, Try.ntmps87
  go_wp2
  go_ret
  exact ⟨rfl, rfl⟩
set_option maxRecDepth 100000 in
theorem total_calls (w : World) (Bf : Nat) (A : Option Addr) (n c P sk : Nat) (cl : Bool) (h : Fd w Bf (.slice A n c) P sk cl) (hn : n + P ≤ 1000000) : Calls Try.prog 88 #[.pointer (some ⟨Bf, 0, none⟩)] w fun e w' => e = .returned (.int .i64 ((P + n : Nat) : Int)) ∧ Below w.heap.size w w' := by
  have Hb := Lib.hid h
  have x0 : ∀ d os, (Sort.grow (redrawn w d) os).cell? ⟨Bf, 0, none⟩ = some (.slice A n c) := fun d os => (Hb.out.below (below_regrown w d os)).cell 0
  have x1 : ∀ d os, (Sort.grow (redrawn w d) os).cell? ⟨Bf, 1, none⟩ = some (.int .i64 (P : Int)) := fun d os => (Hb.out.below (below_regrown w d os)).cell 1
  have j1 : (n : Int) + (P : Int) ≤ 1000000 := by omega
  have j2 : (0 : Int) ≤ (n : Int) := Int.natCast_nonneg _
  have j3 : (0 : Int) ≤ (P : Int) := Int.natCast_nonneg _
  clear h
  go_enter Try.func88, Try.ntmps88
  go_wp2_with fail
  refine wp_region_quiet_below (by kernel_rfl) (by kernel_rfl) ?_
  repeat (first | go_big_quiet_step (fail) | quiet_step (fail))
  refine wpQuiet_nil ?_
  intro _ hw'
  obtain ⟨⟨dq, osq⟩, hw''⟩ := hw'
  subst hw''
  have hB1 := below_regrown w dq osq
  generalize Sort.grow (redrawn w dq) osq = w1 at *
  clear x0 x1
  go_wp2
  go_ret
  exact ⟨by go_num, hB1⟩

/-- what may be done with what a call told -/
def Part (w : World) (Bf : Nat) (v vo : Value) (w' : World) (A : Option Addr) (c : Nat) (s : List Sg) : Prop := ∃ F : Nat → Prop, Rd.seg.S F w' A c s ∧ ∀ b, F b → ¬ XG w Bf v b ∧ vo.ownBlock ≠ some b ∧ b < w'.heap.size
set_option maxRecDepth 100000 in
set_option maxHeartbeats 1000000 in
theorem give_calls {w wr : World} {Bf : Nat} {v0 : Value} {l : List UInt8} {A A3 : Option Addr} {c c3 P sk : Nat} {out : List Sg} (h : PI w Bf v0 false l wr A c out A3 c3 P sk) (A1 : Option Addr) (c1 : Nat) (r : List UInt8) (hr : RB wr A1 c1 r) (hl : (l ++ r).length ≤ 100000) :
    Calls Try.prog 39 #[.pointer (some ⟨Bf, 0, none⟩), .slice A1 r.length c1] wr fun e w' => ∃ A6 c6 A7 c7, e = .returned (.tuple #[.slice A6 (pM false (l ++ r) P sk).1.length c6, .int .i64 0]) ∧
      PI w Bf v0 false (l ++ r) w' A c out A7 c7 (pM false (l ++ r) P sk).2.1 (pM false (l ++ r) P sk).2.2 ∧ Part w Bf (.slice A7 ((l ++ r).drop (pM false (l ++ r) P sk).2.1).length c7) (.slice A out.length c) w' A6 c6 (pM false (l ++ r) P sk).1 := by
  have hfed := fun A4 c4 w2 => h.fed (A4 := A4) (c4 := c4) (w2 := w2) (r := r)
  have hd : (l ++ r).drop P = l.drop P ++ r := List.drop_append_of_le_length h.lt
  have x0 := h.fd.cell 0
  have x1 := h.fd.cell 3
  simp only [List.getElem?_cons_zero, List.getElem?_cons_succ] at x0 x1
  have hrow := h.row
  have hlt := h.lt
  have hle := h.le
  have hdl : (l.drop P).length + r.length ≤ 100000 := by rw [List.length_append] at hl; rw [List.length_drop]; omega
  have hpl := pM_len false (l ++ r) _ P sk rfl (by rw [List.length_append]; omega) hle
  have hpar := fun wx Ax cx => partsO_calls wx Bf 0 Ax cx (l ++ r) P sk false
  rw [hd] at hpar
  generalize pM false (l ++ r) P sk = T at *
  obtain ⟨s, P', sk'⟩ := T
  dsimp only at *
  have H := Lib.hid h
  have Hfed := Lib.hid hfed
  have Hpar := Lib.hid hpar
  clear h hfed hpar
  generalize hh : l.drop P = hp at *
  have Hh := Lib.hid hh
  have Hd := Lib.hid hd
  have Hpl := Lib.hid hpl
  clear hh hd hpl
  go_enter Try.func39, Try.ntmps39
  have hnb := blk_not H.out.fd H.out.row (by decide)
  rw [Hh.out] at hnb
  have Hnb := Lib.hid hnb
  obtain ⟨hpr, hhpr⟩ : ∃ hpr, hpr = hp ++ r := ⟨_, rfl⟩
  have hprl : hpr.length ≤ 100000 := by rw [hhpr, List.length_append]; omega
  rw [← hhpr] at Hfed Hpar Hd
  have Hpr := Lib.hid hhpr
  clear hnb hhpr
  go_wp2_with (at_builtin; go_loud (refine wpList_app8f rfl _ _ 25 rfl 0 5 Try.underlying25 info_u8 (.slice A3 hp.length c3) hp rfl hrow A1 c1 r rfl hr (by omega) (Nat.zero_le _) ?_); intro A4 c4 w2 hrow2 hgrow2 hnew2; rw [← Hpr.out] at hrow2 hnew2 ⊢; have hb2 := Blk.kept H.out.fd hgrow2 Hnb.out; have y0 := hb2.cell 0; have y2 := hb2.frozen 0; simp only [List.getElem?_cons_zero, List.getElem?_cons_succ] at y0; have Hb2 := Lib.hid hb2; clear hb2 x0)
  have hP3 := Hfed.out A4 c4 w2 hrow2 hgrow2 hnew2
  have hpa := Hpar.out _ A4 c4 (by have := hP3.fd; rw [Hd.out] at this; exact this) (by have := hP3.row; rw [Hd.out] at this; exact this) hP3.lt hle hl
  have HP3 := Lib.hid hP3
  clear hrow2 hgrow2 hnew2 hrow y0 y2 Hfed Hpar hP3
  refine hpa.mono ?_
  rintro e w4 ⟨A6, c6, A7, c7, rfl, hI⟩
  clear hpa
  have Hpl2 := Hpl.out
  have hlen : s.length ≤ 300000 := by omega
  have hprt := PI.part HP3.out (by rw [Hd.out]; exact hI) (by omega)
  have hout := PI.outer HP3.out (by rw [Hd.out]; exact hI)
  have Hprt := Lib.hid hprt
  have Hout := Lib.hid hout
  clear hI hprt hout Hpl Hpl2
  go_wp2
  exact bodyPost_ret (v := .tuple #[.slice A6 s.length c6, .int .i64 0]) (by simp [results, Try.results39, go_sem]) rfl ⟨A6, c6, A7, c7, rfl, Hout.out, Hprt.out⟩

set_option maxRecDepth 100000 in
set_option maxHeartbeats 1000000 in
theorem close_calls {w wr : World} {Bf : Nat} {v0 : Value} {l : List UInt8} {A A3 : Option Addr} {c c3 P sk : Nat} {out : List Sg} (h : PI w Bf v0 false l wr A c out A3 c3 P sk) (hl : l.length ≤ 100000) :
    Calls Try.prog 40 #[.pointer (some ⟨Bf, 0, none⟩)] wr fun e w' => ∃ A6 c6 A7 c7, e = .returned (.tuple #[.slice A6 ((pM true l P sk).1 ++ tl (pM true l P sk).2.2 (pM true l P sk).2.1).length c6, .int .i64 0]) ∧
      PI w Bf v0 true l w' A c out A7 c7 (pM true l P sk).2.1 (pM true l P sk).2.1 ∧ Part w Bf (.slice A7 (l.drop (pM true l P sk).2.1).length c7) (.slice A out.length c) w' A6 c6 ((pM true l P sk).1 ++ tl (pM true l P sk).2.2 (pM true l P sk).2.1) ∧ But (XF Bf (.slice A3 (l.drop P).length c3)) wr w' ∧ (∀ g, (Value.slice A7 (l.drop (pM true l P sk).2.1).length c7).ownBlock = some g → XF Bf (.slice A3 (l.drop P).length c3) g ∨ wr.heap.size ≤ g) := by
  have x1 := h.fd.cell 3
  have x2 := h.fd.frozen 3
  simp only [List.getElem?_cons_zero, List.getElem?_cons_succ] at x1
  have hs := h.shut
  have hpl := pM_len true l _ P sk rfl h.lt h.le
  have hpa := partsN_calls _ Bf 0 A3 c3 l P sk true hs.fd hs.row hs.lt hs.le hl
  generalize pM true l P sk = T at *
  obtain ⟨s, P', sk'⟩ := T
  dsimp only at *
  obtain ⟨s2, hs2⟩ : ∃ s2, s2 = s ++ tl sk' P' := ⟨_, rfl⟩
  rw [← hs2]
  have Hs2 := Lib.hid hs2
  clear hs2
  have HS := Lib.hid hs
  have Hpl := Lib.hid hpl
  clear h hs hpl
  go_enter Try.func40, Try.ntmps40
  go_wp2_with fail
  refine hpa.mono ?_
  rintro e w2 ⟨A4, c4, A5, c5, rfl, hI⟩
  clear hpa x1 x2
  have hlen : s.length ≤ 300000 := by have := Hpl.out; omega
  have hP1 : P' ≤ 100000 := by have := Hpl.out; omega
  clear Hpl
  have hte := tell_calls w2 Bf _ _ A4 c4 s P' sk' true _ hI.fd hI.own (fun x k => k.elim (fun k => k.elim (fun e => e ▸ hI.fd.lt) (fun e => (hI.row.lt x e).2)) (fun k => Nat.lt_of_lt_of_le k hI.size)) hI.le (by omega) (by omega) hI.size
  have HI := Lib.hid hI
  clear hI
  rw [← Hs2.out] at hte
  have hs2l : s2.length ≤ 300001 := by rw [Hs2.out, List.length_append]; have := tl_len sk' P'; omega
  go_wp2_with fail
  refine hte.mono ?_
  rintro e w3 ⟨A6, c6, rfl, hown, hbut, hnew⟩
  have hI3 := HI.out.told hown hbut hnew
  have y1 := hI3.fd.cell 1
  have y2 := hI3.fd.cell 2
  have y3 := hI3.fd.frozen 2
  simp only [List.getElem?_cons_zero, List.getElem?_cons_succ] at y1 y2
  have HI3 := Lib.hid hI3
  clear hte hown hbut hnew hI3 HI
  go_wp2
  have hprt := PI.part HS.out HI3.out.skip (by omega)
  have hout := PI.outer HS.out HI3.out.skip
  exact bodyPost_ret (v := .tuple #[.slice A6 s2.length c6, .int .i64 0]) (by simp [results, Try.results40, go_sem]) rfl ⟨A6, c6, A5, c5, rfl, hout, hprt, (But.set (D := XF Bf (.slice A3 (l.drop P).length c3)) _ _ _ (.inl rfl)).trans HI3.out.skip.but (fun _ k => k) (fun _ k => .inl k), fun g e => (HI3.out.new g e).imp id (fun k => by simpa [World.setCell] using k)⟩
end Go.Proofs.Ytepnillddlemaaa
namespace Go.Proofs.Ytepnillddlemaaa
open Go.RowKit Go.Shelf TG TG.Crc
attribute [local go_sem] Oper.semAt_some

theorem fp_ab : (fp 2 [97, 98]).length = 12 := by rw [fp_length]; simp [show nb 2 = [2] from nb_small (by decide)]
theorem look_zero (l : List UInt8) (h : wE l 0 = 0 ∨ wE l 0 = 2) : lookF false l 0 = 0 := by
  unfold lookF opn
  simp only [Bool.false_eq_true, if_false]
  cases hl : l.length with
  | zero => rfl
  | succ n =>
    rw [Nat.sub_zero]
    exact fst_here _ _ _ (by unfold isO; rcases h with h | h <;> simp [h])
theorem ab_short (m : Nat) (hm : m < 12) : pM false ((fp 2 [97, 98]).take m) 0 0 = ([], 0, 0) := by
  have h := fg_short 2 (.inr rfl) [97, 98] (by decide) m (by rw [fp_ab]; exact hm)
  have h2 : wE ((fp 2 [97, 98]).take m) 0 = 2 := by unfold wE; rw [List.drop_zero]; exact h
  have hl := look_zero _ (.inr h2)
  rw [pM_stop _ _ _ _ (by rw [hl, h2]; simp), hl]
theorem ab_whole : (pM false (fp 2 [97, 98]) 0 0).1.length = 1 ∧ (pM false (fp 2 [97, 98]) 0 0).2 = (12, 12) := by
  obtain ⟨h1, _, _, h2⟩ := fg_put 2 (.inr rfl) [97, 98] [] (by decide)
  rw [List.append_nil] at h1 h2
  have h3 : wE (fp 2 [97, 98]) 0 = 0 := by unfold wE; rw [List.drop_zero]; exact h1
  have hl := look_zero _ (.inl h3)
  rw [pM_next false _ 0 0 0 12 hl (by rw [fp_ab]; decide) h3 (by rw [List.drop_zero, h2, fp_ab])]
  have h12 : lookF false (fp 2 [97, 98]) 12 = 12 := by
    have h4 := look_ge false (fp 2 [97, 98]) 12
    have h5 := look_le false (fp 2 [97, 98]) 12 (by rw [fp_ab]; exact Nat.le_refl _)
    rw [fp_ab] at h5
    omega
  rw [pM_stop false _ 12 12 (by rw [h12, fp_ab]; simp), h12]
  exact ⟨by simp [tl], rfl⟩
theorem ab_len (i : Nat) (hi : i < 12) : ∃ s, pM false ((fp 2 [97, 98]).take (i + 1)) 0 0 = (s, if i + 1 < 12 then 0 else 12, if i + 1 < 12 then 0 else 12) ∧ s.length = i / 11 := by
  by_cases h : i + 1 < 12
  · refine ⟨[], ?_, by simp; omega⟩
    rw [if_pos h]
    exact ab_short _ h
  · obtain rfl : i = 11 := by omega
    have ht : (fp 2 [97, 98]).take (11 + 1) = fp 2 [97, 98] := List.take_of_length_le (by rw [fp_ab]; exact Nat.le_refl _)
    rw [ht]
    obtain ⟨h1, h2⟩ := ab_whole
    exact ⟨_, Prod.ext rfl (by rw [h2]; rfl), h1⟩
theorem PI.base {w wr : World} {cl : Bool} {l : List UInt8} {A A3 : Option Addr} {c c3 P sk : Nat} {out : List Sg} (h : PI w w.heap.size (.slice none 0 0) cl l wr A c out A3 c3 P sk) : Below w.heap.size w wr :=
  h.but.below (fun b k => k.elim (fun e => by omega) (fun e => by simp [Value.ownBlock] at e)) (Nat.le_refl _)

set_option maxRecDepth 100000 in
set_option maxHeartbeats 1000000 in
theorem fixed8_calls (w : World) :
    Calls Try.prog 37 #[] w fun e w' => e = .returned (.bool true) ∧ Below w.heap.size w w' := by
  have kc := fun (w : World) (C : Array Value) (n c : Nat) => Lib.run_convert_bytes_const (P := Try.prog) w 25 5 C n c Try.underlying25 Try.underlying5
  obtain ⟨i1, hi1, hz0, hz1, hz2⟩ := info_parts info_u8
  have h12 := fp_ab
  have hlen := ab_len
  go_enter Try.func37, Try.ntmps37
  go_wp2_with fail
  have hb : RB (w.alloc (.cells #[.int .u8 97, .int .u8 98] 5 (2, 3))) (some ⟨w.heap.size, 0, none⟩) 2 [97, 98] := RB_newf _ _ _ _ _ rfl (by decide) _ (by decide)
  have hput := fput_calls 2 (.inr rfl) (some ⟨w.heap.size, 0, none⟩) 2 [97, 98] _ hb (by decide)
  have hB0 : Below w.heap.size w (w.alloc (.cells #[.int .u8 97, .int .u8 98] 5 (2, 3))) := below_new (Below.refl _ _) _
  generalize fp 2 [97, 98] = fo at *
  have Hlen := Lib.hid hlen
  clear hlen hb
  refine hput.mono ?_
  rintro e w1 ⟨v1, rfl, hown1, hB1⟩
  obtain ⟨A1, c1, rfl⟩ := own_form hown1
  have hr1 := own_RB hown1 (by omega)
  have hlc := hr1.1
  have HB1 := Lib.hid (below_chain hB0 hB1)
  have j1 : (fo.length : Int) = 12 := by omega
  clear hown1 hput hB0 hB1 kc
  have Hr1 := Lib.hid hr1
  have H12 := Lib.hid h12
  clear hr1 h12
  go_wp2_with fail
  refine (new_calls8 w1).mono ?_
  rintro e w2 ⟨rfl, rfl⟩
  have HS := Lib.hid (feed_start w1)
  go_wp2_with fail
  go_loopw [24] (fun iv wr => ∃ (i : Nat) (A3 : Option Addr) (c3 : Nat), iv = .int .i64 i ∧ i ≤ 12 ∧ Hid (PI w1 w1.heap.size (.slice none 0 0) false (fo.take i) wr none 0 [] A3 c3 (if i < 12 then 0 else 12) (if i < 12 then 0 else 12))) (fun iv _ => 12 - (intOf iv).toNat)
  case atStart => exact ⟨0, none, 0, rfl, by omega, HS⟩
  case round =>
    obtain ⟨i, A3, c3, rfl, hi, HP⟩ := hrel
    have j2 : (0 : Int) ≤ (i : Int) := Int.natCast_nonneg _
    by_cases hlt : i < 12
    · rw [if_pos hlt] at HP
      have j3 : (i : Int) < 12 := by omega
      obtain ⟨A5, c5, hcut, hrc, _⟩ := cut_lh (P := Try.prog) 25 5 Try.underlying25 hi1 hz1 A1 c1 fo i (i + 1) (by omega) (by rw [H12.out]; omega) hlc
      have hr5 := hrc wr (Hr1.out.below HP.out.base)
      have hg := give_calls HP.out A5 c5 _ hr5 (by simp; have := H12.out; omega)
      have hta : fo.take i ++ (fo.drop i).take (i + 1 - i) = fo.take (i + 1) := by rw [show i + 1 - i = 1 from by omega]; exact List.take_add.symm
      have hcl : ((fo.drop i).take (i + 1 - i)).length = 1 := by simp; have := H12.out; omega
      rw [hta] at hg
      obtain ⟨s, hs1, hs2⟩ := Hlen.out i hlt
      rw [hs1] at hg
      dsimp only at hg
      rw [show ((i + 1 : Nat) : Int) = (i : Int) + 1 from by omega] at hcut
      generalize (fo.drop i).take (i + 1 - i) = ch at *
      generalize hfn : fo.take (i + 1) = fn at *
      have Hfn := Lib.hid hfn
      clear hfn
      have hq : (s.length : Int) = (i : Int).tdiv 11 := by rw [hs2]; rfl
      have Hs2 := Lib.hid hs2
      rw [hcl] at hg hcut
      clear hrc hr5 hta hs1 hs2 HP
      go_wp2_with fail
      refine hg.mono ?_
      rintro e w4 ⟨A6, c6, A7, c7, rfl, hP4, _⟩
      have HP4 := Lib.hid hP4
      clear hg hP4 hcut
      go_wp2
      exact ⟨⟨i + 1, A7, c7, by go_num, by omega, by rw [Hfn.out]; exact HP4⟩, by simp [intOf]; omega⟩
    · obtain rfl : i = 12 := by omega
      rw [if_neg (by omega)] at HP
      have hh := held_calls _ _ _ _ _ _ _ _ HP.out.fd
      have hto := fun W (hW : Below wr.heap.size wr W) => total_calls W _ _ _ _ _ _ _ (HP.out.fd.below hW) (by simp)
      have hz : ((fo.take 12).drop 12).length = 0 := by simp
      rw [hz] at hh hto
      have HBP := Lib.hid HP.out.base
      clear HP
      go_wp2_with fail
      refine hh.mono ?_
      rintro e w4 ⟨rfl, rfl⟩
      have ht := hto wr (Below.refl _ _)
      clear hto hh
      go_wp2_with fail
      refine ht.mono ?_
      rintro e w5 ⟨rfl, hB5⟩
      go_wp2
      go_ret
      exact ⟨rfl, below_chain HB1.out (below_chain HBP.out hB5)⟩
end Go.Proofs.Ytepnillddlemaaa
