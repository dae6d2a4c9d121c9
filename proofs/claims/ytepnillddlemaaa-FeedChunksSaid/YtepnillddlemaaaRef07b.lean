/- The reference of layer 7: the parts of a text. Conditions stand in each theorem. -/
import Derived.Test.YtepnillddlemaaaRef07
set_option linter.unusedVariables false
set_option linter.unusedSimpArgs false
namespace Go.Proofs.Ytepnillddlemaaa
open Go.RowKit Go.Shelf TG TG.Crc
attribute [local go_sem] Oper.semAt_some

/-- what holds of the parts that were told, ahead of a round -/
def OfRel (l : List UInt8) (out : List Sg) (i : Nat) : Prop := joinS out (sgs l i) = sgs l 0 ∧ (∀ x ∈ out, x.is = false → x = skp x.fr x.n) ∧ out.length ≤ i ∧ ∀ x ∈ out, x.n ≤ i
theorem OfRel.start (l : List UInt8) : OfRel l [] 0 := ⟨by cases sgs l 0 <;> rfl, by simp, Nat.zero_le _, by simp⟩
theorem OfRel.frame {l : List UInt8} {out : List Sg} {i : Nat} (h : OfRel l out i) (hi : i < l.length) (hE : wE l i = 0) : OfRel l (out ++ [frm l i]) (i + (fgB (l.drop i) + 4)) := by
  refine ⟨(joinS_frame l out i hi hE).trans h.1, fun x hx hf => ?_, ?_, fun x hx => ?_⟩
  · rcases List.mem_append.1 hx with hx | hx
    · exact h.2.1 x hx hf
    · simp at hx; subst hx; cases hf
  · have := h.2.2.1; simp; omega
  · rcases List.mem_append.1 hx with hx | hx
    · have := h.2.2.2 x hx; omega
    · simp at hx; subst hx; show fgB (l.drop i) + 4 ≤ _; omega
theorem OfRel.first {l : List UInt8} {out : List Sg} {i : Nat} (h : OfRel l out i) (hi : i < l.length) (hE : wE l i ≠ 0) (ho : ∀ x, out.getLast? = some x → x.is = true) : OfRel l (out ++ [skp i 1]) (i + 1) := by
  refine ⟨(joinS_first l out i hi hE ho).trans h.1, fun x hx hf => ?_, ?_, fun x hx => ?_⟩
  · rcases List.mem_append.1 hx with hx | hx
    · exact h.2.1 x hx hf
    · simp at hx; subst hx; rfl
  · have := h.2.2.1; simp; omega
  · rcases List.mem_append.1 hx with hx | hx
    · have := h.2.2.2 x hx; omega
    · simp at hx; subst hx; show 1 ≤ _; omega
theorem OfRel.longer {l : List UInt8} {q : List Sg} {f n i : Nat} (h : OfRel l (q ++ [skp f n]) i) (hi : i < l.length) (hE : wE l i ≠ 0) : OfRel l (q ++ [skp f (n + 1)]) (i + 1) := by
  refine ⟨(joinS_longer l q f n i hi hE).trans h.1, fun x hx hf => ?_, ?_, fun x hx => ?_⟩
  · rcases List.mem_append.1 hx with hx | hx
    · exact h.2.1 x (by simp [hx]) hf
    · simp at hx; subst hx; rfl
  · have := h.2.2.1; simp at this ⊢; omega
  · rcases List.mem_append.1 hx with hx | hx
    · have := h.2.2.2 x (by simp [hx]); omega
    · simp at hx; subst hx; have := h.2.2.2 (skp f n) (by simp); show n + 1 ≤ _; simp only [skp] at this; omega
theorem OfRel.done {l : List UInt8} {out : List Sg} {i : Nat} (h : OfRel l out i) (hi : l.length ≤ i) : out = sgs l 0 := by
  have := h.1
  rwa [sgs_end l i hi, joinS_nil] at this

set_option maxRecDepth 100000 in
set_option maxHeartbeats 2000000 in
theorem refof7_calls (l : List UInt8) (w : World) (hl : l.length ≤ 1000000) :
    Calls Try.prog 32 #[.string (mk8 l)] w fun e w' => ∃ v, e = .returned v ∧ Rd.seg.Own (fun _ => False) w' w.heap.size 31 v (sgs l 0) ∧ Below w.heap.size w w' := by
  have hsz : (mk8 l).size = l.length := rfl
  go_enter Try.func32, Try.ntmps32
  go_wp2
  go_loopw [3, 4] (fun v n wr => ∃ (out : List Sg) (i : Nat), n = .int .i64 i ∧ i ≤ l.length ∧ OfRel l out i ∧ Rd.seg.Own (fun _ => False) wr w.heap.size 31 v out ∧ Below w.heap.size w wr) (fun _ n _ => l.length - (intOf n).toNat)
  case atStart => exact ⟨[], 0, rfl, Nat.zero_le _, OfRel.start l, Rd.Own.empty _ _ _ _, below_new (Below.refl _ _) _⟩
  case round =>
    obtain ⟨out, i, rfl, hi, hR, hown, hB⟩ := hrel
    have j1 : (0 : Int) ≤ (i : Int) := Int.natCast_nonneg _
    have j2 : (i : Int) ≤ (l.length : Int) := by omega
    by_cases hlt : i < l.length
    · have hex := mk8_drop l i hi
      have hget := refget5_calls (l.drop i) wr (by simp; omega)
      have hol := hR.2.2.1
      have hsz0 := hB.size
      obtain ⟨A3, c3, rfl⟩ := hown.form
      by_cases hE : wE l i = 0
      · have hfr := hR.frame hlt hE
        obtain ⟨e1, e2, e3⟩ := g_some hE
        have hroom := fg_room (l.drop i) hE
        rw [List.length_drop] at hroom
        have hF : frm l i = ⟨i, fgB (l.drop i) + 4, true, fgK (l.drop i), fgP (l.drop i)⟩ := rfl
        rw [hF] at hfr
        have hE' : fgE (l.drop i) = 0 := hE
        generalize hdl : l.drop i = dl at *
        have hget' := hget.mono (R' := fun e w' => ∃ A2 c2, e = .returned (.tuple #[.agg #[.int .i64 (fgK dl : Int), .slice A2 (fgP dl).length c2], .int .i64 ((fgB dl + 4 : Nat) : Int), .int .i64 0]) ∧ RB w' A2 c2 (fgP dl) ∧ (∀ ad, A2 = some ad → wr.heap.size ≤ ad.block) ∧ Below wr.heap.size wr w') (fun e w' h => by
          obtain ⟨A2, c2, h1, h2, h3, h4⟩ := h
          rw [e1, e2, e3, hE'] at h1
          rw [e2] at h2
          exact ⟨A2, c2, h1, h2, h3, h4⟩)
        generalize fgB dl + 4 = n at *
        generalize fgK dl = kk at *
        generalize fgP dl = pp at *
        have Hfr := Lib.hid hfr
        clear hfr hR hget e1 e2 e3 hF hE hE' hdl
        obtain ⟨m, hm⟩ : ∃ m, m = out.length := ⟨_, rfl⟩
        rw [← hm] at hown hol ⊢
        have hm1 : m ≤ 1000000 := by omega
        have Hm := Lib.hid hm
        clear hm
        go_wp2_with fail
        refine hget'.mono ?_
        rintro e w1 ⟨A2, c2, rfl, hr2, hn2, hB2⟩
        have hX := below_new (below_chain hB hB2) (.cells #[.int .i64 (kk : Int), .slice A2 pp.length c2] 29)
        have hownX := (hown.below hB2).alloc (.cells #[.int .i64 (kk : Int), .slice A2 pp.length c2] 29)
        obtain ⟨F, hS1, hF⟩ := one_part (X := w1.alloc (.cells #[.int .i64 (kk : Int), .slice A2 pp.length c2] 29)) (v := .slice A3 m c3) (y := (⟨i, n, true, kk, pp⟩, A2, c2)) (Rd.u8_of_RB (F := fun b => ∃ ad, A2 = some ad ∧ b = ad.block) (hr2.alloc _) (fun ad h => ⟨ad, h, rfl⟩)) (fun b ⟨ad, h1, h2⟩ e => by have := hown.lt e; have := hn2 ad h1; omega) (fun g e => hownX.lt e)
        dsimp only [segC] at hS1 hF
        have hsX := hX.size
        rw [World.size_alloc] at hsX
        rw [World.size_alloc] at hS1
        have Hbase := Lib.hid (fun g e => hown.base g e)
        clear hr2 hn2 hB2 hget' hex hown
        go_wp2_with (at_builtin; go_loud (refine wpList_appS Rd.cb_seg rfl _ _ 26 rfl (fun _ => False) w.heap.size 31 56 seg_type (.slice A3 m c3) out rfl (hownX.alloc _) (some ⟨w1.heap.size + 1, 0, none⟩) 1 1 F [⟨i, n, true, kk, pp⟩] rfl rfl hS1 hF (by rw [← Hm.out]; simp; omega) (by rw [← Hm.out]; simp; omega) (by simp; omega) ?_); intro A' c' w3 hown' hgrow hfr')
        go_roundw
        case rel =>
          refine ⟨_, i + n, by go_num, by omega, Hfr.out, ?_, (below_new hX (.cells #[.int .i64 (i : Int), .int .i64 (n : Int), .bool true, .int .i64 (kk : Int), .slice A2 pp.length c2] 31)).grown hgrow (by simp; omega) (fun g e => Hbase.out g e)⟩
          rw [List.length_append] at hown'
          exact hown'
        case measure => simp [intOf]; omega
      · obtain ⟨e1, e2, e3⟩ := g_none (l := l.drop i) hE
        have hb1 : ((fgE (l.drop i) : Int) == 0) = false := by rw [beq_eq_false_iff_ne]; have : fgE (l.drop i) ≠ 0 := hE; omega
        generalize hdl : l.drop i = dl at *
        have hget' := hget.mono (R' := fun e w' => ∃ A2 c2, e = .returned (.tuple #[.agg #[.int .i64 0, .slice A2 0 c2], .int .i64 0, .int .i64 (fgE dl : Int)]) ∧ Below wr.heap.size wr w') (fun e w' h => by
          obtain ⟨A2, c2, h1, h2, h3, h4⟩ := h
          rw [e1, e2, e3] at h1
          exact ⟨A2, c2, h1, h4⟩)
        clear hget e1 e2 e3
        generalize fgE dl = E at *
        have hfirst : (∀ x, out.getLast? = some x → x.is = true) → OfRel l (out ++ [skp i 1]) (i + 1) := fun ho => hR.first hlt hE ho
        have Hdl := Lib.hid hdl
        have HE := Lib.hid hE
        clear hdl hE
        rcases List.eq_nil_or_concat out with rfl | ⟨q, x, rfl⟩
        · have Hfr := Lib.hid (hfirst (by simp))
          have Hbase := Lib.hid (fun g e => hown.base g e)
          clear hfirst hR
          simp only [List.length_nil] at hown hol ⊢
          go_wp2_with fail
          refine hget'.mono ?_
          rintro e w1 ⟨A2, c2, rfl, hB2⟩
          have hX := below_new (below_chain hB hB2) (.cells #[.int .i64 0, .slice A2 0 c2] 29)
          have hownX := (hown.below hB2).alloc (.cells #[.int .i64 0, .slice A2 0 c2] 29)
          obtain ⟨F, hS1, hF⟩ := one_part (F := fun _ => False) (X := w1.alloc (.cells #[.int .i64 0, .slice A2 0 c2] 29)) (v := .slice A3 0 c3) (y := (skp i 1, none, 0)) (Rd.S_nil _ _ _ _) (fun b h => h.elim) (fun g e => hownX.lt e)
          dsimp only [segC, skp, List.length_nil] at hS1 hF
          have hsX := hX.size
          rw [World.size_alloc] at hsX
          rw [World.size_alloc] at hS1
          clear hB2 hget' hex hown
          go_wp2_with (at_builtin; go_loud (refine wpList_appS Rd.cb_seg rfl _ _ 26 rfl (fun _ => False) w.heap.size 31 56 seg_type (.slice A3 0 c3) [] rfl (hownX.alloc _) (some ⟨w1.heap.size + 1, 0, none⟩) 1 1 F [skp i 1] rfl rfl hS1 hF (by simp) (by simp) (by simp; omega) ?_); intro A' c' w3 hown' hgrow hfr')
          go_roundw
          case rel =>
            exact ⟨_, i + 1, by go_num, by omega, Hfr.out, hown', (below_new hX (.cells #[.int .i64 (i : Int), .int .i64 1, .bool false, .int .i64 0, .slice none 0 0] 31)).grown hgrow (by simp; omega) (fun g e => Hbase.out g e)⟩
          case measure => simp [intOf]; omega
        · rw [List.concat_eq_append] at *
          have hmq : (q ++ [x]).length = q.length + 1 := by simp
          rw [hmq] at hol ⊢
          have hS := hown.S (by omega)
          obtain ⟨g, c4, hv⟩ := hown.ptr (by omega)
          simp only [Value.slice.injEq] at hv
          obtain ⟨rfl, _, rfl⟩ := hv
          obtain ⟨ad, P1, d1, had, hs1, hz1⟩ := seg_at hS q.length (by omega)
          simp only [Option.some.injEq] at had
          subst had
          simp only [add_zero0, List.getElem_concat_length] at hz1
          have hxn := hR.2.2.2 x (by simp)
          have hxs := hR.2.1 x (by simp)
          have hm0 : (0 : Int) ≤ (q.length : Int) := Int.natCast_nonneg _
          have hqb : q.length ≤ 1000000 := by omega
          have Hbase := Lib.hid (fun g e => hown.base g e)
          have hfirst' : x.is = true → OfRel l (q ++ [x] ++ [skp i 1]) (i + 1) := fun h => hfirst (fun y hy => by simp at hy; rw [← hy]; exact h)
          have hlonger : x = skp x.fr x.n → OfRel l (q ++ [skp x.fr (x.n + 1)]) (i + 1) := fun h => OfRel.longer (by rw [← h]; exact hR) hlt HE.out
          have HL := Lib.hid hlonger
          have HFI := Lib.hid hfirst'
          have HXS := Lib.hid hxs
          rw [hmq] at hown
          clear hs1 hfirst' hlonger hxs hfirst hR hS hmq
          generalize hqn : q.length = qn at *
          have Hqn := Lib.hid hqn
          clear hqn
          go_wp2_with fail
          refine hget'.mono ?_
          rintro e w1 ⟨A2, c2, rfl, hB2⟩
          have hX := below_new (below_chain hB hB2) (.cells #[.int .i64 0, .slice A2 0 c2] 29)
          have hownX := (hown.below hB2).alloc (.cells #[.int .i64 0, .slice A2 0 c2] 29)
          obtain ⟨y0, y1, y2, y3, y4⟩ := hz1 _ (below_new hB2 (.cells #[.int .i64 0, .slice A2 0 c2] 29))
          have hsX := hX.size
          rw [World.size_alloc] at hsX
          have hfz := hownX.frozen (qn * 5 + 1)
          clear hB2 hget' hex hown hz1
          obtain ⟨fr, n, is, k, p⟩ := x
          dsimp only at *
          cases is with
          | true =>
            obtain ⟨F, hS1, hF⟩ := one_part (F := fun _ => False) (X := w1.alloc (.cells #[.int .i64 0, .slice A2 0 c2] 29)) (v := .slice (some ⟨g, 0, none⟩) (qn + 1) c3) (y := (skp i 1, none, 0)) (Rd.S_nil _ _ _ _) (fun b h => h.elim) (fun g e => hownX.lt e)
            dsimp only [segC, skp, List.length_nil] at hS1 hF
            rw [World.size_alloc] at hS1
            have Hfr := Lib.hid (HFI.out rfl)
            obtain ⟨out, hout⟩ : ∃ out, out = q ++ [(⟨fr, n, true, k, p⟩ : Sg)] := ⟨_, rfl⟩
            rw [← hout] at hownX
            have hol2 : out.length = qn + 1 := by rw [hout, List.length_append, Hqn.out]; rfl
            have Hol := Lib.hid hol2
            have Hout := Lib.hid hout
            clear hol2 hout
            go_wp2_with (at_builtin; go_loud (refine wpList_appS Rd.cb_seg rfl _ _ 26 rfl (fun _ => False) w.heap.size 31 56 seg_type (.slice (some ⟨g, 0, none⟩) (qn + 1) c3) out rfl (hownX.alloc _) (some ⟨w1.heap.size + 1, 0, none⟩) 1 1 F [skp i 1] rfl rfl hS1 hF (by rw [Hol.out]; simp; omega) (by rw [Hol.out]; simp; omega) (by simp; omega) ?_); intro A' c' w3 hown' hgrow hfr')
            go_roundw
            case rel =>
              refine ⟨_, i + 1, by go_num, by omega, Hfr.out, ?_, (below_new hX (.cells #[.int .i64 (i : Int), .int .i64 1, .bool false, .int .i64 0, .slice none 0 0] 31)).grown hgrow (by simp; omega) (fun g e => Hbase.out g e)⟩
              rw [List.length_append] at hown'
              rw [← Hout.out]
              first | exact hown' | (rw [Hol.out] at hown'; exact hown')
            case measure => simp [intOf]; omega
          | false =>
            have hx2 := HXS.out rfl
            have Hx2 := Lib.hid hx2
            clear hx2
            go_wp2
            go_roundw
            case rel =>
              obtain rfl := Hqn.out
              have hx := Hx2.out
              have hst := hownX.set q.length (by simp) 1 (by decide) (skp fr (n + 1)) (.int .i64 ((n : Int) + 1)) (fun F W cs h => by
                simp only [List.getElem_concat_length] at h
                rw [hx] at h
                obtain ⟨A', c', rfl, hS⟩ := h
                exact ⟨A', c', by simp [segC, skp], hS⟩)
              have hse : (q ++ [(⟨fr, n, false, k, p⟩ : Sg)]).set q.length (skp fr (n + 1)) = q ++ [skp fr (n + 1)] := by
                rw [List.set_append_right _ _ (Nat.le_refl _), Nat.sub_self]
                rfl
              rw [hse] at hst
              exact ⟨_, i + 1, by go_num, by omega, HL.out hx, hst.1, hX.setCell (p := ⟨g, q.length * 5 + 1, none⟩) (Hbase.out g rfl) _⟩
            case measure => simp [intOf]; omega
    · have HE := Lib.hid (hR.done (by omega))
      go_wp2
      go_ret
      exact ⟨u3, rfl, by rw [← HE.out]; exact hown, hB⟩
end Go.Proofs.Ytepnillddlemaaa
