/- wound.Left, wound.Kept. Conditions stand in each theorem. -/
import Derived.Test.YtepnillddlemaaaWound3
set_option linter.unusedVariables false
set_option linter.unusedSimpArgs false
namespace TG
open Go Go.RowKit Go.Proofs
/-- what is kept of bytes where a block that came later is written -/
theorem RB.grown {w w' : World} {A : Option Addr} {c : Nat} {l : List UInt8} {row : Option Nat} (h : RB w A c l) (hg : w.grownBy w' row) (hr : ∀ r, row = some r → ∀ ad, A = some ad → 0 < l.length → ad.block ≠ r) : RB w' A c l :=
  ⟨h.1, h.2.1, h.2.2.1, fun ad he j hj => by
    have hc := h.2.2.2 ad he j hj
    have hi := isC_of_cell hc
    rw [World.cell?_of_block (w := w) (hg.block _ hi.lt (fun e => hr _ e.symm ad he (by omega) (by rw [add_blk])))]
    exact hc⟩
theorem wpListIn_app8 {P : Program} {FF : Fence} {nF : Nat} {w : World} {ops : Array Oper} {rest : List Oper} {o : Oper} {a : Act} {Q : Exit → Act → World → Prop} (hgd : o.guard = none) (s x : Operand) (t : TypeId)
    (ho : o.op = .call { callee := .builtin .append, args := #[s, x], argTypes := #[t, t] })
    (base e : Nat) (ht : P.underlying t = some (.slice e)) (hinfo : (P.info? e).map (fun i => (i.zero, i.size, i.bytes)) = some (some (.int .u8 0), 1, 1))
    (v : Value) (xs : List UInt8) (hs : a.eval s = v) (hown : w.ownsRow base e 1 v xs.length (bc xs)) (A : Option Addr) (c : Nat) (l : List UInt8) (hx : a.eval x = .slice A l.length c) (hr : RB w A c l)
    (hlen : xs.length + l.length ≤ 140737488355328) (hbase : base ≤ w.heap.size)
    (h : ∀ A' c' w', w'.ownsRow base e 1 (.slice A' (xs ++ l).length c') (xs ++ l).length (bc (xs ++ l)) → w.grownBy w' v.ownBlock → wpListIn FF nF P ops Q rest (a.put o.dst (.slice A' (xs ++ l).length c')) w') : wpListIn FF nF P ops Q (o :: rest) a w := by
  refine wpListIn_plain hgd fun K hK' => ?_
  obtain ⟨A', c', w', h1, h2, h3⟩ := run_app8 (P := P) (w := w) base t o.type e ht hinfo v xs hown A c l hr hlen hbase
  unfold Oper.wpIn
  refine ⟨?_, ?_⟩
  · simp [Oper.about, ho, resolve, Target.leads, Sem.run_pure]
  · rw [Oper.semAt_plain FF _ _ (by rw [ho]; intro c hc'; cases hc')]
    simp [execOp, ho, resolve, invoke, builtin, hs, hx, h1, Result.andThen]
    have := hK' _ _ (h A' c' w' h2 h3)
    rw [List.length_append] at this
    exact this
theorem grown_trans {X Y Z : World} {r : Option Nat} (h : X.grownBy Y r) (k : Y.grownBy Z r) : X.grownBy Z r :=
  ⟨k.os.trans h.os, k.tape.trans h.tape, k.output.trans h.output, Nat.le_trans h.size k.size, fun b hb hr => (k.block b (Nat.lt_of_lt_of_le hb h.size) hr).trans (h.block b hb hr)⟩
theorem grown_none {X Y : World} (h : X.grownBy Y none) (r : Option Nat) : X.grownBy Y r := ⟨h.os, h.tape, h.output, h.size, fun b hb _ => h.block b hb (by simp)⟩
/-- a step of an edit -/
theorem mv_take (fr : Nat) : ∀ (es : List Ed) (m : Nat) (h : m < es.length), mv fr (es.take (m + 1)) = mv fr (es.take m) + if es[m].1 ≤ fr then (es[m].2.2.length : Int) - es[m].2.1 else 0
  | [], m, h => by simp at h
  | e :: r, 0, _ => by simp [mv]
  | e :: r, m + 1, h => by
    have := mv_take fr r m (by simpa using h)
    simp only [List.take_succ_cons, mv, List.getElem_cons_succ] at this ⊢
    omega
end TG
namespace Go.Proofs.Ytepnillddlemaaa
open Go.RowKit Go.Shelf TG TG.Crc
attribute [local go_sem] Oper.semAt_some

theorem cb_bool : Rd.bool.CB := Rd.cb_plain _ _
theorem bool_type : TypeOK Try.prog 79 4 1 1 := typeOK_of (z := .bool false) Try.underlying79 (by kernel_rfl) rfl (by decide)
/-- ahead of a round: out's box, the iterator's two boxes, what lay before -/
def WI {α : Type} (d : Rd α) (t e : TypeId) (g : List PL → List α) (w : World) (Bo Bp Be : Nat) (A : Option Addr) (c : Nat) (x : List Sg) (A2 : Option Addr) (c2 : Nat) (es : List Ed) (pre : List PL) (X : World) : Prop :=
  (∃ v, Boxed X Bo t v ∧ d.Own (fun b => b = Bo) X w.heap.size e v (g pre)) ∧ (X.heap[Bp]? = some (.cells #[.slice A x.length c] 26 (0, 0)) ∧ X.heap[Be]? = some (.cells #[.slice A2 es.length c2] 75 (0, 0))) ∧ Below w.heap.size w X
theorem WI.own {α : Type} (d : Rd α) (t e : TypeId) (g : List PL → List α) (w : World) (Bo Bp Be : Nat) (A : Option Addr) (c : Nat) (x : List Sg) (A2 : Option Addr) (c2 : Nat) (es : List Ed) (C : Nat) (hC : w.heap.size ≤ C) : OwnFrom C (WI d t e g w Bo Bp Be A c x A2 c2 es) :=
  OwnFrom.and (holds_own C _ _ _ _ _ _) (OwnFrom.and (OwnFrom.and (cells_own C _ _ _ _) (cells_own C _ _ _ _)) (ownFrom_below (Nat.le_refl _) hC))
theorem WI.below {α : Type} {d : Rd α} {t e : TypeId} {g : List PL → List α} {w : World} {Bo Bp Be : Nat} {A : Option Addr} {c : Nat} {x : List Sg} {A2 : Option Addr} {c2 : Nat} {es : List Ed} {pre : List PL} {X Y : World} (h : WI d t e g w Bo Bp Be A c x A2 c2 es pre X) (hB : Below X.heap.size X Y) : WI d t e g w Bo Bp Be A c x A2 c2 es pre Y :=
  WI.own d t e g w Bo Bp Be A c x A2 c2 es w.heap.size (Nat.le_refl _) pre X Y none h ⟨hB.os, hB.tape, hB.output, hB.size, fun k hk _ => hB.block k hk⟩ (fun r e => by cases e)

theorem WI.took {α : Type} {d : Rd α} {t e : TypeId} {g : List PL → List α} {w : World} {Bo Bp Be : Nat} {A : Option Addr} {c : Nat} {x : List Sg} {A2 : Option Addr} {c2 : Nat} {es : List Ed} {pre : List PL} {y : PL} {z : α} {X W2 : World} {v v' : Value} {cs : Array Value}
    (n1 : t ≠ e) (n2 : 26 ≠ e) (n3 : 75 ≠ e) (b1 : Bo ≠ Bp) (b2 : Bo ≠ Be) (b3 : w.heap.size ≤ Bo)
    (hb : Boxed X Bo t v) (hv : d.Own (fun b => b = Bo) X w.heap.size e v (g pre)) (hp : X.heap[Bp]? = some (.cells #[.slice A x.length c] 26 (0, 0)) ∧ X.heap[Be]? = some (.cells #[.slice A2 es.length c2] 75 (0, 0))) (hB : Below w.heap.size w X)
    (hf : g (pre ++ [y]) = g pre ++ [z])
    (ho : d.Own (fun b => b = Bo) W2 w.heap.size e v' (g pre ++ [z])) (hg : (X.alloc (.cells cs e)).grownBy W2 v.ownBlock) (hfr : ∀ k, v'.ownBlock = some k → v.ownBlock = some k ∨ (X.alloc (.cells cs e)).heap.size ≤ k) :
    KeepsOthers X (W2.setCell ⟨Bo, 0, none⟩ v') ∧ WI d t e g w Bo Bp Be A c x A2 c2 es (pre ++ [y]) (W2.setCell ⟨Bo, 0, none⟩ v') := by
  have hn := hv.not_box hb n1
  have hs0 := hB.size
  have hx := hb.lt
  have hn' : v'.ownBlock ≠ some Bo := fun e => by
    rcases hfr _ e with k | k
    · exact hn k
    · simp at k; omega
  have hb2 : Boxed W2 Bo t v := (hb.alloc _).kept hg (fun e => hn e.symm)
  have hq1 : Boxed W2 Bp 26 (.slice A x.length c) := ((show Boxed X Bp 26 _ from hp.1).alloc _).kept hg (fun e => hv.not_box (show Boxed X Bp 26 _ from hp.1) n2 e.symm)
  have hq2 : Boxed W2 Be 75 (.slice A2 es.length c2) := ((show Boxed X Be 75 _ from hp.2).alloc _).kept hg (fun e => hv.not_box (show Boxed X Be 75 _ from hp.2) n3 e.symm)
  have hB3 : Below w.heap.size w W2 := (hB.alloc hs0 _).grown hg (by simp; omega) (fun k e => hv.base k e)
  have k1 : KeepsOthers (X.alloc (.cells cs e)) W2 := KeepsOthers.of_grownBy hg (fun r o he hr => by
    obtain ⟨F, css, _, h2, _⟩ := hv
    rcases h2.2 with ⟨rfl, _⟩ | ⟨k, cap, cur, rfl, _, hh, _⟩
    · simp [Value.ownBlock] at he
    · simp [Value.ownBlock] at he
      subst he
      rw [(Below.heap_alloc X (.cells cs e) _ (Array.getElem?_eq_some_iff.1 hh).1).trans hh] at hr
      cases hr
      rfl)
  exact ⟨((KeepsOthers.alloc X _).trans k1).trans (KeepsOthers.setCell _ _ _), ⟨v', hb2.set v', by rw [hf]; exact ho.setBox hn' v'⟩, ⟨hq1.other (by omega) v', hq2.other (by omega) v'⟩, hB3.setCell (p := ⟨Bo, 0, none⟩) b3 v'⟩
theorem pl_len {x : List Sg} {es : List Ed} {pre : List PL} {y : PL} (h : (pre ++ [y]).map plO <+: x.map (fun s => (s, leftB es s))) : pre.length + 1 ≤ x.length := by
  have h1 := h.length_le
  simp at h1
  omega

set_option maxRecDepth 100000 in
set_option maxHeartbeats 2000000 in
theorem left_calls (A : Option Addr) (c : Nat) (x : List Sg) (A2 : Option Addr) (c2 : Nat) (es : List Ed) (w : World) (h1 : Rd.seg.S (fun _ => True) w A c x) (h2 : RdE.S (fun _ => True) w A2 c2 es) (hx : ∀ p ∈ x, p.fr ≤ 1048576 ∧ p.n ≤ 1048576) (he : okE es) (hl : x.length ≤ 1000000) :
    Calls Try.prog 52 #[.slice A x.length c, .slice A2 es.length c2] w fun e w' => ∃ v, e = .returned v ∧ Rd.bool.Own (fun _ => False) w' w.heap.size 4 v (x.map (leftB es)) ∧ Below w.heap.size w w' := by
  refine (callsIn_wide (n := 5)).1 ?_
  refine callsIn_of_wp_marks Try.func52 rfl trivial ?_ rfl
  simp only [Try.ntmps52, List.size_toArray, List.length_cons, List.length_nil, Nat.reduceAdd, Nat.reduceSub, Array.replicate_succ, Array.replicate_zero, List.push_toArray, List.append_toArray, List.nil_append, List.cons_append]
  gi_wp2_with (refine ⟨trivial, ?_⟩; gi_at_call 99; refine (each_in _ _ _ _ _ _ _ _).mono ?_; rintro e w2 ⟨rfl, rfl⟩)
  obtain ⟨W, hW⟩ : ∃ W, W = (((w.alloc (.cells #[.slice none 0 0] 79)).alloc (.cells #[.slice A x.length c] 26)).alloc (.cells #[.slice A2 es.length c2] 75)) := ⟨_, rfl⟩
  have hsz : W.heap.size = w.heap.size + 3 := by rw [hW]; simp
  have h0 : WI Rd.bool 79 4 (fun pre => pre.map Prod.snd) w w.heap.size (w.heap.size + 1) (w.heap.size + 2) A c x A2 c2 es [] W := by
    rw [hW]
    refine ⟨⟨.slice none 0 0, ((Boxed.new w _ _).alloc _).alloc _, Rd.Own.nil _ _ _ _ _⟩, ⟨?_, ?_⟩, below_new (below_new (below_new (Below.refl _ _) _) _) _⟩
    · have := (Boxed.new (w.alloc (.cells #[.slice none 0 0] 79)) 26 (.slice A x.length c)).alloc (.cells #[.slice A2 es.length c2] 75)
      rw [World.size_alloc] at this
      exact this
    · have := Boxed.new ((w.alloc (.cells #[.slice none 0 0] 79)).alloc (.cells #[.slice A x.length c] 26)) 75 (.slice A2 es.length c2)
      rw [World.size_alloc, World.size_alloc] at this
      exact this
  rw [← hW, show w.heap.size + 1 + 1 = w.heap.size + 2 from rfl]
  clear hW
  refine Rf.rangeFunc_of rfl (by decide) (gf := 141) (lb := #[.pointer (some ⟨w.heap.size + 1, 0, none⟩), .pointer (some ⟨w.heap.size + 2, 0, none⟩)]) rfl trivial (enters_of Try.func141 (by kernel_rfl) rfl)
    (each1_seq 4 (by decide) (w.heap.size + 1) (w.heap.size + 2) A c x A2 c2 es hx he) (fun _ => rfl)
    (WI Rd.bool 79 4 (fun pre => pre.map Prod.snd) w w.heap.size (w.heap.size + 1) (w.heap.size + 2) A c x A2 c2 es) (WI.own _ _ _ _ _ _ _ _ _ _ _ _ _ _ _ (by omega)) (fun pre X h => ⟨h.2.1, Rd.S_below (by decide) h1 h.2.2, Rd.S_below (by decide) h2 h.2.2⟩) h0
    (fun pre y a' X => WI Rd.bool 79 4 (fun pre => pre.map Prod.snd) w w.heap.size (w.heap.size + 1) (w.heap.size + 2) A c x A2 c2 es pre X ∧ ((pre ++ [y]).map plO <+: x.map (fun s => (s, leftB es s))) ∧ a' = { tmps := #[.slice A x.length c, .slice A2 es.length c2, undef, undef, .slice none 0 0, .pointer (some ⟨w.heap.size, 0, none⟩), undef, .bool y.2, .slice A x.length c, .slice A2 es.length c2, .func (.func 141) #[] #[.pointer (some ⟨w.heap.size + 1, 0, none⟩), .pointer (some ⟨w.heap.size + 2, 0, none⟩)], .agg (segC y.1).toArray, .bool y.2, undef, undef, undef, undef, undef], defers := [] })
    ?own ?assign ?body ?done
  case own =>
    rintro pre y a' X X' row ⟨h3, h4⟩ hg hrow
    exact ⟨WI.own _ _ _ _ _ _ _ _ _ _ _ _ _ _ _ (by omega) pre X X' row h3 hg hrow, h4⟩
  case assign =>
    rintro lp pre y A0 X K hI0 hB0 hI ⟨hpf, hry⟩ hK
    gi_wp2
    exact hK _ _ (KeepsFrom.refl _ _) ⟨hI, hpf, rfl⟩
  case body =>
    rintro lp pre y a' X hlp ⟨rec, hrec⟩ ⟨⟨⟨v, hb, hv⟩, hp, hB⟩, hpf, rfl⟩
    have hpl := pl_len hpf
    obtain ⟨y1, L⟩ := y
    dsimp only at hv
    have hc := hb.cell
    have hnb := hv.not_box hb (by decide)
    have Hnb := Lib.hid hnb
    have hsz1 := hB.size
    have hS1 : Rd.bool.S (fun b => b = X.heap.size) (X.alloc (.cells #[.bool L] 4)) (some ⟨X.heap.size, 0, none⟩) 1 [L] := S_single (d := Rd.bool) (x := L) (cs := [.bool L]) (World.alloc_heap_new X _) rfl rfl
    have hbl := hb.lt
    have hF : ∀ b, b = X.heap.size → isC (X.alloc (.cells #[.bool L] 4)) b → ¬ b = w.heap.size ∧ v.ownBlock ≠ some b := by
      rintro b rfl _
      exact ⟨by omega, fun e => by have := hv.lt e; omega⟩
    dsimp only
    gi_wp2_with (gi_at_builtin; go_loud (refine wpListIn_appS (d := Rd.bool) cb_bool rfl _ _ 79 rfl (fun b => b = w.heap.size) w.heap.size 4 1 bool_type v (pre.map Prod.snd) rfl (hv.alloc _) (some ⟨X.heap.size, 0, none⟩) 1 1 _ [L] rfl rfl hS1 hF (by simp; omega) (by simp; omega) (by simp; omega) ?_); intro A' c' w3 hown' hgrow hfr; have hb2 := (hb.alloc _).kept hgrow (fun e => Hnb.out e.symm); have hc1 := hb2.cell; have hf1 := hb2.frozen; have HG := Lib.hid hgrow; have HO := Lib.hid hown'; have HFR := Lib.hid hfr; clear hgrow hown' hfr hb2)
    have := WI.took (g := fun pre => pre.map Prod.snd) (y := (y1, L)) (by decide) (by decide) (by decide) (by omega) (by omega) (Nat.le_refl _) hb hv hp hB (by simp) HO.out HG.out HFR.out
    rw [List.length_append, List.length_map] at this
    exact ⟨this.1.from _, this.2⟩
  case done =>
    rintro xs X hS ⟨⟨v, hb, hv⟩, hp, hB⟩ hK
    have hc := hb.cell
    rw [hsz] at hK
    gi_wp2
    refine ⟨by simp, .inl ⟨_, _, rfl, run_takeDeferred hK, ?_⟩⟩
    refine ⟨_, results_tmp rfl _ _ _, v, rfl, ?_, hB.trans (belowK_b (w := w) (Nat.le_refl _) X _ _ _ (by omega) hK rfl rfl)⟩
    have hxs : xs.map Prod.snd = x.map (leftB es) := by
      have := congrArg (List.map Prod.snd) (show xs.map plO = x.map (fun s => (s, leftB es s)) from hS)
      rw [List.map_map, List.map_map] at this
      exact this
    rw [← hxs]
    exact (hv.kept (grownBy_putObj' X _ _) (hv.noncells (fun r e => by cases e; exact ⟨_, hK, rfl⟩))).weak (fun b h => h.elim)
/-- what is kept of what has come -/
def kp (es : List Ed) (pre : List PL) : List Sg := (pre.filter (·.2)).map fun y => keep es y.1.1
theorem kp_all {x : List Sg} {es : List Ed} {xs : List PL} (h : xs.map plO = x.map (fun s => (s, leftB es s))) : kp es xs = kept x es := by
  have h1 : kp es xs = ((xs.map plO).filter (·.2)).map (fun z => keep es z.1) := by
    rw [List.filter_map, List.map_map]
    rfl
  rw [h1, h, List.filter_map, List.map_map]
  rfl
/-- ahead of a round of Kept -/
def KI (w : World) (A : Option Addr) (c : Nat) (x : List Sg) (A2 : Option Addr) (c2 : Nat) (es : List Ed) (pre : List PL) (X : World) : Prop :=
  WI Rd.seg 26 31 (kp es) w (w.heap.size + 1) (w.heap.size + 2) (w.heap.size + 3) A c x A2 c2 es pre X ∧ X.heap[w.heap.size]? = some (.cells #[.slice A2 es.length c2] 75 (0, 0))
theorem KI.own (w : World) (A : Option Addr) (c : Nat) (x : List Sg) (A2 : Option Addr) (c2 : Nat) (es : List Ed) (C : Nat) (hC : w.heap.size ≤ C) : OwnFrom C (KI w A c x A2 c2 es) :=
  OwnFrom.and (WI.own _ _ _ _ _ _ _ _ _ _ _ _ _ _ _ hC) (cells_own C _ _ _ _)
def kaT (w : World) (A : Option Addr) (c : Nat) (x : List Sg) (A2 : Option Addr) (c2 : Nat) (es : List Ed) (y : PL) (Bx : Nat) : Act := { tmps := #[.slice A x.length c, .slice A2 es.length c2, undef, .pointer (some ⟨w.heap.size, 0, none⟩), .slice none 0 0, .pointer (some ⟨w.heap.size + 1, 0, none⟩), .pointer (some ⟨Bx, 0, none⟩), .bool y.2, undef, undef, undef, .slice A x.length c, .slice A2 es.length c2, .func (.func 141) #[] #[.pointer (some ⟨w.heap.size + 2, 0, none⟩), .pointer (some ⟨w.heap.size + 3, 0, none⟩)], .agg (segC y.1).toArray, .bool y.2, undef, undef, undef, undef, undef, undef, undef, undef, undef, undef, undef, undef, undef, undef, undef, undef, undef, undef, undef, undef, undef, undef, undef, undef, undef, undef, undef, undef, undef, undef, undef, undef, undef, undef, undef, undef], defers := [] }
/-- in a round of Kept -/
def KA (w : World) (A : Option Addr) (c : Nat) (x : List Sg) (A2 : Option Addr) (c2 : Nat) (es : List Ed) (pre : List PL) (y : PL) (a' : Act) (X : World) : Prop :=
  ∃ Bx, (((∃ v, (Boxed X (w.heap.size + 1) 26 v ∧ Rd.seg.Own (fun b => b = w.heap.size + 1 ∨ b = Bx) X w.heap.size 31 v (kp es pre)) ∧ v.ownBlock ≠ some Bx) ∧
    ((X.heap[w.heap.size + 2]? = some (.cells #[.slice A x.length c] 26 (0, 0)) ∧ X.heap[w.heap.size + 3]? = some (.cells #[.slice A2 es.length c2] 75 (0, 0))) ∧ Below w.heap.size w X) ∧ X.heap[w.heap.size]? = some (.cells #[.slice A2 es.length c2] 75 (0, 0))) ∧
    RB X y.1.2.1 y.1.2.2 y.1.1.p ∧ X.heap[Bx]? = some (.cells (segC y.1).toArray 31 (0, 0))) ∧
    ((∀ ad, y.1.2.1 = some ad → 0 < y.1.1.p.length → ad.block ≠ Bx) ∧ w.heap.size + 3 < Bx ∧ (pre ++ [y]).map plO <+: x.map (fun s => (s, leftB es s)) ∧ a' = kaT w A c x A2 c2 es y Bx)
theorem KA.own (w : World) (A : Option Addr) (c : Nat) (x : List Sg) (A2 : Option Addr) (c2 : Nat) (es : List Ed) (pre : List PL) (y : PL) (C : Nat) (hC : w.heap.size ≤ C) : OwnFrom C (KA w A c x A2 c2 es pre y) := by
  rintro s W W' row ⟨Bx, ⟨⟨⟨v, h2, h3⟩, h4, h5⟩, h6⟩, h7⟩ hg hr
  have k1 := OwnFrom.and (OwnFrom.and (cells_own (β := Unit) C (w.heap.size + 2) 26 (fun _ => #[.slice A x.length c]) (0, 0)) (cells_own (β := Unit) C (w.heap.size + 3) 75 (fun _ => #[.slice A2 es.length c2]) (0, 0))) (ownFrom_below (B := C) (w₀ := w) (Nat.le_refl w.heap.size) hC)
  have k2 := OwnFrom.and (rb_own (β := Unit) C (fun _ => y.1.2.1) (fun _ => y.1.2.2) (fun _ => y.1.1.p)) (cells_own C Bx 31 (fun _ => (segC y.1).toArray) (0, 0))
  have k3 := cells_own (β := Unit) C w.heap.size 75 (fun _ => #[.slice A2 es.length c2]) (0, 0)
  refine ⟨Bx, ⟨⟨⟨v, ?_, h3⟩, k1 () W W' row h4 hg hr, k3 () W W' row h5 hg hr⟩, k2 () W W' row h6 hg hr⟩, h7⟩
  exact ⟨h2.1.kept hg (fun e => by
    obtain ⟨_, o, ho, hc⟩ := hr _ e.symm
    rw [show W.heap[w.heap.size + 1]? = _ from h2.1] at ho
    cases ho
    simp [Obj.isCells] at hc), h2.2.kept hg (h2.2.noncells (fun r e => (hr r e).2))⟩
theorem KA.enter {w : World} {A : Option Addr} {c : Nat} {x : List Sg} {A2 : Option Addr} {c2 : Nat} {es : List Ed} {pre : List PL} {y : PL} {X : World} (hI : KI w A c x A2 c2 es pre X) (hry : RB X y.1.2.1 y.1.2.2 y.1.1.p) (hpf : (pre ++ [y]).map plO <+: x.map (fun s => (s, leftB es s))) :
    ∀ a', a' = kaT w A c x A2 c2 es y X.heap.size → KA w A c x A2 c2 es pre y a' (X.alloc (.cells (segC y.1).toArray 31)) := by
  rintro a' rfl
  obtain ⟨⟨⟨v, h1, h2⟩, ⟨h3, h4⟩, h5⟩, h6⟩ := hI
  refine ⟨X.heap.size, ⟨⟨⟨v, ⟨h1.alloc _, (h2.more (fun b h => by rcases h with h | h <;> omega)).alloc _⟩, fun e => ?_⟩, ⟨⟨(show Boxed X _ 26 _ from h3).alloc _, (show Boxed X _ 75 _ from h4).alloc _⟩, below_new h5 _⟩, (show Boxed X _ 75 _ from h6).alloc _⟩, hry.alloc _, World.alloc_heap_new X _⟩, fun ad he hl => ?_, (Array.getElem?_eq_some_iff.1 h4).1, hpf, rfl⟩
  · have := h2.lt e; omega
  · have := isC_of_cell (hry.2.2.2 ad he 0 hl)
    rw [add_blk] at this
    have := this.lt
    omega

theorem kpart {X : World} {y : PS} {v : Value} {Bo : Nat} (hy : RB X y.2.1 y.2.2 y.1.p) (h : ∀ ad, y.2.1 = some ad → ad.block ≠ Bo ∧ v.ownBlock ≠ some ad.block) (hBo : Bo < X.heap.size) (hl : ∀ g, v.ownBlock = some g → g < X.heap.size) :
    ∃ F : Nat → Prop, Rd.seg.S F (X.alloc (.cells (segC y).toArray 31)) (some ⟨X.heap.size, 0, none⟩) 1 [y.1] ∧ ∀ b, F b → isC (X.alloc (.cells (segC y).toArray 31)) b → ¬ b = Bo ∧ v.ownBlock ≠ some b := by
  refine ⟨fun b => b = X.heap.size ∨ ∃ ad, y.2.1 = some ad ∧ b = ad.block, S_single (World.alloc_heap_new X _) (.inl rfl) ⟨y.2.1, y.2.2, rfl, Rd.u8_of_RB (hy.alloc _) fun ad he => .inr ⟨ad, he, rfl⟩⟩, ?_⟩
  rintro b (rfl | ⟨ad, he, rfl⟩) _
  · exact ⟨by omega, fun e => by have := hl _ e; omega⟩
  · exact h ad he
theorem kfacts {w Xo wr w3 : World} {Bx : Nat} {v : Value} {A : Option Addr} {c : Nat} {x : List Sg} {A2 : Option Addr} {c2 : Nat} {es : List Ed} {L : List Sg} {K n k : Nat} {is : Bool} {p : List UInt8} {P1 A7 : Option Addr} {d1 c7 : Nat}
    (hb : Boxed Xo (w.heap.size + 1) 26 v) (hv : Rd.seg.Own (fun b => b = w.heap.size + 1 ∨ b = Bx) Xo w.heap.size 31 v L) (hvx : v.ownBlock ≠ some Bx)
    (hp : Xo.heap[w.heap.size + 2]? = some (.cells #[.slice A x.length c] 26 (0, 0)) ∧ Xo.heap[w.heap.size + 3]? = some (.cells #[.slice A2 es.length c2] 75 (0, 0)))
    (hl0 : Xo.heap[w.heap.size]? = some (.cells #[.slice A2 es.length c2] 75 (0, 0))) (hB : Below w.heap.size w Xo) (hBx : w.heap.size + 3 < Bx) (hgq : Xo.grownBy wr (some Bx))
    (hXq : Blk wr Bx 31 [.int .i64 (K : Int), .int .i64 (n : Int), .bool is, .int .i64 (k : Int), .slice P1 p.length d1])
    (hown7 : w3.ownsRow wr.heap.size 5 1 (.slice A7 p.length c7) p.length (bc p)) (hgrow7 : wr.grownBy w3 none) (hpl : p.length ≤ 140737488355328) :
    Xo.grownBy (w3.setCell ⟨Bx, 4, none⟩ (.slice A7 p.length c7)) (some Bx) ∧ Boxed (w3.setCell ⟨Bx, 4, none⟩ (.slice A7 p.length c7)) (w.heap.size + 1) 26 v ∧
    Rd.seg.Own (fun b => b = w.heap.size + 1) (w3.setCell ⟨Bx, 4, none⟩ (.slice A7 p.length c7)) w.heap.size 31 v L ∧
    ((w3.setCell ⟨Bx, 4, none⟩ (.slice A7 p.length c7)).heap[w.heap.size + 2]? = some (.cells #[.slice A x.length c] 26 (0, 0)) ∧ (w3.setCell ⟨Bx, 4, none⟩ (.slice A7 p.length c7)).heap[w.heap.size + 3]? = some (.cells #[.slice A2 es.length c2] 75 (0, 0))) ∧
    (w3.setCell ⟨Bx, 4, none⟩ (.slice A7 p.length c7)).heap[w.heap.size]? = some (.cells #[.slice A2 es.length c2] 75 (0, 0)) ∧ Below w.heap.size w (w3.setCell ⟨Bx, 4, none⟩ (.slice A7 p.length c7)) ∧
    Blk w3 Bx 31 [.int .i64 (K : Int), .int .i64 (n : Int), .bool is, .int .i64 (k : Int), .slice P1 p.length d1] ∧
    Blk (w3.setCell ⟨Bx, 4, none⟩ (.slice A7 p.length c7)) Bx 31 [.int .i64 (K : Int), .int .i64 (n : Int), .bool is, .int .i64 (k : Int), .slice A7 p.length c7] ∧
    ∃ F : Nat → Prop, Rd.seg.S F ((w3.setCell ⟨Bx, 4, none⟩ (.slice A7 p.length c7)).alloc (.cells #[.int .i64 (K : Int), .int .i64 (n : Int), .bool is, .int .i64 (k : Int), .slice A7 p.length c7] 31)) (some ⟨w3.heap.size, 0, none⟩) 1 [⟨K, n, is, k, p⟩] ∧
      ∀ b, F b → isC ((w3.setCell ⟨Bx, 4, none⟩ (.slice A7 p.length c7)).alloc (.cells #[.int .i64 (K : Int), .int .i64 (n : Int), .bool is, .int .i64 (k : Int), .slice A7 p.length c7] 31)) b → ¬ b = w.heap.size + 1 ∧ v.ownBlock ≠ some b := by
  have hg : Xo.grownBy (w3.setCell ⟨Bx, 4, none⟩ (.slice A7 p.length c7)) (some Bx) := grown_trans (grown_trans hgq (grown_none hgrow7 _)) (grown_set w3 Bx 4 _)
  have hb4 := hb.kept hg (by simp; omega)
  have hv4 := (hv.kept hg (fun r e => by cases e; exact ⟨hvx, .inl (.inr rfl)⟩)).weak (X' := fun b => b = w.heap.size + 1) (fun b h => .inl h)
  have hX3 := hXq.kept hgrow7 (by simp)
  have hX4 := hX3.set 4 (.slice A7 p.length c7)
  have hsz : wr.heap.size ≤ w3.heap.size := hgrow7.size
  have hbx := hXq.lt
  have hsx := hgq.size
  have hbl := hb.lt
  have hr4 : RB (w3.setCell ⟨Bx, 4, none⟩ (.slice A7 p.length c7)) A7 c7 p := (own_RB hown7 hpl).grown (grown_set w3 Bx 4 _) (fun r e ad hA _ => by
    cases e
    subst hA
    have := own_base hown7 ad.block (by simp [Value.ownBlock])
    omega)
  obtain ⟨F, hS, hF⟩ := kpart (X := w3.setCell ⟨Bx, 4, none⟩ (.slice A7 p.length c7)) (y := (⟨K, n, is, k, p⟩, A7, c7)) (v := v) (Bo := w.heap.size + 1) hr4 (fun ad hA => by
    simp only at hA
    subst hA
    have h1 := own_base hown7 ad.block (by simp [Value.ownBlock])
    refine ⟨by omega, fun e => ?_⟩
    have := hv.lt e
    omega) (by rw [World.size_setCell]; omega) (fun g e => hv4.lt e)
  rw [World.size_setCell] at hS
  exact ⟨hg, hb4, hv4, ⟨(show Boxed Xo _ 26 _ from hp.1).kept hg (by simp; omega), (show Boxed Xo _ 75 _ from hp.2).kept hg (by simp; omega)⟩, (show Boxed Xo _ 75 _ from hl0).kept hg (by simp; omega), hB.grown hg hB.size (fun g e => by cases e; omega), hX3, hX4, F, hS, hF⟩
theorem pl_mem {x : List Sg} {es : List Ed} {pre : List PL} {s : Sg} {P : Option Addr} {d : Nat} {L : Bool} (h : (pre ++ [((s, P, d), L)]).map plO <+: x.map (fun s => (s, leftB es s))) : s ∈ x ∧ L = leftB es s := by
  have h1 : (s, L) ∈ x.map (fun s => (s, leftB es s)) := h.subset (by simp [plO])
  obtain ⟨t, h2, h3⟩ := List.mem_map.1 h1
  simp only [Prod.mk.injEq] at h3
  obtain ⟨rfl, rfl⟩ := h3
  exact ⟨h2, rfl⟩

set_option maxRecDepth 100000 in
set_option maxHeartbeats 4000000 in
theorem kept_calls (A : Option Addr) (c : Nat) (x : List Sg) (A2 : Option Addr) (c2 : Nat) (es : List Ed) (w : World) (h1 : Rd.seg.S (fun _ => True) w A c x) (h2 : RdE.S (fun _ => True) w A2 c2 es) (hx : ∀ p ∈ x, p.fr ≤ 1048576 ∧ p.n ≤ 1048576) (he : okE es) (hl : x.length ≤ 1000000) (hel : es.length ≤ 300) (hle : lenE es ≤ 1048576) (hpos : ∀ p ∈ x, leftB es p = true → 0 ≤ (p.fr : Int) + mv p.fr es) :
    Calls Try.prog 51 #[.slice A x.length c, .slice A2 es.length c2] w fun e w' => ∃ v, e = .returned v ∧ Rd.seg.Own (fun _ => False) w' w.heap.size 31 v (kept x es) ∧ Below w.heap.size w w' := by
  refine (callsIn_wide (n := 5)).1 ?_
  refine callsIn_of_wp_marks Try.func51 rfl trivial ?_ rfl
  simp only [Try.ntmps51, List.size_toArray, List.length_cons, List.length_nil, Nat.reduceAdd, Nat.reduceSub, Array.replicate_succ, Array.replicate_zero, List.push_toArray, List.append_toArray, List.nil_append, List.cons_append]
  gi_wp2_with (refine ⟨trivial, ?_⟩; gi_at_call 99; refine (each_in _ _ _ _ _ _ _ _).mono ?_; rintro e w2 ⟨rfl, rfl⟩)
  obtain ⟨W, hW⟩ : ∃ W, W = ((((w.alloc (.cells #[.slice A2 es.length c2] 75)).alloc (.cells #[.slice none 0 0] 26)).alloc (.cells #[.slice A x.length c] 26)).alloc (.cells #[.slice A2 es.length c2] 75)) := ⟨_, rfl⟩
  have hsz : W.heap.size = w.heap.size + 4 := by rw [hW]; simp
  have h0 : KI w A c x A2 c2 es [] W := by
    rw [hW]
    refine ⟨⟨⟨.slice none 0 0, ?_, Rd.Own.nil _ _ _ _ _⟩, ⟨?_, ?_⟩, below_new (below_new (below_new (below_new (Below.refl _ _) _) _) _) _⟩, ?_⟩
    · have := ((Boxed.new (w.alloc (.cells #[.slice A2 es.length c2] 75)) 26 (.slice none 0 0)).alloc (.cells #[.slice A x.length c] 26)).alloc (.cells #[.slice A2 es.length c2] 75)
      rw [World.size_alloc] at this
      exact this
    · have := (Boxed.new ((w.alloc (.cells #[.slice A2 es.length c2] 75)).alloc (.cells #[.slice none 0 0] 26)) 26 (.slice A x.length c)).alloc (.cells #[.slice A2 es.length c2] 75)
      rw [World.size_alloc, World.size_alloc] at this
      exact this
    · have := Boxed.new (((w.alloc (.cells #[.slice A2 es.length c2] 75)).alloc (.cells #[.slice none 0 0] 26)).alloc (.cells #[.slice A x.length c] 26)) 75 (.slice A2 es.length c2)
      rw [World.size_alloc, World.size_alloc, World.size_alloc] at this
      exact this
    · exact (((Boxed.new w 75 (.slice A2 es.length c2)).alloc _).alloc _).alloc _
  rw [← hW, show w.heap.size + 1 + 1 = w.heap.size + 2 from rfl, show w.heap.size + 2 + 1 = w.heap.size + 3 from rfl]
  clear hW
  refine Rf.rangeFunc_of rfl (by decide) (gf := 141) (lb := #[.pointer (some ⟨w.heap.size + 2, 0, none⟩), .pointer (some ⟨w.heap.size + 3, 0, none⟩)]) rfl trivial (enters_of Try.func141 (by kernel_rfl) rfl)
    (each1_seq 4 (by decide) (w.heap.size + 2) (w.heap.size + 3) A c x A2 c2 es hx he) (fun _ => rfl)
    (KI w A c x A2 c2 es) (KI.own _ _ _ _ _ _ _ _ (by omega)) (fun pre X h => ⟨h.1.2.1, Rd.S_below (by decide) h1 h.1.2.2, Rd.S_below (by decide) h2 h.1.2.2⟩) h0
    (KA w A c x A2 c2 es) ?own ?assign ?body ?done
  case own =>
    exact fun pre y => KA.own w A c x A2 c2 es pre y _ (by omega)
  case assign =>
    rintro lp pre y A0 X K hI0 hB0 hI ⟨hpf, hry⟩ hK
    have hE := KA.enter (X := X) hI hry hpf
    obtain ⟨⟨⟨fr, n, is, k, p⟩, P1, d1⟩, L⟩ := y
    dsimp only [segC]
    gi_wp2
    exact hK _ _ ((KeepsOthers.alloc _ _).from _) (hE _ rfl)
  case body =>
    rintro lp pre y a' X hlp ⟨rec, hrec⟩ ⟨Bx, ⟨⟨⟨v, ⟨hb, hv⟩, hvx⟩, ⟨hp, hB⟩, hl0⟩, hry, hbx⟩, hne, hBx, hpf, rfl⟩
    have hpl := pl_len hpf
    obtain ⟨⟨⟨fr, n, is, k, p⟩, P1, d1⟩, L⟩ := y
    obtain ⟨hmem, hL⟩ := pl_mem hpf
    have hxk := hx _ hmem
    have hps := hpos _ hmem
    dsimp only [segC, kaT] at *
    have hkl : (kp es pre).length ≤ pre.length := by unfold kp; rw [List.length_map]; exact List.length_filter_le _ _
    have hbl := (Array.getElem?_eq_some_iff.1 hbx).1
    cases L with
    | false =>
      clear hL hps
      gi_wp2
      exact ⟨KeepsFrom.refl _ _, ⟨⟨v, hb, by simpa [kp] using hv.weak (fun b h => .inl h)⟩, hp, hB⟩, hl0⟩
    | true =>
      have hps2 := hps hL.symm
      clear hL hps
      have hce : X.cell? ⟨w.heap.size, 0, none⟩ = some (.slice A2 es.length c2) := Boxed.cell (t := 75) hl0
      have q0 := Blk.cell (t := 31) hbx 0
      simp only [List.getElem?_cons_zero] at q0
      have HXq := Lib.hid (show Blk X Bx 31 [.int .i64 ((fr : Int) + mv fr (es.take 0)), .int .i64 (n : Int), .bool is, .int .i64 (k : Int), .slice P1 p.length d1] by rw [List.take_zero, show (fr : Int) + mv fr [] = fr from by simp [mv]]; exact hbx)
      have Hb := Lib.hid hb
      have Hl0 := Lib.hid hl0
      have Hbx := Lib.hid hbx
      have Hp := Lib.hid hp
      clear hb hl0 hbx hp hrec
      gi_wp2
      obtain ⟨Xo, hXo⟩ : ∃ Xo, Xo = X := ⟨_, rfl⟩
      subst hXo
      gi_loopw [22] (fun i wq => ∃ m : Nat, i = .int .i64 m ∧ m ≤ es.length ∧ Hid (Xo.grownBy wq (some Bx)) ∧ Hid (Blk wq Bx 31 [.int .i64 ((fr : Int) + mv fr (es.take m)), .int .i64 (n : Int), .bool is, .int .i64 (k : Int), .slice P1 p.length d1]) ∧ Hid (-((m : Int) * 2199023255552) ≤ mv fr (es.take m) ∧ mv fr (es.take m) ≤ (m : Int) * 2199023255552)) (fun i _ => es.length - (intOf i).toNat)
      case atStart => exact ⟨0, rfl, Nat.zero_le _, Lib.hid (World.grownBy.refl _ _), HXq, Lib.hid (by simp [mv])⟩
      case round =>
        obtain ⟨m, rfl, hm, hgq, hXq, hbd⟩ := hrel
        have m0 : (0 : Int) ≤ (m : Int) := Int.natCast_nonneg _
        have hBq : Below w.heap.size w wr := hB.grown hgq.out hB.size (fun g e => by cases e; omega)
        by_cases hml : m < es.length
        · obtain ⟨ad2, P2, d2, rfl, _, _, hz⟩ := ed_at (Rd.S_below (by decide) h2 hBq) m hml
          obtain ⟨z0, z1, z2⟩ := hz _ (Below.refl _ _)
          have hst := mv_take fr es m hml
          have hok := he _ (List.getElem_mem hml)
          have hlen : (es[m].2.2.length : Int) ≤ 1048576 := by
            have a1 := lenE_take es m hml
            have a2 := lenE_le es (m + 1)
            omega
          generalize es[m] = e at *
          obtain ⟨f, q, b⟩ := e
          dsimp only at *
          obtain ⟨b1, b2⟩ := hbd.out
          generalize hM : mv fr (es.take m) = M at *
          generalize hM' : mv fr (es.take (m + 1)) = M' at *
          have c0 := hXq.out.cell 0
          have f0 := hXq.out.frozen 0
          simp only [List.getElem?_cons_zero] at c0
          have hbw := (Array.getElem?_eq_some_iff.1 (show wr.heap[Bx]? = _ from hXq.out)).1
          have HM' := Lib.hid hM'
          have g0 : (0 : Int) ≤ (b.length : Int) := Int.natCast_nonneg _
          have g1 : (m : Int) ≤ 300 := by omega
          have g2 : (0 : Int) ≤ (fr : Int) ∧ (fr : Int) ≤ 1048576 := by omega
          obtain ⟨g3, g4⟩ := g2
          obtain ⟨o1, o2, o3, o4⟩ := hok
          have Hz := Lib.hid hz
          clear hM hM' hz hbd
          by_cases hfl : f ≤ (fr : Int)
          · rw [if_pos hfl] at hst
            have Hst := Lib.hid hst
            have HG2 := Lib.hid (grown_trans (grown_trans hgq.out (grown_set wr Bx 0 (.int .i64 ((fr : Int) + M + ((b.length : Int) - q))))) (World.grownBy_alloc _ (.cells #[.int .i64 f, .int .i64 q, .slice P2 b.length d2] 148) _))
            have HX2 := Lib.hid ((hXq.out.set 0 (.int .i64 ((fr : Int) + M + ((b.length : Int) - q)))).alloc (.cells #[.int .i64 f, .int .i64 q, .slice P2 b.length d2] 148))
            clear hst hgq hXq
            gi_wp2
            go_roundw
            case rel => exact ⟨m + 1, by go_num, by omega, HG2.out, by rw [HM'.out, Hst.out, ← Int.add_assoc]; exact HX2.out, Lib.hid (by rw [HM'.out, Hst.out]; omega)⟩
            case measure => simp [intOf]; omega
          · rw [if_neg hfl] at hst
            have Hst := Lib.hid hst
            have HG2 := Lib.hid (grown_trans hgq.out (World.grownBy_alloc wr (.cells #[.int .i64 f, .int .i64 q, .slice P2 b.length d2] 148) _))
            have HX2 := Lib.hid (hXq.out.alloc (.cells #[.int .i64 f, .int .i64 q, .slice P2 b.length d2] 148))
            clear hst hgq hXq
            gi_wp2
            go_roundw
            case rel => exact ⟨m + 1, by go_num, by omega, HG2.out, by rw [HM'.out, Hst.out, Int.add_zero]; exact HX2.out, Lib.hid (by rw [HM'.out, Hst.out]; omega)⟩
            case measure => simp [intOf]; omega
        · have htk : es.take m = es := List.take_of_length_le (by omega)
          rw [htk] at hXq
          obtain ⟨K, hK⟩ : ∃ K : Nat, (fr : Int) + mv fr es = (K : Int) := ⟨((fr : Int) + mv fr es).toNat, by omega⟩
          rw [hK] at hXq
          have hkeep : keep es ⟨fr, n, is, k, p⟩ = ⟨K, n, is, k, p⟩ := by
            unfold keep
            simp only [hK]
            rfl
          have HKe := Lib.hid hkeep
          have c4 := hXq.out.cell 4
          have f4 := hXq.out.frozen 4
          simp only [List.getElem?_cons_zero, List.getElem?_cons_succ] at c4
          have hbw := (Array.getElem?_eq_some_iff.1 (show wr.heap[Bx]? = _ from hXq.out)).1
          have hryq : RB wr P1 d1 p := hry.grown hgq.out (fun r e => by cases e; exact hne)
          have hpl2 := hry.2.1
          have hno := World.ownsRow_nil wr wr.heap.size 5 1
          have hsq := hgq.out.size
          clear hK hkeep htk hbd
          gi_wp2_with (gi_at_builtin; first
            | (refine wpListIn_app8 rfl _ _ 25 rfl wr.heap.size 5 Try.underlying25 info_u8 (.slice none 0 0) [] rfl hno P1 d1 p rfl hryq (by simp; omega) (Nat.le_refl _) ?_; intro A7 c7 w3 hown7 hgrow7; rw [List.nil_append] at hown7 ⊢; obtain ⟨kg, kb, kv, kb2, kl, kB, kX3, kX4, F, kS, kF⟩ := kfacts Hb.out hv hvx Hp.out Hl0.out hB hBx hgq.out hXq.out hown7 hgrow7 hpl2; have e4 := kX3.cell 4; have e5 := kX3.frozen 4; have r0 := kX4.cell 0; have r1 := kX4.cell 1; have r2 := kX4.cell 2; have r3 := kX4.cell 3; have r4 := kX4.cell 4; have rb := kb.cell; simp only [List.getElem?_cons_zero, List.getElem?_cons_succ] at e4 r0 r1 r2 r3 r4; have ksz := kB.size; rw [World.size_setCell] at ksz; have KB := Lib.hid kb; have KB2 := Lib.hid kb2; have KL := Lib.hid kl; have KBB := Lib.hid kB; have KG := Lib.hid kg; clear kX3 kX4 kb kb2 kl kB kg hown7 hgrow7)
            | (refine wpListIn_appS Rd.cb_seg rfl _ _ 26 rfl (fun b => b = w.heap.size + 1) w.heap.size 31 56 seg_type v (kp es pre) rfl (kv.alloc _) (some ⟨w3.heap.size, 0, none⟩) 1 1 F [⟨K, n, is, k, p⟩] rfl rfl kS kF (by simp; omega) (by simp; omega) (by simp; omega) ?_; intro A' c' w5 hown' hgrow hfr; have hb5 := (KB.out.alloc _).kept hgrow (fun e => kv.not_box KB.out (by decide) e.symm); have hc5 := hb5.cell; have hf5 := hb5.frozen; have HG := Lib.hid hgrow; have HO := Lib.hid hown'; have HFR := Lib.hid hfr; clear hgrow hown' hfr hb5))
          have ht := WI.took (g := kp es) (y := ((⟨fr, n, is, k, p⟩, P1, d1), true)) (by decide) (by decide) (by decide) (by omega) (by omega) (by omega) KB.out kv KB2.out KBB.out (by simp [kp, HKe.out]) HO.out HG.out HFR.out
          rw [List.length_append] at ht
          refine ⟨((KeepsOthers.of_grownBy KG.out (fun j o he ho => by
            cases he
            rw [show Xo.heap[Bx]? = _ from Hbx.out] at ho
            cases ho
            rfl)).trans ht.1).from _, ht.2, ?_⟩
          exact (((show Boxed _ _ 75 _ from KL.out).alloc _).kept HG.out (fun e => kv.not_box (show Boxed _ _ 75 _ from KL.out) (by decide) e.symm)).other (by omega) _
  case done =>
    rintro xs X hS ⟨⟨⟨v, hb, hv⟩, hp, hB⟩, hl⟩ hK
    have hc := hb.cell
    gi_wp2
    refine ⟨by simp, .inl ⟨_, _, rfl, run_takeDeferred hK, ?_⟩⟩
    refine ⟨_, results_tmp rfl _ _ _, v, rfl, ?_, hB.trans (belowK_b (w := w) (Nat.le_refl _) X _ _ _ (by omega) hK rfl rfl)⟩
    rw [← kp_all (show xs.map plO = x.map (fun s => (s, leftB es s)) from hS)]
    exact (hv.kept (grownBy_putObj' X _ _) (hv.noncells (fun r e => by cases e; exact ⟨_, hK, rfl⟩))).weak (fun b h => h.elim)
end Go.Proofs.Ytepnillddlemaaa
