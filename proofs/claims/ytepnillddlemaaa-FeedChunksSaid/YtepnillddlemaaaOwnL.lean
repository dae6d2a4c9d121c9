/- Words on memory: slices of structured values that a call owns, and append onto them. Conditions stand in each theorem. -/
import Derived.Test.YtepnillddlemaaaRead
import Derived.OwnWalkIn
import Derived.RangeFuncBox
import Derived.Laws.OwnMore
set_option linter.unusedVariables false
set_option linter.unusedSimpArgs false
namespace TG
open Go Go.RowKit Go.Proofs

/-- a block of cells -/
def isC (w : World) (b : Nat) : Prop := ∃ C t fr, w.heap[b]? = some (.cells C t fr)
theorem isC_of_cell {w : World} {a : Addr} {v : Value} (h : w.cell? a = some v) : isC w a.block := by
  unfold World.cell? at h
  cases ho : w.heap[a.block]? with
  | none => simp [ho] at h
  | some o =>
    cases o with
    | cells C t fr => exact ⟨C, t, fr, ho⟩
    | _ => simp [ho] at h
theorem isC.same {w w' : World} {b : Nat} (h : isC w b) (he : w'.heap[b]? = w.heap[b]?) : isC w' b := by
  obtain ⟨C, t, fr, hc⟩ := h
  exact ⟨C, t, fr, he.trans hc⟩
theorem isC.lt {w : World} {b : Nat} (h : isC w b) : b < w.heap.size := by
  obtain ⟨C, t, fr, hc⟩ := h
  exact (Array.getElem?_eq_some_iff.1 hc).1

namespace Rd
variable {α : Type} {d : Rd α} {F F' : Nat → Prop} {w w' : World}
/-- what it leads to lies in blocks of cells -/
def CB (d : Rd α) : Prop := ∀ {F : Nat → Prop} {w : World} {x : α} {cs : List Value}, d.K F w x cs → d.K (fun b => F b ∧ isC w b) w x cs
theorem cb_plain (enc : α → Value) (h1 : ∀ x, (enc x).oneCell' = true) : (plain enc h1).CB := fun h => h
theorem S_cb (hd : d.CB) (hs : 0 < d.sz) {A : Option Addr} {c : Nat} {l : List α} (h : d.S F w A c l) : d.S (fun b => F b ∧ isC w b) w A c l :=
  ⟨h.1, h.2.1, h.2.2.1, fun ad he j hj => by
    obtain ⟨h1, cs, h2, h3⟩ := h.2.2.2 ad he j hj
    have hl := d.len h2
    have hc := isC_of_cell (h3 0 (cs[0]'(by omega)) (by simp [hl, hs]))
    rw [add_block] at hc
    exact ⟨⟨h1, hc⟩, cs, hd h2, h3⟩⟩
theorem cb_slice (hd : d.CB) (hs : 0 < d.sz) : (slice d hs).CB := fun ⟨A, c, h, k⟩ => ⟨A, c, h, S_cb hd hs k⟩
theorem cb_pair {β : Type} {e : Rd β} (hd : d.CB) (he : e.CB) : (pair d e).CB := fun ⟨c1, c2, h, k1, k2⟩ => ⟨c1, c2, h, hd k1, he k2⟩
theorem cb_via {β : Type} (f : β → α) (hd : d.CB) : (via d f).CB := fun h => hd h

theorem flatten_len (css : List (List Value)) (sz : Nat) (h : ∀ cs ∈ css, cs.length = sz) : css.flatten.length = css.length * sz := by
  induction css with
  | nil => simp
  | cons cs css ih =>
    rw [List.flatten_cons, List.length_append, ih (fun c hc => h c (by simp [hc])), h cs (by simp), List.length_cons, Nat.succ_mul]
    omega
theorem flatten_get (css : List (List Value)) (sz : Nat) (h : ∀ cs ∈ css, cs.length = sz) (j : Nat) (hj : j < css.length) (i : Nat) (hi : i < sz) : css.flatten[j * sz + i]? = css[j][i]? := by
  induction css generalizing j with
  | nil => simp at hj
  | cons cs css ih =>
    have hc := h cs (by simp)
    rw [List.flatten_cons]
    cases j with
    | zero => rw [Nat.zero_mul, Nat.zero_add, List.getElem?_append_left (by omega)]; rfl
    | succ j =>
      rw [Nat.succ_mul, List.getElem?_append_right (by omega), show j * sz + sz + i - cs.length = j * sz + i from by omega]
      exact ih (fun c hc => h c (by simp [hc])) j (by simpa using hj)

/-- A SLICE OF SUCH VALUES THAT IS THE CALL's OWN: what it leads to lies outside of X and of its own row. -/
def Own (d : Rd α) (X : Nat → Prop) (w : World) (base : Nat) (e : TypeId) (v : Value) (l : List α) : Prop :=
  ∃ (F : Nat → Prop) (css : List (List Value)), css.length = l.length ∧ w.ownsRow base e d.sz v l.length css.flatten ∧ (∀ b, F b → isC w b ∧ ¬ X b ∧ v.ownBlock ≠ some b) ∧
    ∀ j (h1 : j < l.length) (h2 : j < css.length), d.K F w l[j] css[j]

theorem Own.form {X : Nat → Prop} {base : Nat} {e : TypeId} {v : Value} {l : List α} (h : d.Own X w base e v l) : ∃ A c, v = .slice A l.length c := by
  obtain ⟨F, css, _, h1, _⟩ := h
  exact own_form h1
theorem Own.base {X : Nat → Prop} {base : Nat} {e : TypeId} {v : Value} {l : List α} (h : d.Own X w base e v l) (k : Nat) (hk : v.ownBlock = some k) : base ≤ k := by
  obtain ⟨F, css, _, h1, _⟩ := h
  exact own_base h1 k hk
theorem Own.nil (d : Rd α) (X : Nat → Prop) (w : World) (base : Nat) (e : TypeId) : d.Own X w base e (.slice none 0 0) [] :=
  ⟨fun _ => False, [], rfl, World.ownsRow_nil w base e d.sz, fun _ h => h.elim, fun j h1 => by simp at h1⟩
theorem css_len {l : List α} {css : List (List Value)} (hl : css.length = l.length) (h : ∀ j (h1 : j < l.length) (h2 : j < css.length), d.K F w l[j] css[j]) : ∀ cs ∈ css, cs.length = d.sz := by
  intro cs hcs
  obtain ⟨j, hj, rfl⟩ := List.mem_iff_getElem.1 hcs
  exact d.len (h j (by omega) hj)
theorem Own.kept {X : Nat → Prop} {base : Nat} {e : TypeId} {v : Value} {l : List α} {row : Option Nat} (h : d.Own X w base e v l) (hg : w.grownBy w' row) (hrow : ∀ r, row = some r → v.ownBlock ≠ some r ∧ (X r ∨ ¬ isC w r)) : d.Own X w' base e v l := by
  obtain ⟨F, css, h1, h2, h3, h4⟩ := h
  have hsame : ∀ b, F b → w'.heap[b]? = w.heap[b]? := fun b hb => hg.block b (h3 b hb).1.lt (fun e => by
    obtain ⟨_, k⟩ := hrow b e.symm
    rcases k with k | k
    · exact (h3 b hb).2.1 k
    · exact k (h3 b hb).1)
  refine ⟨F, css, h1, h2.kept hg ?_, fun b hb => ⟨(h3 b hb).1.same (hsame b hb), (h3 b hb).2⟩, fun j a b => d.move hsame (h4 j a b)⟩
  cases hr : row with
  | none => cases v.ownBlock <;> simp
  | some r =>
    have := (hrow r hr).1
    cases hv : v.ownBlock with
    | none => simp
    | some g =>
      rw [hv] at this
      simpa using fun e => this (by rw [e])
theorem Own.below {X : Nat → Prop} {base : Nat} {e : TypeId} {v : Value} {l : List α} (h : d.Own X w base e v l) (hb : Below w.heap.size w w') : d.Own X w' base e v l :=
  h.kept (row := none) ⟨hb.os, hb.tape, hb.output, hb.size, fun k hk _ => hb.block k hk⟩ (fun r e => by cases e)
theorem Own.alloc {X : Nat → Prop} {base : Nat} {e : TypeId} {v : Value} {l : List α} (h : d.Own X w base e v l) (o : Obj) : d.Own X (w.alloc o) base e v l := h.below ((Below.refl _ _).alloc (Nat.le_refl _) o)
theorem Own.weak {X X' : Nat → Prop} {base : Nat} {e : TypeId} {v : Value} {l : List α} (h : d.Own X w base e v l) (hX : ∀ b, X' b → X b) : d.Own X' w base e v l := by
  obtain ⟨F, css, h1, h2, h3, h4⟩ := h
  exact ⟨F, css, h1, h2, fun b hb => ⟨(h3 b hb).1, fun k => (h3 b hb).2.1 (hX b k), (h3 b hb).2.2⟩, h4⟩
theorem Own.more {X X' : Nat → Prop} {base : Nat} {e : TypeId} {v : Value} {l : List α} (h : d.Own X w base e v l) (hX : ∀ b, X' b → X b ∨ w.heap.size ≤ b) : d.Own X' w base e v l := by
  obtain ⟨F, css, h1, h2, h3, h4⟩ := h
  refine ⟨F, css, h1, h2, fun b hb => ⟨(h3 b hb).1, fun k => ?_, (h3 b hb).2.2⟩, h4⟩
  rcases hX b k with k | k
  · exact (h3 b hb).2.1 k
  · have := (h3 b hb).1.lt; omega
/-- a bound more -/
theorem Own.deep {X : Nat → Prop} {base base' : Nat} {e : TypeId} {v : Value} {l : List α} (h : d.Own X w base e v l) (hb : base' ≤ base) : d.Own X w base' e v l := by
  obtain ⟨F, css, h1, h2, h3, h4⟩ := h
  refine ⟨F, css, h1, ⟨h2.1, ?_⟩, h3, h4⟩
  rcases h2.2 with k | ⟨g, cap, cur, k1, k2, k3⟩
  · exact .inl k
  · exact .inr ⟨g, cap, cur, k1, Nat.le_trans hb k2, k3⟩
/-- it is read -/
theorem Own.S {X : Nat → Prop} {base : Nat} {e : TypeId} {A : Option Addr} {n c : Nat} {l : List α} (h : d.Own X w base e (.slice A n c) l) (hl : l.length ≤ 140737488355328) : d.S (fun _ => True) w A c l := by
  obtain ⟨F, css, h1, h2, h3, h4⟩ := h
  have hcl := css_len h1 h4
  rcases h2.2 with ⟨hv, h0⟩ | ⟨g, cap, cur, hv, hb, hh, k1, k2, k3, k4⟩
  · have hl0 : l = [] := List.eq_nil_of_length_eq_zero h0
    simp only [Value.slice.injEq] at hv
    obtain ⟨rfl, _, rfl⟩ := hv
    subst hl0
    exact S_nil d _ w 0
  · simp only [Value.slice.injEq] at hv
    obtain ⟨rfl, _, rfl⟩ := hv
    refine S_cells hh trivial l c hl k1 (fun j hj => ⟨css[j]'(by omega), d.mono (fun _ _ => trivial) (h4 j hj (by omega)), fun i u hi => ?_⟩)
    have hi2 : i < d.sz := by rw [← hcl _ (List.getElem_mem (show j < css.length by omega))]; exact (List.getElem?_eq_some_iff.1 hi).1
    have hlt : j * d.sz + i < l.length * d.sz := by
      have : (j + 1) * d.sz ≤ l.length * d.sz := Nat.mul_le_mul_right _ hj
      rw [Nat.succ_mul] at this
      omega
    have := flatten_get css d.sz hcl j (by omega) i hi2
    rw [← k4, List.getElem?_take, if_pos hlt, hi] at this
    rw [← Array.getElem?_toList]
    exact this

/-- what is read, as cells, one behind the other -/
theorem S_css {A : Option Addr} {c : Nat} {l : List α} (h : d.S F w A c l) : ∃ css : List (List Value), css.length = l.length ∧ (∀ j (h1 : j < l.length) (h2 : j < css.length), d.K F w l[j] css[j]) ∧ ∀ ad, A = some ad → ∀ j u, css.flatten[j]? = some u → w.cell? (ad.add j) = some u := by
  cases A with
  | none =>
    have := h.2.2.1 rfl
    subst this
    exact ⟨[], rfl, fun j h1 => by simp at h1, fun ad he => by cases he⟩
  | some ad =>
    have hk := fun j hj => (h.2.2.2 ad rfl j hj).2
    refine ⟨List.ofFn (fun j : Fin l.length => Classical.choose (hk j.val j.isLt)), by simp, fun j h1 h2 => ?_, fun ad' he j u hj => ?_⟩
    · rw [List.getElem_ofFn]
      exact (Classical.choose_spec (hk j h1)).1
    · simp only [Option.some.injEq] at he
      subst he
      have hcl : ∀ cs ∈ List.ofFn (fun j : Fin l.length => Classical.choose (hk j.val j.isLt)), cs.length = d.sz := by
        intro cs hcs
        obtain ⟨j, rfl⟩ := List.mem_ofFn.1 hcs
        exact d.len (Classical.choose_spec (hk j.val j.isLt)).1
      have hlt := (List.getElem?_eq_some_iff.1 hj).1
      rw [flatten_len _ _ hcl, List.length_ofFn] at hlt
      have hsz : 0 < d.sz := by
        rcases Nat.eq_zero_or_pos d.sz with h0 | h0
        · rw [h0] at hlt; omega
        · exact h0
      have hq : j / d.sz < l.length := Nat.div_lt_of_lt_mul (by rw [Nat.mul_comm]; exact hlt)
      have hr := Nat.mod_lt j hsz
      have hjj : j = j / d.sz * d.sz + j % d.sz := by rw [Nat.mul_comm]; exact (Nat.div_add_mod j d.sz).symm
      have h2 := flatten_get _ d.sz hcl (j / d.sz) (by simpa using hq) (j % d.sz) hr
      rw [← hjj, hj, List.getElem_ofFn] at h2
      have h3 := (Classical.choose_spec (hk (j / d.sz) hq)).2 (j % d.sz) u h2.symm
      rw [← hjj] at h3
      exact h3
end Rd

section
variable {P : Program}
/-- APPEND ONTO ONE's OWN; and where the row of the result lies. -/
theorem run_append_fresh (w : World) (base : Nat) (t ty e : TypeId) (i : TypeInfo) (z : Value) (size bytes : Nat) (ht : P.underlying t = some (.slice e)) (hi : P.info? e = some i) (hz : i.zero = some z)
    (hsize : i.size = size) (hby : i.bytes = bytes) (hzs : z.cells.size = size) (hsz : 0 < size)
    (v : Value) (n : Nat) (xs : List Value) (hown : w.ownsRow base e size v n xs)
    (a : Addr) (m c : Nat) (news : List Value) (hl : news.length = m * size) (hnews : ∀ j u, news[j]? = some u → w.cell? (a.add j) = some u) (h1 : ∀ u ∈ news, u.oneCell' = true)
    (h63 : n + m ≤ maxLen) (hbytes : (n + m) * bytes ≤ 140737488355328) (hbase : base ≤ w.heap.size) :
    ∃ v' w', (Builtin.append_ #[t, t] ty #[v, .slice (some a) m c]).run P w = .ok v' w' ∧ w'.ownsRow base e size v' (n + m) (xs ++ news) ∧ w.grownBy w' v.ownBlock ∧
      (∀ g, v'.ownBlock = some g → v.ownBlock = some g ∨ w.heap.size ≤ g) := by
  obtain ⟨v', w', k1, k2, k3, k4⟩ := run_append_own (P := P) w base t ty e i z size bytes ht hi hz hsize hby hzs hsz v n xs hown a m c news hl hnews h1 h63 hbytes hbase
  refine ⟨v', w', k1, k2, k3, fun g hg => ?_⟩
  rcases hown.2 with ⟨rfl, rfl⟩ | ⟨g0, cap, cur, rfl, hbg, hg0, hnc, hcm, hcs, htake⟩
  · have hx : xs = [] := List.eq_nil_of_length_eq_zero (by simpa using hown.1)
    subst hx
    obtain ⟨v2, w2, j1, j2, _⟩ := run_append_own (P := P) w w.heap.size t ty e i z size bytes ht hi hz hsize hby hzs hsz _ 0 [] (World.ownsRow_nil w w.heap.size e size) a m c news hl hnews h1 h63 hbytes (Nat.le_refl _)
    rw [k1] at j1
    cases j1
    exact .inr (own_base j2 g hg)
  · have hlen : (xs ++ news).length = (n + m) * i.size := by rw [List.length_append, hown.1, hl, Nat.add_mul, hsize]
    by_cases hroom : n + m ≤ cap
    · have hfit : n * i.size + news.length ≤ cur.size := by rw [hl, hcs, hsize, ← Nat.add_mul]; exact Nat.mul_le_mul_right _ hroom
      have hr := run_append_room (P := P) w t ty e i ht hi g0 n cap cur hg0 a m c news (by rw [hl, hsize]) hnews h1 hroom hfit
      rw [k1] at hr
      cases hr
      exact .inl hg
    · have holds : ∀ j u, xs[j]? = some u → w.cell? ((⟨g0, 0, none⟩ : Addr).add j) = some u := hown.cells (g := g0) rfl
      have hr := run_append_grow (P := P) w t ty e i z ht hi hz ⟨g0, 0, none⟩ n cap xs (by rw [hsize]; exact hown.1) holds a m c news (by rw [hl, hsize]) hnews (by omega) (by simp only [maxLen] at h63; omega) (growslice_fits (by omega) (by rw [hby]; exact hbytes))
      rw [k1] at hr
      cases hr
      simp [Value.ownBlock] at hg
      exact .inr (by omega)

/-- what an element's type must be -/
def TypeOK (P : Program) (t e : TypeId) (size bytes : Nat) : Prop := P.underlying t = some (.slice e) ∧ ∃ (i : TypeInfo) (z : Value), P.info? e = some i ∧ i.zero = some z ∧ i.size = size ∧ i.bytes = bytes ∧ z.cells.size = size ∧ 0 < size
theorem typeOK_of {t e : TypeId} {z : Value} {size bytes : Nat} (h1 : P.underlying t = some (.slice e)) (h2 : (P.info? e).map (fun i => (i.zero, i.size, i.bytes)) = some (some z, size, bytes)) (h3 : z.cells.size = size) (h4 : 0 < size) : TypeOK P t e size bytes := by
  obtain ⟨i, hi, hz0, hz1, hz2⟩ := info_parts h2
  exact ⟨h1, i, z, hi, hz0, hz1, hz2, h3, h4⟩

theorem run_appS {α : Type} {d : Rd α} (hd : d.CB) {w : World} (X : Nat → Prop) (base : Nat) (t ty e : TypeId) (bytes : Nat) (hT : TypeOK P t e d.sz bytes) (v : Value) (l : List α) (h : d.Own X w base e v l)
    (A : Option Addr) (c : Nat) (F : Nat → Prop) (l2 : List α) (h2 : d.S F w A c l2) (hF : ∀ b, F b → isC w b → ¬ X b ∧ v.ownBlock ≠ some b) (hb : (l.length + l2.length) * bytes ≤ 140737488355328) (hb2 : l.length + l2.length ≤ 140737488355328) (hbase : base ≤ w.heap.size) :
    ∃ A' c' w', (Builtin.append_ #[t, t] ty #[v, .slice A l2.length c]).run P w = .ok (.slice A' (l ++ l2).length c') w' ∧ d.Own X w' base e (.slice A' (l ++ l2).length c') (l ++ l2) ∧ w.grownBy w' v.ownBlock ∧
      (∀ g, (Value.slice A' (l ++ l2).length c').ownBlock = some g → v.ownBlock = some g ∨ w.heap.size ≤ g) := by
  obtain ⟨ht, i, z, hi, hz, hsz, hby, hzc, hs0⟩ := hT
  cases A with
  | none =>
    have h0 := h2.2.2.1 rfl
    subst h0
    obtain ⟨A1, c1, rfl⟩ := h.form
    refine ⟨A1, c1, w, ?_, by simpa using h, World.grownBy.refl _ _, fun g hg => .inl (by simpa [Value.ownBlock] using hg)⟩
    obtain ⟨F1, css, _, h3, _⟩ := h
    rw [List.append_nil]
    rcases h3.2 with ⟨hv, hn⟩ | ⟨g, cap, cur, hv, _, _, hnc, _⟩
    · simp only [Value.slice.injEq] at hv
      obtain ⟨rfl, _, rfl⟩ := hv
      simp [Builtin.append_, run_underlying ht, Go.sizeOf, typeInfo, hi, Builtin.lenOf, Builtin.firstCells, hn]
    · simp only [Value.slice.injEq] at hv
      obtain ⟨rfl, _, rfl⟩ := hv
      simp [Builtin.append_, run_underlying ht, Go.sizeOf, typeInfo, hi, Builtin.lenOf, Builtin.firstCells, hnc, storeCells]
  | some ad =>
    have h2' := Rd.S_cb hd hs0 h2
    obtain ⟨cs2, q1, q2, q3⟩ := Rd.S_css h2'
    obtain ⟨F1, css, p1, p2, p3, p4⟩ := h
    have hcl := Rd.css_len q1 q2
    obtain ⟨v', w', k1, k2, k3, k4⟩ := run_append_fresh (P := P) w base t ty e i z d.sz bytes ht hi hz hsz hby hzc hs0 v l.length css.flatten p2 ad l2.length c cs2.flatten (by rw [Rd.flatten_len _ _ hcl, q1]) (q3 ad rfl)
      (fun u hu => by
        obtain ⟨cs, hcs, hu2⟩ := List.mem_flatten.1 hu
        obtain ⟨j, hj, rfl⟩ := List.mem_iff_getElem.1 hcs
        exact d.one (q2 j (by omega) hj) u hu2)
      (by simp only [maxLen]; omega) hb hbase
    obtain ⟨A', c', rfl⟩ := own_form k2
    have hsame : ∀ b, (F1 b ∨ (F b ∧ isC w b)) → w'.heap[b]? = w.heap[b]? := fun b hb => by
      rcases hb with hb | hb
      · exact k3.block b (p3 b hb).1.lt (fun e => (p3 b hb).2.2 e.symm)
      · exact k3.block b hb.2.lt (fun e => (hF b hb.1 hb.2).2 e.symm)
    have hnot : ∀ b, b < w.heap.size → v.ownBlock ≠ some b → (Value.slice A' (l.length + l2.length) c').ownBlock ≠ some b := fun b hb hn e => by
      rcases k4 b e with k | k
      · exact hn k
      · omega
    refine ⟨A', c', w', by rw [List.length_append]; exact k1, ⟨fun b => F1 b ∨ (F b ∧ isC w b), css ++ cs2, by simp [p1, q1], by rw [List.length_append, List.flatten_append]; exact k2, fun b hb => ?_, fun j a1 a2 => ?_⟩, k3, by rw [List.length_append]; exact k4⟩
    · rw [List.length_append]
      have hs := hsame b hb
      rcases hb with hb | hb
      · exact ⟨(p3 b hb).1.same hs, (p3 b hb).2.1, hnot b (p3 b hb).1.lt (p3 b hb).2.2⟩
      · exact ⟨hb.2.same hs, (hF b hb.1 hb.2).1, hnot b hb.2.lt (hF b hb.1 hb.2).2⟩
    · refine d.move hsame ?_
      by_cases hj : j < l.length
      · rw [List.getElem_append_left hj, List.getElem_append_left (by omega)]
        exact d.mono (fun _ hb => .inl hb) (p4 j hj (by omega))
      · rw [List.getElem_append_right (by omega), List.getElem_append_right (by omega)]
        have := q2 (j - l.length) (by simp at a1; omega) (by simp at a2; omega)
        simp only [p1]
        exact d.mono (fun _ hb => .inr hb) this

theorem wp_appS {α : Type} {d : Rd α} (hd : d.CB) {w : World} {o : Oper} {a : Act} {K : Act → World → Prop} {Q : Exit → Act → World → Prop} (s x : Operand) (t : TypeId)
    (ho : o.op = .call { callee := .builtin .append, args := #[s, x], argTypes := #[t, t] })
    (X : Nat → Prop) (base : Nat) (e : TypeId) (bytes : Nat) (hT : TypeOK P t e d.sz bytes) (v : Value) (l : List α) (hs : a.eval s = v) (hown : d.Own X w base e v l)
    (A : Option Addr) (c n : Nat) (F : Nat → Prop) (l2 : List α) (hn : n = l2.length) (hx : a.eval x = .slice A n c) (h2 : d.S F w A c l2) (hF : ∀ b, F b → isC w b → ¬ X b ∧ v.ownBlock ≠ some b) (hb : (l.length + l2.length) * bytes ≤ 140737488355328) (hb2 : l.length + l2.length ≤ 140737488355328) (hbase : base ≤ w.heap.size)
    (h : ∀ A' c' w', d.Own X w' base e (.slice A' (l ++ l2).length c') (l ++ l2) → w.grownBy w' v.ownBlock → (∀ g, (Value.slice A' (l ++ l2).length c').ownBlock = some g → v.ownBlock = some g ∨ w.heap.size ≤ g) → K (a.put o.dst (.slice A' (l ++ l2).length c')) w') : o.wp P a w K Q := by
  subst hn
  obtain ⟨A', c', w', h1, h3, h4, h5⟩ := run_appS (P := P) hd X base t o.type e bytes hT v l hown A c F l2 h2 hF hb hb2 hbase
  unfold Oper.wp execOp
  simp only [ho, resolve, invoke, builtin, Sem.run_bind, Sem.run_pure, Result.andThen_ok, List.map_toArray, List.map_cons, List.map_nil, hs, hx, h1]
  exact h A' c' w' h3 h4 h5
theorem wpList_appS {α : Type} {d : Rd α} (hd : d.CB) {w : World} {ops : Array Oper} {rest : List Oper} {o : Oper} {a : Act} {Q : Exit → Act → World → Prop} (hgd : o.guard = none) (s x : Operand) (t : TypeId)
    (ho : o.op = .call { callee := .builtin .append, args := #[s, x], argTypes := #[t, t] })
    (X : Nat → Prop) (base : Nat) (e : TypeId) (bytes : Nat) (hT : TypeOK P t e d.sz bytes) (v : Value) (l : List α) (hs : a.eval s = v) (hown : d.Own X w base e v l)
    (A : Option Addr) (c n : Nat) (F : Nat → Prop) (l2 : List α) (hn : n = l2.length) (hx : a.eval x = .slice A n c) (h2 : d.S F w A c l2) (hF : ∀ b, F b → isC w b → ¬ X b ∧ v.ownBlock ≠ some b) (hb : (l.length + l2.length) * bytes ≤ 140737488355328) (hb2 : l.length + l2.length ≤ 140737488355328) (hbase : base ≤ w.heap.size)
    (h : ∀ A' c' w', d.Own X w' base e (.slice A' (l ++ l2).length c') (l ++ l2) → w.grownBy w' v.ownBlock → (∀ g, (Value.slice A' (l ++ l2).length c').ownBlock = some g → v.ownBlock = some g ∨ w.heap.size ≤ g) → wpList P ops Q rest (a.put o.dst (.slice A' (l ++ l2).length c')) w') : wpList P ops Q (o :: rest) a w :=
  wpList_plain hgd fun K hK => wp_appS hd s x t ho X base e bytes hT v l hs hown A c n F l2 hn hx h2 hF hb hb2 hbase (fun A' c' w' a1 a2 a3 => hK _ _ (h A' c' w' a1 a2 a3))
theorem wpListIn_appS {α : Type} {d : Rd α} (hd : d.CB) {FF : Fence} {nF : Nat} {w : World} {ops : Array Oper} {rest : List Oper} {o : Oper} {a : Act} {Q : Exit → Act → World → Prop} (hgd : o.guard = none) (s x : Operand) (t : TypeId)
    (ho : o.op = .call { callee := .builtin .append, args := #[s, x], argTypes := #[t, t] })
    (X : Nat → Prop) (base : Nat) (e : TypeId) (bytes : Nat) (hT : TypeOK P t e d.sz bytes) (v : Value) (l : List α) (hs : a.eval s = v) (hown : d.Own X w base e v l)
    (A : Option Addr) (c n : Nat) (F : Nat → Prop) (l2 : List α) (hn : n = l2.length) (hx : a.eval x = .slice A n c) (h2 : d.S F w A c l2) (hF : ∀ b, F b → isC w b → ¬ X b ∧ v.ownBlock ≠ some b) (hb : (l.length + l2.length) * bytes ≤ 140737488355328) (hb2 : l.length + l2.length ≤ 140737488355328) (hbase : base ≤ w.heap.size)
    (h : ∀ A' c' w', d.Own X w' base e (.slice A' (l ++ l2).length c') (l ++ l2) → w.grownBy w' v.ownBlock → (∀ g, (Value.slice A' (l ++ l2).length c').ownBlock = some g → v.ownBlock = some g ∨ w.heap.size ≤ g) → wpListIn FF nF P ops Q rest (a.put o.dst (.slice A' (l ++ l2).length c')) w') : wpListIn FF nF P ops Q (o :: rest) a w := by
  subst hn
  refine wpListIn_plain hgd fun K hK' => ?_
  obtain ⟨A', c', w', h1, h3, h4, h5⟩ := run_appS (P := P) hd X base t o.type e bytes hT v l hown A c F l2 h2 hF hb hb2 hbase
  unfold Oper.wpIn
  refine ⟨?_, ?_⟩
  · simp [Oper.about, ho, resolve, Target.leads, Sem.run_pure]
  · rw [Oper.semAt_plain FF _ _ (by rw [ho]; intro c hc'; cases hc')]
    simp [execOp, ho, resolve, invoke, builtin, hs, hx, h1, Result.andThen]
    have := hK' _ _ (h A' c' w' h3 h4 h5)
    rw [List.length_append] at this
    exact this
end

/-! what a variable's box holds, in a loop over an iterator -/
namespace Rd
variable {α : Type} {d : Rd α} {w w' : World}
theorem Own.noncells {X : Nat → Prop} {base : Nat} {e : TypeId} {v : Value} {l : List α} {row : Option Nat} (h : d.Own X w base e v l) (hr : ∀ r, row = some r → ∃ o : Obj, w.heap[r]? = some o ∧ o.isCells = false) : ∀ r, row = some r → v.ownBlock ≠ some r ∧ (X r ∨ ¬ isC w r) := by
  intro r he
  obtain ⟨o, ho, hc⟩ := hr r he
  obtain ⟨F, css, _, h2, _⟩ := h
  have hn : ¬ isC w r := by
    rintro ⟨C, t, fr, hC⟩
    rw [ho] at hC
    cases hC
    simp [Obj.isCells] at hc
  refine ⟨fun hv => ?_, .inr hn⟩
  rcases h2.2 with ⟨rfl, _⟩ | ⟨g, cap, cur, rfl, _, hg, _⟩
  · simp [Value.ownBlock] at hv
  · simp [Value.ownBlock] at hv
    subst hv
    exact hn ⟨_, _, _, hg⟩
theorem Own.not_box {X : Nat → Prop} {base : Nat} {e t : TypeId} {v u : Value} {l : List α} {B : Nat} (h : d.Own X w base e v l) (hb : Boxed w B t u) (hte : t ≠ e) : v.ownBlock ≠ some B := by
  obtain ⟨F, css, _, h2, _⟩ := h
  rcases h2.2 with ⟨rfl, _⟩ | ⟨g, cap, cur, rfl, _, hg, _⟩
  · simp [Value.ownBlock]
  · intro hv
    simp [Value.ownBlock] at hv
    subst hv
    have : w.heap[g]? = some (.cells #[u] t (0, 0)) := hb
    rw [hg] at this
    simp only [Option.some.injEq, Obj.cells.injEq] at this
    exact hte this.2.1.symm
theorem Own.lt {X : Nat → Prop} {base : Nat} {e : TypeId} {v : Value} {l : List α} (h : d.Own X w base e v l) {g : Nat} (hv : v.ownBlock = some g) : g < w.heap.size := by
  obtain ⟨F, css, _, h2, _⟩ := h
  rcases h2.2 with ⟨rfl, _⟩ | ⟨g0, cap, cur, rfl, _, hg, _⟩
  · simp [Value.ownBlock] at hv
  · simp [Value.ownBlock] at hv
    subst hv
    exact (Array.getElem?_eq_some_iff.1 hg).1
theorem Own.setBox {base : Nat} {e : TypeId} {v : Value} {l : List α} {B : Nat} (h : d.Own (fun b => b = B) w base e v l) (hv : v.ownBlock ≠ some B) (u : Value) : d.Own (fun b => b = B) (w.setCell ⟨B, 0, none⟩ u) base e v l :=
  h.kept (grownBy_setCell' w B u) (fun r he => by cases he; exact ⟨hv, .inl rfl⟩)
end Rd
theorem isC_box {w : World} {B : Nat} {t : TypeId} {u : Value} (h : Boxed w B t u) : isC w B := ⟨_, _, _, h⟩
theorem holds_own {α β : Type} {d : Rd α} (C B t base e : Nat) (X : Nat → Prop) (g : β → List α) : OwnFrom C (fun s W => ∃ v, Boxed W B t v ∧ d.Own X W base e v (g s)) := by
  rintro s W W' row ⟨v, h1, h2⟩ hg hr
  exact ⟨v, h1.kept hg (fun e => by
    obtain ⟨_, o, ho, hc⟩ := hr _ e.symm
    rw [show W.heap[B]? = _ from h1] at ho
    cases ho
    simp [Obj.isCells] at hc), h2.kept hg (h2.noncells (fun r e => (hr r e).2))⟩
theorem RB.own {w w' : World} {A : Option Addr} {c : Nat} {l : List UInt8} {row : Option Nat} (h : RB w A c l) (hg : w.grownBy w' row) (hr : ∀ r, row = some r → ∃ o : Obj, w.heap[r]? = some o ∧ o.isCells = false) : RB w' A c l :=
  ⟨h.1, h.2.1, h.2.2.1, fun ad he j hj => by
    have hc := h.2.2.2 ad he j hj
    have hi := isC_of_cell hc
    rw [World.cell?_of_block (w := w) (hg.block _ hi.lt (fun e => by
      obtain ⟨o, ho, hn⟩ := hr _ e.symm
      obtain ⟨C, t, fr, hC⟩ := hi
      rw [ho] at hC
      cases hC
      simp [Obj.isCells] at hn))]
    exact hc⟩
theorem rb_own {β : Type} (C : Nat) (A : β → Option Addr) (c : β → Nat) (l : β → List UInt8) : OwnFrom C (fun s W => RB W (A s) (c s) (l s)) := fun s W W' row h hg hr => h.own hg (fun r e => (hr r e).2)
/-- cells that are kept: a block of cells -/
theorem cells_own {β : Type} (C B : Nat) (t : TypeId) (cs : β → Array Value) (fr : Nat × Nat) : OwnFrom C (fun s W => W.heap[B]? = some (.cells (cs s) t fr)) := fun s W W' row h hg hr => (hg.block B (Array.getElem?_eq_some_iff.1 h).1 (fun e => by
  obtain ⟨_, o, ho, hc⟩ := hr _ e.symm
  rw [h] at ho
  cases ho
  simp [Obj.isCells] at hc)).trans h
/-- one element in a block of its own, read -/
theorem S_single {α : Type} {d : Rd α} {F : Nat → Prop} {w : World} {g : Nat} {e : TypeId} {fr : Nat × Nat} {x : α} {cs : List Value} (hg : w.heap[g]? = some (.cells cs.toArray e fr)) (hF : F g) (h : d.K F w x cs) : d.S F w (some ⟨g, 0, none⟩) 1 [x] :=
  Rd.S_cells hg hF [x] 1 (by simp) (by simp) (fun j hj => by
    obtain rfl : j = 0 := by simpa using hj
    exact ⟨cs, h, fun i u hi => by simpa using hi⟩)

namespace Rd
variable {α : Type} {d : Rd α} {w w' : World}
theorem flatten_set (css : List (List Value)) (sz : Nat) (h : ∀ cs ∈ css, cs.length = sz) (j : Nat) (hj : j < css.length) (f : Nat) (hf : f < sz) (u : Value) : css.flatten.set (j * sz + f) u = (css.set j (css[j].set f u)).flatten := by
  induction css generalizing j with
  | nil => simp at hj
  | cons cs css ih =>
    have hc := h cs (by simp)
    rw [List.flatten_cons]
    cases j with
    | zero => rw [Nat.zero_mul, Nat.zero_add, List.set_append_left _ _ (by omega)]; rfl
    | succ j =>
      rw [Nat.succ_mul, List.set_append_right _ _ (by omega), show j * sz + sz + f - cs.length = j * sz + f from by omega, ih (fun c hc => h c (by simp [hc])) j (by simpa using hj)]
      rfl
/-- a cell of one's own is written: one element is another one -/
theorem Own.set {X : Nat → Prop} {base g n c : Nat} {e : TypeId} {l : List α} (h : d.Own X w base e (.slice (some ⟨g, 0, none⟩) n c) l) (j : Nat) (hj : j < l.length) (f : Nat) (hf : f < d.sz) (x' : α) (u : Value) (hK : ∀ F w cs, d.K F w l[j] cs → d.K F w x' (cs.set f u)) :
    d.Own X (w.setCell ⟨g, j * d.sz + f, none⟩ u) base e (.slice (some ⟨g, 0, none⟩) n c) (l.set j x') ∧ w.grownBy (w.setCell ⟨g, j * d.sz + f, none⟩ u) (some g) := by
  obtain ⟨F, css, h1, h2, h3, h4⟩ := h
  have hcl := css_len h1 h4
  have hn : n = l.length := by
    obtain ⟨A', c', he⟩ := own_form h2
    simp only [Value.slice.injEq] at he
    exact he.2.1
  subst hn
  obtain ⟨k1, k2⟩ := h2.stored (j * d.sz + f) u
  have hsame : ∀ b, F b → (w.setCell ⟨g, j * d.sz + f, none⟩ u).heap[b]? = w.heap[b]? := fun b hb => k2.block b (h3 b hb).1.lt (fun e => (h3 b hb).2.2 (by rw [e]; rfl))
  refine ⟨⟨F, css.set j ((css[j]'(by omega)).set f u), by simp [h1], ?_, fun b hb => ⟨(h3 b hb).1.same (hsame b hb), (h3 b hb).2⟩, fun i a1 a2 => ?_⟩, k2⟩
  · rw [← flatten_set css d.sz hcl j (by omega) f hf u, List.length_set]
    exact k1
  · refine d.move hsame ?_
    have a1' : i < l.length := by simpa using a1
    by_cases e : i = j
    · subst e
      rw [List.getElem_set_self, List.getElem_set_self]
      exact hK _ _ _ (h4 i a1' (by omega))
    · rw [List.getElem_set_ne (by omega), List.getElem_set_ne (by omega)]
      exact h4 i a1' (by omega)
theorem Own.ptr {X : Nat → Prop} {base : Nat} {e : TypeId} {v : Value} {l : List α} (h : d.Own X w base e v l) (hl : 0 < l.length) : ∃ g c, v = .slice (some ⟨g, 0, none⟩) l.length c := by
  obtain ⟨F, css, _, h2, _⟩ := h
  rcases h2.2 with ⟨_, h0⟩ | ⟨g, cap, cur, rfl, _⟩
  · omega
  · exact ⟨g, cap, rfl⟩
theorem Own.frozen {X : Nat → Prop} {base g n c : Nat} {e : TypeId} {l : List α} (h : d.Own X w base e (.slice (some ⟨g, 0, none⟩) n c) l) (j : Nat) : w.frozen? ⟨g, j, none⟩ = false := by
  obtain ⟨F, css, _, h2, _⟩ := h
  have hn : n = l.length := by
    obtain ⟨A', c', he⟩ := own_form h2
    simp only [Value.slice.injEq] at he
    exact he.2.1
  subst hn
  exact h2.frozenAt j
theorem Own.empty (d : Rd α) (X : Nat → Prop) (w : World) (e : TypeId) : d.Own X (w.alloc (.cells #[] e)) w.heap.size e (.slice (some ⟨w.heap.size, 0, none⟩) 0 0) [] :=
  ⟨fun _ => False, [], rfl, own_empty w e d.sz, fun _ h => h.elim, fun j h1 => by simp at h1⟩
end Rd
end TG
