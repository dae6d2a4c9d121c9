/- What a row reads of an argument, and how much it holds. Conditions stand in each theorem. -/
import Derived.Test.YtepnillddlemaaaRows
import Derived.Test.YtepnillddlemaaaOpen
set_option linter.unusedVariables false
set_option linter.unusedSimpArgs false
namespace TG
/-- how much a list holds; two values, one behind the other -/
def mSl {α : Type} (m : α → Nat) (l : List α) : Nat := (l.map m).sum + 1
def mPr {α β : Type} (m : α → Nat) (k : β → Nat) (x : α × β) : Nat := m x.1 + k x.2
def mOne {α : Type} (_ : α) : Nat := 1
def mTx (l : List UInt8) : Nat := l.length + 1
end TG
namespace Go.Proofs.Ytepnillddlemaaa
open Go Go.RowKit Go.Proofs Go.ChangeShapes Go.WideShapes TG

theorem bulk_le {H : Type} {d : DataW H} {l : List (DataW H)} (h : d ∈ l) : Rows.uptoBulk d ≤ Rows.uptoBulkAll l := by
  induction l with
  | nil => cases h
  | cons x r ih =>
    simp only [Rows.uptoBulkAll]
    cases List.mem_cons.1 h with
    | inl e => subst e; omega
    | inr e => have := ih e; omega
theorem bulk_sum {α H : Type} (m : α → Nat) : ∀ (l : List α) (ds : List (DataW H)), l.length ≤ ds.length → (∀ j (h1 : j < l.length) (h2 : j < ds.length), m l[j] ≤ Rows.uptoBulk ds[j]) → (l.map m).sum ≤ Rows.uptoBulkAll ds
  | [], ds, _, _ => by simp
  | x :: l, [], h, _ => by simp at h
  | x :: l, d :: ds, h, hj => by
    simp only [List.map_cons, List.sum_cons, Rows.uptoBulkAll]
    have h0 := hj 0 (by simp) (by simp)
    have ih := bulk_sum m l ds (by simpa using h) (fun j h1 h2 => by have := hj (j + 1) (by simpa using h1) (by simpa using h2); simpa using this)
    simp only [List.getElem_cons_zero] at h0
    omega
theorem bulk_one {H : Type} (d : DataW H) : 1 ≤ Rows.uptoBulk d := by
  cases d with
  | lit l => cases l <;> simp [Rows.uptoBulk]
  | nil => simp [Rows.uptoBulk]
  | ptr d => simp [Rows.uptoBulk]
  | slice elems spare => simp [Rows.uptoBulk]
  | agg parts => simp [Rows.uptoBulk]
  | iface t d => simp [Rows.uptoBulk]
  | map entries => simp [Rows.uptoBulk]
  | held h => simp [Rows.uptoBulk]

/-- what is read at the type t reads as d, and holds as much -/
def OpensB {α : Type} {H : Type} (enc : TypeId × Value → H) (P : Program) (t : TypeId) (d : Rd α) (m : α → Nat) : Prop :=
  ∀ (w : World) (fuel : Nat) (cs : List Value) (x : DataW H × List MemPlace), DataW.trod enc P w 0 (fun _ => true) true fuel t cs = some x → (∀ n ∈ x.1.weights P t, n ≤ reachBytes) → ∃ a : α, d.K (fun _ => True) w a cs ∧ m a ≤ Rows.uptoBulk x.1

section
variable {H : Type} {enc : TypeId × Value → H} {P : Program} {t : TypeId}
theorem opensB_of {α : Type} {d : Rd α} (h : Opens enc P t d) : OpensB enc P t d mOne := fun w fuel cs x hx hw => by
  obtain ⟨a, ha⟩ := h w fuel cs x hx hw
  exact ⟨a, ha, bulk_one _⟩
theorem opensB_txt (ht : P.underlying t = some .string) : OpensB enc P t Rd.txt mTx := by
  intro w fuel cs x h hw
  cases fuel with
  | zero => simp [DataW.trod] at h
  | succ n =>
    unfold DataW.trod at h
    rw [ht] at h
    split at h <;> simp_all
    rename_i s
    refine ⟨bs s, ?_⟩
    obtain ⟨h1, rfl⟩ := h
    have := hw (s.data.toList.length) (by simp [DataW.weights])
    have h2 : reachBytes ≤ 140737488355328 := by decide
    exact ⟨⟨by rw [mk8_bs], by show s.data.toList.length ≤ _; omega⟩, by simp [mTx, Rows.uptoBulk, bs]⟩
theorem opensB_slice {α : Type} {d : Rd α} {m : α → Nat} {e : TypeId} (hs : 0 < d.sz) (ht : P.underlying t = some (.slice e)) (hc : P.cellsOf e = d.sz) (hb : 1 ≤ P.bytesOf e) (ho : OpensB enc P e d m) : OpensB enc P t (Rd.slice d hs) (mSl m) := by
  intro w fuel cs x h hw
  rcases DataW.trod_slice ht h with ⟨rfl, rfl⟩ | ⟨a, len, cap, elems, rest, n, rfl, rfl, rfl, h0, h1, h2, h3, h4, h5, h6⟩
  · exact ⟨[], ⟨none, 0, rfl, Rd.S_nil _ _ _ _⟩, by simp [mSl]; exact bulk_one _⟩
  · have hW : ∀ m ∈ (DataW.slice (elems.map (·.1)) (rest.map (·.1))).weights P t, m ≤ reachBytes := hw
    simp only [DataW.weights, ht, List.mem_cons, List.mem_append, List.length_map] at hW
    have hlen : len ≤ 140737488355328 := by
      have h7 := hW _ (.inl rfl)
      have h8 : reachBytes ≤ 140737488355328 := by decide
      have h9 : (elems.length + rest.length) * 1 ≤ (elems.length + rest.length) * P.bytesOf e := Nat.mul_le_mul_left _ hb
      omega
    have hel : ∀ j, (hj : j < len) → ∃ y : α, (∃ cs, d.K (fun _ => True) w y cs ∧ ∀ i u, cs[i]? = some u → w.cell? (a.add (j * d.sz + i)) = some u) ∧ ∀ (h2 : j < elems.length), m y ≤ Rows.uptoBulk elems[j].1 := by
      intro j hj
      have h7 := h4 j hj
      have hj2 : j < elems.length := by omega
      rw [List.getElem?_eq_getElem hj2, Option.bind_eq_some_iff] at h7
      obtain ⟨cs, h8, h9⟩ := h7
      obtain ⟨y, hy, hm⟩ := ho w n cs elems[j] h9 (fun m hm => hW m (.inr (.inl (weights_all (by
        have : (elems.map (·.1))[j]? = some elems[j].1 := by simp [hj2]
        exact List.mem_of_getElem? this) m hm))))
      refine ⟨y, ⟨cs, hy, fun i u hi => ?_⟩, fun _ => hm⟩
      have h10 := World.cells?_some h8
      have hi2 : i < cs.length := (List.getElem?_eq_some_iff.1 hi).1
      rw [← add_add, ← hc]
      have h11 := h10.2.2 i (by have := h10.2.1; omega)
      rw [h11]
      exact hi
    have hl : ∃ l : List α, l.length = len ∧ (∀ j, (hj : j < l.length) → ∃ cs, d.K (fun _ => True) w l[j] cs ∧ ∀ i u, cs[i]? = some u → w.cell? (a.add (j * d.sz + i)) = some u) ∧ ∀ j (h1 : j < l.length) (h2 : j < elems.length), m l[j] ≤ Rows.uptoBulk elems[j].1 := by
      refine ⟨List.ofFn (fun j : Fin len => Classical.choose (hel j.val j.isLt)), by simp, fun j hj => ?_, fun j hj h2 => ?_⟩
      · have hj2 : j < len := by simpa using hj
        rw [List.getElem_ofFn]
        exact (Classical.choose_spec (hel j hj2)).1
      · have hj2 : j < len := by simpa using hj
        rw [List.getElem_ofFn]
        exact (Classical.choose_spec (hel j hj2)).2 h2
    obtain ⟨l, hl1, hl2, hl3⟩ := hl
    refine ⟨l, ⟨some a, cap, by rw [hl1], by omega, by omega, (fun h => by cases h), fun ad he j hj => by
      simp only [Option.some.injEq] at he
      subst he
      exact ⟨trivial, hl2 j hj⟩⟩, ?_⟩
    have hsum := bulk_sum m l (elems.map (·.1)) (by simp; omega) (fun j h1 h2 => by
      rw [List.getElem_map]
      exact hl3 j h1 (by simpa using h2))
    show mSl m l ≤ Rows.uptoBulkAll (elems.map (·.1)) + Rows.uptoBulkAll (rest.map (·.1)) + 1
    unfold mSl
    omega
def OpensFB {α : Type} {H : Type} (enc : TypeId × Value → H) (P : Program) (fs : List Field) (o : Nat) (d : Rd α) (m : α → Nat) : Prop :=
  ∀ (w : World) (n : Nat) (cs : List Value) (xs : List (DataW H × List MemPlace)), xs.length = fs.length → o + d.sz ≤ cs.length →
    (∀ (i : Nat) (f : Field), fs[i]? = some f → DataW.trod enc P w 0 (fun _ => true) true n f.type ((cs.drop f.offset).take (P.cellsOf f.type)) = xs[i]?) →
    (∀ m ∈ DataW.weightsEach P (fs.map (·.type)) (xs.map (·.1)), m ≤ reachBytes) → ∃ a : α, d.K (fun _ => True) w a ((cs.drop o).take d.sz) ∧ m a ≤ Rows.uptoBulkAll (xs.map (·.1))
theorem opensFB_one {α : Type} {d : Rd α} {m : α → Nat} {f : Field} (hc : P.cellsOf f.type = d.sz) (ho : OpensB enc P f.type d m) : OpensFB enc P [f] f.offset d m := by
  intro w n cs xs hl hle h hw
  match xs, hl with
  | [y], _ =>
    have h1 := h 0 f rfl
    rw [hc] at h1
    obtain ⟨a, h2, h3⟩ := ho w n _ y h1 (fun m hm => hw m (by simpa [DataW.weightsEach] using hm))
    exact ⟨a, h2, by simp only [List.map_cons, List.map_nil, Rows.uptoBulkAll]; omega⟩
theorem opensFB_cons {α β : Type} {d : Rd α} {e : Rd β} {m : α → Nat} {k : β → Nat} {f : Field} {fs : List Field} {o : Nat} (hc : P.cellsOf f.type = d.sz) (ho : OpensB enc P f.type d m) (hf : f.offset + d.sz = o) (hr : OpensFB enc P fs o e k) : OpensFB enc P (f :: fs) f.offset (Rd.pair d e) (mPr m k) := by
  intro w n cs xs hl hle h hw
  match xs, hl with
  | y :: ys, hl =>
    have h1 := h 0 f rfl
    rw [hc] at h1
    have hsz : (Rd.pair d e).sz = d.sz + e.sz := rfl
    simp only [List.map_cons, DataW.weightsEach, List.mem_append] at hw
    obtain ⟨a, ha, hma⟩ := ho w n _ y h1 (fun m hm => hw m (.inl hm))
    obtain ⟨b, hb, hmb⟩ := hr w n cs ys (by simpa using hl) (by omega) (fun i g hi => by have := h (i + 1) g (by simpa using hi); simpa using this) (fun m hm => hw m (.inr hm))
    refine ⟨(a, b), ⟨_, _, ?_, ha, hb⟩, by simp only [List.map_cons, Rows.uptoBulkAll, mPr]; omega⟩
    rw [← hf, ← List.drop_drop, hsz, List.take_add]
theorem opensB_struct {α : Type} {d : Rd α} {m : α → Nat} {fs : List Field} (ht : P.underlying t = some (.struct fs.toArray)) (hc : P.cellsOf t = d.sz) (hf : OpensFB enc P fs 0 d m) : OpensB enc P t d m := by
  intro w fuel cs x h hw
  obtain ⟨xs, n, rfl, rfl, h1, h2, h3⟩ := DataW.trod_struct ht h
  have hW : ∀ m ∈ (DataW.agg (xs.map (·.1))).weights P t, m ≤ reachBytes := hw
  simp only [DataW.weights, ht] at hW
  obtain ⟨a, ha, hm⟩ := hf w n cs xs (by simpa using h2) (by omega) (fun i f hi => h3 i f (by simpa using hi)) hW
  rw [List.drop_zero, List.take_of_length_le (by omega)] at ha
  exact ⟨a, ha, by simp only [Rows.uptoBulk]; omega⟩
/-- how much all hold together -/
theorem bulk_small {l : List (DataW H)} (hk : Rows.uptoSmall H l = true) : Rows.uptoBulkAll l ≤ 1048576 := of_decide_eq_true hk
end
end Go.Proofs.Ytepnillddlemaaa
