/- What a row reads of an argument, whatever its type, lies in memory as the words of Read say. Conditions stand in each theorem. -/
import Derived.Test.YtepnillddlemaaaRead
import Derived.Test.YtepnillddlemaaaCut
import Derived.SizedLaws
import Derived.ChangeArms
import Derived.ChangeSlices
import Derived.ProofKit
set_option linter.unusedVariables false
set_option linter.unusedSimpArgs false
namespace TG
open Go Go.RowKit Go.Proofs Go.ChangeShapes Go.WideShapes

namespace Rd
/-- whole numbers of a kind, in its range -/
def num (k : IntKind) : Rd Int where
  sz := 1
  K := fun _ _ x cs => cs = [.int k x] ∧ (Lit.int k x).wf = true
  len := fun h => by rw [h.1]; rfl
  one := fun h u hu => by rw [h.1] at hu; simp at hu; rw [hu]; rfl
  mono := fun _ h => h
  bound := fun h => h
  move := fun _ h => h
/-- texts that are not too long -/
def txt : Rd (List UInt8) where
  sz := 1
  K := fun _ _ x cs => cs = [.string (mk8 x)] ∧ x.length ≤ 140737488355328
  len := fun h => by rw [h.1]; rfl
  one := fun h u hu => by rw [h.1] at hu; simp at hu; rw [hu]; rfl
  mono := fun _ h => h
  bound := fun h => h
  move := fun _ h => h
end Rd

/-- what is read at the type t reads as d -/
def Opens {α : Type} {H : Type} (enc : TypeId × Value → H) (P : Program) (t : TypeId) (d : Rd α) : Prop :=
  ∀ (w : World) (fuel : Nat) (cs : List Value) (x : DataW H × List MemPlace), DataW.trod enc P w 0 (fun _ => true) true fuel t cs = some x → (∀ n ∈ x.1.weights P t, n ≤ reachBytes) → ∃ a : α, d.K (fun _ => True) w a cs

section
variable {H : Type} {enc : TypeId × Value → H} {P : Program} {t : TypeId}

theorem opens_num {k : IntKind} (ht : P.underlying t = some (.int k)) : Opens enc P t (Rd.num k) := by
  intro w fuel cs x h _
  cases fuel with
  | zero => simp [DataW.trod] at h
  | succ n =>
    unfold DataW.trod at h
    rw [ht] at h
    split at h <;> simp_all [Rd.num]
theorem opens_u8 (ht : P.underlying t = some (.int .u8)) : Opens enc P t Rd.u8 := by
  intro w fuel cs x h hw
  obtain ⟨a, h1, h2⟩ := opens_num ht w fuel cs x h hw
  have hb : 0 ≤ a ∧ a ≤ 255 := by
    have h3 : IntKind.u8.min = 0 := rfl
    have h4 : IntKind.u8.max = 255 := rfl
    simp [Lit.wf, h3, h4] at h2
    omega
  refine ⟨UInt8.ofNat a.toNat, ?_⟩
  show cs = _
  rw [h1]
  congr 2
  rw [UInt8.toNat_ofNat', Nat.mod_eq_of_lt (by omega)]
  omega
theorem opens_bool (ht : P.underlying t = some .bool) : Opens enc P t Rd.bool := by
  intro w fuel cs x h _
  cases fuel with
  | zero => simp [DataW.trod] at h
  | succ n =>
    unfold DataW.trod at h
    rw [ht] at h
    split at h <;> simp_all [Rd.bool, Rd.plain]
theorem opens_txt (ht : P.underlying t = some .string) : Opens enc P t Rd.txt := by
  intro w fuel cs x h hw
  cases fuel with
  | zero => simp [DataW.trod] at h
  | succ n =>
    unfold DataW.trod at h
    rw [ht] at h
    split at h <;> simp_all
    rename_i s
    refine ⟨bs s, ?_⟩
    obtain ⟨h1, rfl⟩ := h
    have := hw (s.data.toList.length) (by simp [DataW.weights])
    have h2 : reachBytes ≤ 140737488355328 := by decide
    exact ⟨by rw [mk8_bs], by show s.data.toList.length ≤ _; omega⟩
theorem weights_all {e : TypeId} {ds : List (DataW H)} {d : DataW H} (hd : d ∈ ds) : ∀ n ∈ d.weights P e, n ∈ DataW.weightsAll P e ds := by
  induction ds with
  | nil => cases hd
  | cons x ds ih =>
    intro n hn
    simp only [DataW.weightsAll, List.mem_append]
    rcases List.mem_cons.1 hd with rfl | h
    · exact .inl hn
    · exact .inr (ih h n hn)
theorem opens_slice {α : Type} {d : Rd α} {e : TypeId} (hs : 0 < d.sz) (ht : P.underlying t = some (.slice e)) (hc : P.cellsOf e = d.sz) (hb : 1 ≤ P.bytesOf e) (ho : Opens enc P e d) : Opens enc P t (Rd.slice d hs) := by
  intro w fuel cs x h hw
  rcases DataW.trod_slice ht h with ⟨rfl, rfl⟩ | ⟨a, len, cap, elems, rest, n, rfl, rfl, rfl, h0, h1, h2, h3, h4, h5, h6⟩
  · exact ⟨[], none, 0, rfl, Rd.S_nil _ _ _ _⟩
  · have hW : ∀ m ∈ (DataW.slice (elems.map (·.1)) (rest.map (·.1))).weights P t, m ≤ reachBytes := hw
    simp only [DataW.weights, ht, List.mem_cons, List.mem_append, List.length_map] at hW
    have hlen : len ≤ 140737488355328 := by
      have h7 := hW _ (.inl rfl)
      have h8 : reachBytes ≤ 140737488355328 := by decide
      have h9 : (elems.length + rest.length) * 1 ≤ (elems.length + rest.length) * P.bytesOf e := Nat.mul_le_mul_left _ hb
      omega
    have hel : ∀ j, j < len → ∃ y : α, ∃ cs, d.K (fun _ => True) w y cs ∧ ∀ i u, cs[i]? = some u → w.cell? (a.add (j * d.sz + i)) = some u := by
      intro j hj
      have h7 := h4 j hj
      have hj2 : j < elems.length := by omega
      rw [List.getElem?_eq_getElem hj2, Option.bind_eq_some_iff] at h7
      obtain ⟨cs, h8, h9⟩ := h7
      obtain ⟨y, hy⟩ := ho w n cs elems[j] h9 (fun m hm => hW m (.inr (.inl (weights_all (by
        have : (elems.map (·.1))[j]? = some elems[j].1 := by simp [hj2]
        exact List.mem_of_getElem? this) m hm))))
      refine ⟨y, cs, hy, fun i u hi => ?_⟩
      have h10 := World.cells?_some h8
      have hi2 : i < cs.length := (List.getElem?_eq_some_iff.1 hi).1
      rw [← add_add, ← hc]
      have h11 := h10.2.2 i (by have := h10.2.1; omega)
      rw [h11]
      exact hi
    have hl : ∃ l : List α, l.length = len ∧ ∀ j, (hj : j < l.length) → ∃ cs, d.K (fun _ => True) w l[j] cs ∧ ∀ i u, cs[i]? = some u → w.cell? (a.add (j * d.sz + i)) = some u := by
      refine ⟨List.ofFn (fun j : Fin len => Classical.choose (hel j.val j.isLt)), by simp, fun j hj => ?_⟩
      have hj2 : j < len := by simpa using hj
      rw [List.getElem_ofFn]
      exact Classical.choose_spec (hel j hj2)
    obtain ⟨l, hl1, hl2⟩ := hl
    exact ⟨l, some a, cap, by rw [hl1], by omega, by omega, (fun h => by cases h), fun ad he j hj => by
      simp only [Option.some.injEq] at he
      subst he
      exact ⟨trivial, hl2 j hj⟩⟩
theorem sized_at {ts : List TypeId} {ds : List (DataW H)} (h : (DataW.weightsEach P ts ds).all (· ≤ reachBytes) = true) {j : Nat} {t' : TypeId} {d : DataW H} (ht : ts[j]? = some t') (hd : ds[j]? = some d) : ∀ n ∈ d.weights P t', n ≤ reachBytes := fun n hn => by
  have := List.all_eq_true.1 h _ (DataW.weights_mem_each ht hd n hn)
  simpa using this
theorem weights_each {ts : List TypeId} {ds : List (DataW H)} {j : Nat} {t' : TypeId} {d : DataW H} (ht : ts[j]? = some t') (hd : ds[j]? = some d) : ∀ n ∈ d.weights P t', n ∈ DataW.weightsEach P ts ds := DataW.weights_mem_each ht hd
/-- fields, one behind the other: from a place on -/
def OpensF {α : Type} {H : Type} (enc : TypeId × Value → H) (P : Program) (fs : List Field) (o : Nat) (d : Rd α) : Prop :=
  ∀ (w : World) (n : Nat) (cs : List Value) (xs : List (DataW H × List MemPlace)), xs.length = fs.length → o + d.sz ≤ cs.length →
    (∀ (i : Nat) (f : Field), fs[i]? = some f → DataW.trod enc P w 0 (fun _ => true) true n f.type ((cs.drop f.offset).take (P.cellsOf f.type)) = xs[i]?) →
    (∀ m ∈ DataW.weightsEach P (fs.map (·.type)) (xs.map (·.1)), m ≤ reachBytes) → ∃ a : α, d.K (fun _ => True) w a ((cs.drop o).take d.sz)
theorem opensF_one {α : Type} {d : Rd α} {f : Field} (hc : P.cellsOf f.type = d.sz) (ho : Opens enc P f.type d) : OpensF enc P [f] f.offset d := by
  intro w n cs xs hl hle h hw
  match xs, hl with
  | [y], _ =>
    have h1 := h 0 f rfl
    rw [hc] at h1
    exact ho w n _ y h1 (fun m hm => hw m (by simpa [DataW.weightsEach] using hm))
theorem opensF_cons {α β : Type} {d : Rd α} {e : Rd β} {f : Field} {fs : List Field} {o : Nat} (hc : P.cellsOf f.type = d.sz) (ho : Opens enc P f.type d) (hf : f.offset + d.sz = o) (hr : OpensF enc P fs o e) : OpensF enc P (f :: fs) f.offset (Rd.pair d e) := by
  intro w n cs xs hl hle h hw
  match xs, hl with
  | y :: ys, hl =>
    have h1 := h 0 f rfl
    rw [hc] at h1
    have hsz : (Rd.pair d e).sz = d.sz + e.sz := rfl
    simp only [List.map_cons, DataW.weightsEach, List.mem_append] at hw
    obtain ⟨a, ha⟩ := ho w n _ y h1 (fun m hm => hw m (.inl hm))
    obtain ⟨b, hb⟩ := hr w n cs ys (by simpa using hl) (by omega) (fun i g hi => by have := h (i + 1) g (by simpa using hi); simpa using this) (fun m hm => hw m (.inr hm))
    refine ⟨(a, b), _, _, ?_, ha, hb⟩
    rw [← hf, ← List.drop_drop, hsz, List.take_add]
theorem opens_struct {α : Type} {d : Rd α} {fs : List Field} (ht : P.underlying t = some (.struct fs.toArray)) (hc : P.cellsOf t = d.sz) (hf : OpensF enc P fs 0 d) : Opens enc P t d := by
  intro w fuel cs x h hw
  obtain ⟨xs, n, rfl, rfl, h1, h2, h3⟩ := DataW.trod_struct ht h
  have hW : ∀ m ∈ (DataW.agg (xs.map (·.1))).weights P t, m ≤ reachBytes := hw
  simp only [DataW.weights, ht] at hW
  obtain ⟨a, ha⟩ := hf w n cs xs (by simpa using h2) (by omega) (fun i f hi => h3 i f (by simpa using hi)) hW
  rw [List.drop_zero, List.take_of_length_le (by omega)] at ha
  exact ⟨a, ha⟩
end
end TG
