/- Words on memory: slices of values that are read, and in which blocks what they lead to lies. Conditions stand in each theorem. -/
import Derived.Test.YtepnillddlemaaaBase
set_option linter.unusedVariables false
set_option linter.unusedSimpArgs false
namespace TG
open Go Go.RowKit Go.Proofs

/-- HOW A VALUE LIES IN CELLS, AND IN WHICH BLOCKS WHAT IT LEADS TO MAY LIE. -/
structure Rd (α : Type) where
  sz : Nat
  K : (Nat → Prop) → World → α → List Value → Prop
  len : ∀ {F w x cs}, K F w x cs → cs.length = sz
  one : ∀ {F w x cs}, K F w x cs → ∀ u ∈ cs, u.oneCell' = true
  mono : ∀ {F F' : Nat → Prop} {w x cs}, (∀ b, F b → F' b) → K F w x cs → K F' w x cs
  bound : ∀ {F : Nat → Prop} {w : World} {x cs}, K F w x cs → K (fun b => F b ∧ b < w.heap.size) w x cs
  move : ∀ {F : Nat → Prop} {w w' : World} {x cs}, (∀ b, F b → w'.heap[b]? = w.heap[b]?) → K F w x cs → K F w' x cs

namespace Rd
variable {α : Type} {d : Rd α} {F F' : Nat → Prop} {w w' : World}

theorem step {x : α} {cs : List Value} (h : d.K F w x cs) (hm : ∀ b, F b → b < w.heap.size → w'.heap[b]? = w.heap[b]?) : d.K F w' x cs :=
  d.mono (fun _ hb => hb.1) (d.move (fun b hb => hm b hb.1 hb.2) (d.bound h))
theorem below {x : α} {cs : List Value} (h : d.K F w x cs) (hb : Below w.heap.size w w') : d.K F w' x cs := step h (fun b _ hlt => hb.block b hlt)

/-- A SLICE OF SUCH VALUES THAT IS READ. -/
def S (d : Rd α) (F : Nat → Prop) (w : World) (A : Option Addr) (c : Nat) (l : List α) : Prop :=
  l.length ≤ c ∧ l.length ≤ 140737488355328 ∧ (A = none → l = []) ∧ ∀ ad, A = some ad → ∀ j, (hj : j < l.length) → F ad.block ∧ ∃ cs, d.K F w l[j] cs ∧ ∀ i u, cs[i]? = some u → w.cell? (ad.add (j * d.sz + i)) = some u

theorem S_mono {A : Option Addr} {c : Nat} {l : List α} (h : d.S F w A c l) (hf : ∀ b, F b → F' b) : d.S F' w A c l :=
  ⟨h.1, h.2.1, h.2.2.1, fun ad he j hj => by
    obtain ⟨h1, cs, h2, h3⟩ := h.2.2.2 ad he j hj
    exact ⟨hf _ h1, cs, d.mono hf h2, h3⟩⟩
theorem add_block (a : Addr) (i : Nat) : (a.add i).block = a.block := by unfold Addr.add; split <;> rfl
theorem S_move (hs : 0 < d.sz) {A : Option Addr} {c : Nat} {l : List α} (h : d.S F w A c l) (hm : ∀ b, F b → b < w.heap.size → w'.heap[b]? = w.heap[b]?) : d.S F w' A c l :=
  ⟨h.1, h.2.1, h.2.2.1, fun ad he j hj => by
    obtain ⟨h1, cs, h2, h3⟩ := h.2.2.2 ad he j hj
    refine ⟨h1, cs, step h2 hm, fun i u hi => ?_⟩
    have hc := h3 i u hi
    have hlt := World.block_lt_of_cell? w _ hc
    rw [add_block] at hlt
    rw [World.cell?_of_block (w := w) (by rw [add_block]; exact hm _ h1 hlt)]
    exact hc⟩
theorem S_below (hs : 0 < d.sz) {A : Option Addr} {c : Nat} {l : List α} (h : d.S F w A c l) (hb : Below w.heap.size w w') : d.S F w' A c l := S_move hs h (fun b _ hlt => hb.block b hlt)
theorem S_bound (hs : 0 < d.sz) {A : Option Addr} {c : Nat} {l : List α} (h : d.S F w A c l) : d.S (fun b => F b ∧ b < w.heap.size) w A c l :=
  ⟨h.1, h.2.1, h.2.2.1, fun ad he j hj => by
    obtain ⟨h1, cs, h2, h3⟩ := h.2.2.2 ad he j hj
    have hlt : ad.block < w.heap.size := by
      have hl := d.len h2
      have := World.block_lt_of_cell? w _ (h3 0 (cs[0]'(by omega)) (by simp [hl, hs]))
      rwa [add_block] at this
    exact ⟨⟨h1, hlt⟩, cs, d.bound h2, h3⟩⟩
theorem S_nil (d : Rd α) (F : Nat → Prop) (w : World) (c : Nat) : d.S F w none c [] := ⟨Nat.zero_le _, by simp, fun _ => rfl, fun _ he => by cases he⟩
theorem S_at {A : Option Addr} {c : Nat} {l : List α} (h : d.S F w A c l) (j : Nat) (hj : j < l.length) : ∃ ad, A = some ad ∧ F ad.block ∧ ∃ cs, d.K F w l[j] cs ∧ ∀ i u, cs[i]? = some u → w.cell? (ad.add (j * d.sz + i)) = some u := by
  cases A with
  | none => have := h.2.2.1 rfl; subst this; simp at hj
  | some ad => exact ⟨ad, rfl, h.2.2.2 ad rfl j hj⟩

/-- plain values: one cell -/
def plain (enc : α → Value) (h1 : ∀ x, (enc x).oneCell' = true) : Rd α where
  sz := 1
  K := fun _ _ x cs => cs = [enc x]
  len := fun h => by rw [h]; rfl
  one := fun h u hu => by rw [h] at hu; simp at hu; rw [hu]; exact h1 _
  mono := fun _ h => h
  bound := fun h => h
  move := fun _ h => h
def u8 : Rd UInt8 := plain (fun x => .int .u8 (x.toNat : Int)) (fun _ => rfl)
def int : Rd Int := plain (fun x => .int .i64 x) (fun _ => rfl)
def bool : Rd Bool := plain (fun x => .bool x) (fun _ => rfl)
def str : Rd (List UInt8) := plain (fun x => .string (mk8 x)) (fun _ => rfl)

/-- a slice in a cell -/
def slice (d : Rd α) (hs : 0 < d.sz) : Rd (List α) where
  sz := 1
  K := fun F w x cs => ∃ A c, cs = [.slice A x.length c] ∧ d.S F w A c x
  len := fun ⟨A, c, h, _⟩ => by rw [h]; rfl
  one := fun ⟨A, c, h, _⟩ u hu => by rw [h] at hu; simp at hu; rw [hu]; rfl
  mono := fun hf ⟨A, c, h, k⟩ => ⟨A, c, h, S_mono k hf⟩
  bound := fun ⟨A, c, h, k⟩ => ⟨A, c, h, S_bound hs k⟩
  move := fun hm ⟨A, c, h, k⟩ => ⟨A, c, h, S_move hs k (fun b hb _ => hm b hb)⟩

/-- two values, one behind the other -/
def pair {β : Type} (d : Rd α) (e : Rd β) : Rd (α × β) where
  sz := d.sz + e.sz
  K := fun F w x cs => ∃ c1 c2, cs = c1 ++ c2 ∧ d.K F w x.1 c1 ∧ e.K F w x.2 c2
  len := fun ⟨c1, c2, h, k1, k2⟩ => by rw [h, List.length_append, d.len k1, e.len k2]
  one := fun ⟨c1, c2, h, k1, k2⟩ u hu => by
    rw [h, List.mem_append] at hu
    rcases hu with hu | hu
    · exact d.one k1 u hu
    · exact e.one k2 u hu
  mono := fun hf ⟨c1, c2, h, k1, k2⟩ => ⟨c1, c2, h, d.mono hf k1, e.mono hf k2⟩
  bound := fun ⟨c1, c2, h, k1, k2⟩ => ⟨c1, c2, h, d.bound k1, e.bound k2⟩
  move := fun hm ⟨c1, c2, h, k1, k2⟩ => ⟨c1, c2, h, d.move hm k1, e.move hm k2⟩

/-- the same cells, another type -/
def via {β : Type} (d : Rd α) (f : β → α) : Rd β where
  sz := d.sz
  K := fun F w x cs => d.K F w (f x) cs
  len := fun h => d.len h
  one := fun h => d.one h
  mono := fun hf h => d.mono hf h
  bound := fun h => d.bound h
  move := fun hm h => d.move hm h

theorem S_cells {w : World} {g : Nat} {e : TypeId} {C : Array Value} {fr : Nat × Nat} (hg : w.heap[g]? = some (.cells C e fr)) (hF : F g) (l : List α) (c : Nat) (hl : l.length ≤ 140737488355328) (hc : l.length ≤ c)
    (h : ∀ j (hj : j < l.length), ∃ cs, d.K F w l[j] cs ∧ ∀ i u, cs[i]? = some u → C[j * d.sz + i]? = some u) : d.S F w (some ⟨g, 0, none⟩) c l :=
  ⟨hc, hl, (fun he => by cases he), fun ad he j hj => by
    simp only [Option.some.injEq] at he
    subst he
    obtain ⟨cs, h1, h2⟩ := h j hj
    refine ⟨hF, cs, h1, fun i u hi => ?_⟩
    rw [add_zero0, cell_of_row w g _ C e fr hg]
    exact h2 i u hi⟩
theorem u8_of_RB {F : Nat → Prop} {w : World} {A : Option Addr} {c : Nat} {l : List UInt8} (h : RB w A c l) (hF : ∀ ad, A = some ad → F ad.block) : u8.S F w A c l :=
  ⟨h.1, h.2.1, h.2.2.1, fun ad he j hj => ⟨hF ad he, _, rfl, fun i u hi => by
    have h1 := h.2.2.2 ad he j hj
    cases i with
    | zero =>
      rw [show u8.sz = 1 from rfl, Nat.mul_one, Nat.add_zero, h1]
      simpa using hi
    | succ i => simp at hi⟩⟩
theorem slice_K {hs : 0 < d.sz} {A : Option Addr} {c : Nat} {l : List α} (h : d.S F w A c l) : (slice d hs).K F w l [.slice A l.length c] := ⟨A, c, rfl, h⟩
/-- a list of one, a slice itself -/
theorem S_one {β : Type} {d : Rd β} {hs : 0 < d.sz} {w : World} {g e c' : Nat} {B : Option Addr} {fr : Nat × Nat} {l : List β} (hg : w.heap[g]? = some (.cells #[.slice B l.length c'] e fr)) (h : d.S (fun _ => True) w B c' l) : (slice d hs).S (fun _ => True) w (some ⟨g, 0, none⟩) 1 [l] :=
  S_cells hg trivial [l] 1 (by simp) (by simp) (fun j hj => by
    obtain rfl : j = 0 := by simpa using hj
    refine ⟨_, slice_K h, fun i u hi => ?_⟩
    cases i with
    | zero => simpa using hi
    | succ i => simp at hi)
theorem S_two {β : Type} {d : Rd β} {hs : 0 < d.sz} {w : World} {g e c1 c2 : Nat} {B1 B2 : Option Addr} {fr : Nat × Nat} {l1 l2 : List β} (hg : w.heap[g]? = some (.cells #[.slice B1 l1.length c1, .slice B2 l2.length c2] e fr)) (h1 : d.S (fun _ => True) w B1 c1 l1) (h2 : d.S (fun _ => True) w B2 c2 l2) : (slice d hs).S (fun _ => True) w (some ⟨g, 0, none⟩) 2 [l1, l2] :=
  S_cells hg trivial [l1, l2] 2 (by simp) (by simp) (fun j hj => by
    have : j = 0 ∨ j = 1 := by simp at hj; omega
    rcases this with rfl | rfl
    · refine ⟨_, slice_K h1, fun i u hi => ?_⟩
      cases i with
      | zero => simpa using hi
      | succ i => simp at hi
    · refine ⟨_, slice_K h2, fun i u hi => ?_⟩
      cases i with
      | zero => simpa [slice] using hi
      | succ i => simp at hi)
theorem S_RB {F : Nat → Prop} {w : World} {A : Option Addr} {c : Nat} {l : List UInt8} (h : u8.S F w A c l) : RB w A c l :=
  ⟨h.1, h.2.1, h.2.2.1, fun ad he j hj => by
    obtain ⟨_, cs, rfl, h3⟩ := h.2.2.2 ad he j hj
    have h4 := h3 0 _ rfl
    rw [show u8.sz = 1 from rfl, Nat.mul_one, Nat.add_zero] at h4
    exact h4⟩
end Rd
end TG
