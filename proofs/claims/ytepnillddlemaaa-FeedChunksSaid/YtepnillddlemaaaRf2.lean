/- A law of the walk: a range over a function whose iterator makes memory between two rounds, and tells what it hands on. Conditions stand in the theorem. -/
import Derived.RangeFuncNested
import Derived.RangeFuncBound
import Derived.RangeFuncCalls
import Derived.RangeFuncLeaves
import Derived.RangeFuncBox
set_option linter.unusedVariables false
namespace Go.Proofs.Rf
open Go.RowKit

/-- THE CONTRACT OF AN ITERATOR THAT MAKES MEMORY: R: what it reads; Φ pre x A0 A: what holds of what it hands on (A0: an elder world, in which as much had come); S: what has come in the end. -/
def SeqOf {α : Type} (F : Fence) (n : Nat) (P : Program) (g : Nat) (lb : Array Value) (encs : α → Array Value) (R : World → Prop) (Φ : List α → α → World → World → Prop) (S : List α → Prop) : Prop :=
  ∀ (l : Nat) (J : List α → World → Prop) (W : World), (∀ pre A, J pre A → R A) →
    (∀ pre A A', J pre A → Below A.heap.size A A' → J pre A') →
    (∀ pre x A0 A, J pre A0 → Below A0.heap.size A0 A → Φ pre x A0 A → YieldAt F (n - 1) P l (encs x) A fun e A' => e = .returned (.bool true) ∧ J (pre ++ [x]) A') →
    J [] W →
    CallsIn F n P g (#[.func (.yield l) #[] #[]] ++ lb) W fun e A' => (∃ v, e = .returned v) ∧ ∃ xs, S xs ∧ J xs A'

/-- How the body of a round is left: it goes on. -/
def onw {α : Type} (B : Nat) (I : List α → World → Prop) (xs : List α) (W : World) : Exit → Act → World → Prop
  | .normal, _, W' => KeepsFrom B W W' ∧ I xs W'
  | _, _, _ => False

variable {F : Fence} {n : Nat} {P : Program}

theorem grown_of_below {A A' : World} (h : Below A.heap.size A A') : A.grownBy A' none := ⟨h.os, h.tape, h.output, h.size, fun k hk _ => h.block k hk⟩

theorem rangeFunc_of {α : Type} {g : Operand} {ps : Array Tmp} {assign body : Code} {Q : Exit → Act → World → Prop} {a : Act} {w : World}
    (hro : F.round = none) (h1 : 1 ≤ n) {gf : Nat} {lb : Array Value} (hg : a.eval g = .func (.func gf) #[] lb) (hFg : F.fn gf) (eg : ∀ args w, (callFunc gf args).run P w = .ok (.enter gf args) w)
    {encs : α → Array Value} {R : World → Prop} {Φ : List α → α → World → World → Prop} {S : List α → Prop} (hseq : SeqOf F (n - 1) P gf lb encs R Φ S) (hps : ∀ x, (encs x).size = ps.size)
    (I : List α → World → Prop) (hI : OwnFrom w.heap.size I) (hIR : ∀ pre A, I pre A → R A) (h0 : I [] w)
    (Ax : List α → α → Act → World → Prop) (hAx : ∀ pre x, OwnFrom w.heap.size (Ax pre x))
    (hassign : ∀ (l : Nat) (pre : List α) (x : α) (A0 W : World) (K : Act → World → Prop), I pre A0 → Below A0.heap.size A0 W → I pre W → Φ pre x A0 W → (∀ a' W', KeepsFrom w.heap.size W W' → Ax pre x a' W' → K a' W') →
      assign.wpIn (F.inRound l) (n - 1 - 1) P (Exit.then K (fun _ _ _ => False)) { tmps := (ps.zip (encs x)).foldl (fun t (p, v) => t.setIfInBounds p v) a.tmps, defers := [] } W)
    (hbody : ∀ (l : Nat) (pre : List α) (x : α) (a' : Act) (W : World), w.heap.size ≤ l → (∃ r, W.heap[l]? = some (.loop r)) → Ax pre x a' W → body.wpIn (F.inRound l) (n - 1 - 1) P (onw w.heap.size I (pre ++ [x]) W) a' W)
    (hdone : ∀ (xs : List α) (W : World), S xs → I xs W → W.heap[w.heap.size]? = some (.deferred (some [])) → Q .normal { a with defers := { target := .collected w.heap.size, args := #[] } :: a.defers } W) :
    (Code.rangeFunc g ps assign body).wpIn F n P Q a w := by
  refine wpIn_rangeFunc fun fn hfn => ?_
  rw [hro]
  generalize hr0 : (Loop.mk .ready none fn a.tmps ps assign body w.heap.size) = r0
  have hparams : r0.params = ps := by rw [← hr0]
  have hready : r0.state = .ready := by rw [← hr0]
  have hpend : r0.pending = none := by rw [← hr0]
  have hsize : ((w.alloc (.deferred (some []))).alloc (.loop r0)).heap.size = w.heap.size + 2 := by simp
  generalize hW : (w.alloc (.deferred (some []))).alloc (.loop r0) = W1 at hsize
  have hrec : W1.heap[w.heap.size + 1]? = some (.loop r0) := by
    have := World.alloc_heap_new (w.alloc (.deferred (some []))) (.loop r0)
    rw [World.size_alloc, hW] at this
    exact this
  have hdef : W1.heap[w.heap.size]? = some (.deferred (some [])) := by
    rw [← hW]
    exact (Below.heap_alloc _ _ _ (by simp)).trans (World.alloc_heap_new w _)
  have hI1 : I [] W1 := by
    rw [← hW]
    exact hI.alloc _ (hI.alloc _ h0)
  refine ⟨w.heap.size + 1, [{ target := .collected w.heap.size, args := #[] }], W1, { target := .fn (.func gf) lb, args := #[.func (.yield (w.heap.size + 1)) #[] #[]] }, W1, gf,
    #[.func (.yield (w.heap.size + 1)) #[] #[]] ++ lb, W1, ?_, ?_, ?_, ?_, fun _ => h1, ?_⟩
  · rw [← hW, ← hr0]; exact run_enterLoop_outer _ _ _ _ _
  · simp only [resolve, hg]
    simp [go_sem]
  · intro f' hf'; simp [Target.leads] at hf'; subst hf'; exact hFg
  · simp [invoke, go_sem, eg]
  refine (hseq (w.heap.size + 1) (fun pre A => I pre A ∧ A.heap[w.heap.size + 1]? = some (.loop r0) ∧ A.heap[w.heap.size]? = some (.deferred (some []))) W1
    (fun pre A h => hIR pre A h.1)
    (fun pre A A' h hb => ⟨hI pre A A' none h.1 (grown_of_below hb) (fun r e => by cases e), (hb.block _ (Array.getElem?_eq_some_iff.1 h.2.1).1).trans h.2.1, (hb.block _ (Array.getElem?_eq_some_iff.1 h.2.2).1).trans h.2.2⟩) ?_ ⟨hI1, hrec, hdef⟩).mono ?_
  · -- one round
    rintro pre x A0' A ⟨hi0, hl0', hk0'⟩ hb0 hphi
    have hi : I pre A := hI pre A0' A none hi0 (grown_of_below hb0) (fun r e => by cases e)
    have hl := (hb0.block _ (Array.getElem?_eq_some_iff.1 hl0').1).trans hl0'
    have hk := (hb0.block _ (Array.getElem?_eq_some_iff.1 hk0').1).trans hk0'
    have hy := run_yield (P := P) (args := encs x) hl (by rw [hparams]; exact hps x)
    have hf : r0.fn = fn := by rw [← hr0]
    have ht : r0.tmps = a.tmps := by rw [← hr0]
    have has : r0.assign = assign := by rw [← hr0]
    have hbo : r0.body = body := by rw [← hr0]
    rw [hparams, ht, hf, has, hbo] at hy
    refine ⟨fn, _, assign, body, hy, roundIn_of_wpIn hfn (hassign _ pre x A0' A _ hi0 hb0 hi hphi fun a' A0 hkf hax => ?_)⟩
    have hl0 := hkf.same _ _ (by omega) hl rfl
    have hk0 := hkf.same _ _ (Nat.le_refl _) hk rfl
    have hlt : w.heap.size + 1 < A0.heap.size := (Array.getElem?_eq_some_iff.1 hl0).1
    refine ⟨_, run_beginRound hl0 hready, ?_⟩
    generalize hA1 : A0.putObj (w.heap.size + 1) (.loop { r0 with state := .busy }) = A1
    have hl2 : A1.heap[w.heap.size + 1]? = some (.loop { r0 with state := .busy }) := by rw [← hA1]; exact World.putObj_heap_same hlt
    have hk2 : A1.heap[w.heap.size]? = some (.deferred (some [])) := by rw [← hA1]; exact (World.putObj_heap_other (by omega)).trans hk0
    have hax2 : Ax pre x a' A1 := by rw [← hA1]; exact (hAx pre x).putObj _ hax (by omega) hl0 rfl
    refine wpIn_mono (hbody _ pre x a' A1 (by omega) ⟨_, hl2⟩ hax2) ?_
    rintro e a3 A3 hp
    cases e with
    | normal =>
      obtain ⟨hkf3, hi3⟩ := hp
      have hl3 := hkf3.same _ _ (by omega) hl2 rfl
      have hk3 := hkf3.same _ _ (Nat.le_refl _) hk2 rfl
      have hlt3 := (Array.getElem?_eq_some_iff.1 hl3).1
      have her := run_endRound (P := P) none hl3
      have hback : ({ ({ r0 with state := .busy } : Loop) with state := if (none : Option Code).isNone = true then .ready else .done, pending := none } : Loop) = r0 := by rw [← hr0]; rfl
      refine ⟨_, _, her, ⟨rfl, hI.putObj _ hi3 (by omega) hl3 rfl, ?_, (World.putObj_heap_other (by omega)).trans hk3⟩⟩
      rw [← hback]; exact World.putObj_heap_same hlt3
    | ret => exact hp.elim
    | exit id => exact hp.elim
    | goto t => exact hp.elim
    | panic ch => exact hp.elim
    | outgrown => exact hp.elim
  · -- behind the iterator
    rintro e W2 ⟨⟨v, rfl⟩, xs, hS, hi, hl, hk⟩
    have hel := run_endLoop (P := P) hl (by rw [hready]; simp)
    rw [hpend] at hel
    exact ⟨none, _, hel, hdone xs _ hS (hI.putObj _ hi (by omega) hl rfl) ((World.putObj_heap_other (by omega)).trans hk)⟩

end Go.Proofs.Rf
