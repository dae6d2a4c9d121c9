/- A law of the walk: a range over a function whose iterator turns a cell of its own between two rounds. Conditions stand in the theorem. -/
import Derived.RangeFuncNested
import Derived.RangeFuncBound
import Derived.RangeFuncCalls
import Derived.RangeFuncLeaves
import Derived.RangeFuncBox
namespace Go.Proofs.Rf
open Go.RowKit

/-- THE CONTRACT OF AN ITERATOR THAT TURNS ONE CELL OF ITS OWN (the block Bn) between two rounds. -/
def SeqCell {α : Type} (F : Fence) (n : Nat) (P : Program) (g : Nat) (lb : Array Value) (encs : α → Array Value) (Bn t : Nat) (xs : List α) (w : World) : Prop :=
  ∀ (l : Nat) (J : List α → World → Prop) (W : World), W.heap[Bn]? = w.heap[Bn]? →
    (∀ pre A v u, J pre A → A.heap[Bn]? = some (.cells #[v] t (0, 0)) → J pre (A.setCell ⟨Bn, 0, none⟩ u)) →
    (∀ pre x A, J pre A → (pre ++ [x]) <+: xs → YieldAt F (n - 1) P l (encs x) A fun e A' =>
      e = .returned (.bool true) ∧ J (pre ++ [x]) A' ∧ A'.heap[Bn]? = A.heap[Bn]?) →
    J [] W →
    CallsIn F n P g (#[.func (.yield l) #[] #[]] ++ lb) W fun e A' => (∃ v, e = .returned v) ∧ J xs A'

/-- How the body of a round is left: it goes on. -/
def onward {α : Type} (B Bn : Nat) (I : List α → World → Prop) (xs : List α) (W : World) : Exit → Act → World → Prop
  | .normal, _, W' => KeepsFrom B W W' ∧ W'.heap[Bn]? = W.heap[Bn]? ∧ I xs W'
  | _, _, _ => False

variable {F : Fence} {n : Nat} {P : Program}

theorem rangeFunc_cell {α : Type} {g : Operand} {ps : Array Tmp} {assign body : Code} {Q : Exit → Act → World → Prop} {a : Act} {w : World}
    (hro : F.round = none) (h1 : 1 ≤ n) {gf : Nat} {lb : Array Value} (hg : a.eval g = .func (.func gf) #[] lb) (hFg : F.fn gf) (eg : ∀ args w, (callFunc gf args).run P w = .ok (.enter gf args) w)
    {encs : α → Array Value} {Bn t : Nat} {xs : List α} (hseq : SeqCell F (n - 1) P gf lb encs Bn t xs w) (hBn : Bn < w.heap.size) (hps : ∀ x, (encs x).size = ps.size)
    (I : List α → World → Prop) (hI : OwnFrom w.heap.size I) (hIc : ∀ pre A v u, I pre A → A.heap[Bn]? = some (.cells #[v] t (0, 0)) → I pre (A.setCell ⟨Bn, 0, none⟩ u)) (h0 : I [] w) (a₁ : α → Act)
    (hassign : ∀ (l : Nat) (x : α) (W : World) (K : Act → World → Prop), K (a₁ x) W →
      assign.wpIn (F.inRound l) (n - 1 - 1) P (Exit.then K (fun _ _ _ => False)) { tmps := (ps.zip (encs x)).foldl (fun t (p, v) => t.setIfInBounds p v) a.tmps, defers := [] } W)
    (hbody : ∀ (l : Nat) (pre : List α) (x : α) (W : World), I pre W → (pre ++ [x]) <+: xs → body.wpIn (F.inRound l) (n - 1 - 1) P (onward w.heap.size Bn I (pre ++ [x]) W) (a₁ x) W)
    (hdone : ∀ (W : World), I xs W → W.heap[w.heap.size]? = some (.deferred (some [])) → Q .normal { a with defers := { target := .collected w.heap.size, args := #[] } :: a.defers } W) :
    (Code.rangeFunc g ps assign body).wpIn F n P Q a w := by
  refine wpIn_rangeFunc fun fn hfn => ?_
  rw [hro]
  -- the loop's record, in its states
  generalize hr0 : (Loop.mk .ready none fn a.tmps ps assign body w.heap.size) = r0
  have hparams : r0.params = ps := by rw [← hr0]
  have hready : r0.state = .ready := by rw [← hr0]
  have hpend : r0.pending = none := by rw [← hr0]
  have hsize : ((w.alloc (.deferred (some []))).alloc (.loop r0)).heap.size = w.heap.size + 2 := by simp
  generalize hW : (w.alloc (.deferred (some []))).alloc (.loop r0) = W1 at hsize
  have hrec : W1.heap[w.heap.size + 1]? = some (.loop r0) := by
    have := World.alloc_heap_new (w.alloc (.deferred (some []))) (.loop r0)
    rw [World.size_alloc, hW] at this
    exact this
  have hdef : W1.heap[w.heap.size]? = some (.deferred (some [])) := by
    rw [← hW]
    exact (Below.heap_alloc _ _ _ (by simp)).trans (World.alloc_heap_new w _)
  have hold : W1.heap[Bn]? = w.heap[Bn]? := by
    rw [← hW]
    exact (Below.heap_alloc _ _ _ (by simp; omega)).trans (Below.heap_alloc _ _ _ hBn)
  have hI1 : I [] W1 := by
    rw [← hW]
    exact hI.alloc _ (hI.alloc _ h0)
  refine ⟨w.heap.size + 1, [{ target := .collected w.heap.size, args := #[] }], W1, { target := .fn (.func gf) lb, args := #[.func (.yield (w.heap.size + 1)) #[] #[]] }, W1, gf,
    #[.func (.yield (w.heap.size + 1)) #[] #[]] ++ lb, W1, ?_, ?_, ?_, ?_, fun _ => h1, ?_⟩
  · rw [← hW, ← hr0]; exact run_enterLoop_outer _ _ _ _ _
  · simp only [resolve, hg]
    simp [go_sem]
  · intro f' hf'; simp [Target.leads] at hf'; subst hf'; exact hFg
  · simp [invoke, go_sem, eg]
  refine (hseq (w.heap.size + 1) (fun pre A => I pre A ∧ A.heap[w.heap.size + 1]? = some (.loop r0) ∧ A.heap[w.heap.size]? = some (.deferred (some []))) W1 hold
    (fun pre A v u hs hc => ⟨hIc pre A v u hs.1 hc, (Below.heap_setCell _ _ _ _ (by simp; omega)).trans hs.2.1, (Below.heap_setCell _ _ _ _ (by simp; omega)).trans hs.2.2⟩) ?_ ⟨hI1, hrec, hdef⟩).mono ?_
  · -- one round
    rintro pre x A ⟨hi, hl, hk⟩ hpre
    have hlt : w.heap.size + 1 < A.heap.size := (Array.getElem?_eq_some_iff.1 hl).1
    have hy := run_yield (P := P) (args := encs x) hl (by rw [hparams]; exact hps x)
    have hf : r0.fn = fn := by rw [← hr0]
    have ht : r0.tmps = a.tmps := by rw [← hr0]
    have has : r0.assign = assign := by rw [← hr0]
    have hbo : r0.body = body := by rw [← hr0]
    rw [hparams, ht, hf, has, hbo] at hy
    refine ⟨fn, _, assign, body, hy, roundIn_of_wpIn hfn (hassign _ x A _ ⟨_, run_beginRound hl hready, ?_⟩)⟩
    generalize hA1 : A.putObj (w.heap.size + 1) (.loop { r0 with state := .busy }) = A1
    have hl2 : A1.heap[w.heap.size + 1]? = some (.loop { r0 with state := .busy }) := by rw [← hA1]; exact World.putObj_heap_same hlt
    have hk2 : A1.heap[w.heap.size]? = some (.deferred (some [])) := by rw [← hA1]; exact (World.putObj_heap_other (by omega)).trans hk
    have hi2 : I pre A1 := by rw [← hA1]; exact hI.putObj _ hi (by omega) hl rfl
    have hb2 : A1.heap[Bn]? = A.heap[Bn]? := by rw [← hA1]; exact World.putObj_heap_other (by omega)
    refine wpIn_mono (hbody _ pre x A1 hi2 hpre) ?_
    rintro e a3 A3 hp
    cases e with
    | normal =>
      obtain ⟨hkf, hbn, hi3⟩ := hp
      have hl3 := hkf.same _ _ (by omega) hl2 rfl
      have hk3 := hkf.same _ _ (Nat.le_refl _) hk2 rfl
      have hlt3 := (Array.getElem?_eq_some_iff.1 hl3).1
      have her := run_endRound (P := P) none hl3
      have hback : ({ ({ r0 with state := .busy } : Loop) with state := if (none : Option Code).isNone = true then .ready else .done, pending := none } : Loop) = r0 := by rw [← hr0]; rfl
      refine ⟨_, _, her, ⟨rfl, ⟨hI.putObj _ hi3 (by omega) hl3 rfl, ?_, (World.putObj_heap_other (by omega)).trans hk3⟩, ?_⟩⟩
      · rw [← hback]; exact World.putObj_heap_same hlt3
      · exact (World.putObj_heap_other (by omega)).trans (hbn.trans hb2)
    | ret => exact hp.elim
    | exit id => exact hp.elim
    | goto t => exact hp.elim
    | panic ch => exact hp.elim
    | outgrown => exact hp.elim
  · -- behind the iterator
    rintro e W2 ⟨⟨v, rfl⟩, hi, hl, hk⟩
    have hel := run_endLoop (P := P) hl (by rw [hready]; simp)
    rw [hpend] at hel
    exact ⟨none, _, hel, hdone _ (hI.putObj _ hi (by omega) hl rfl) ((World.putObj_heap_other (by omega)).trans hk)⟩

end Go.Proofs.Rf
