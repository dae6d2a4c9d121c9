/- An argument of bytes, out of a row's reading, is a list of bytes that is read. Conditions stand in each theorem. -/
import Derived.Test.YteolgkjokhmmfaaRead
import Derived.SizedLaws
import Derived.ChangeSlices
import Derived.ChangeOld
set_option linter.unusedVariables false
set_option linter.unusedSimpArgs false
namespace TG
open Go Go.RowKit Go.Proofs Go.ChangeShapes Go.WideShapes

/-- whole numbers as bytes -/
def toB (zs : List Int) : List UInt8 := zs.map fun z => UInt8.ofNat z.toNat
theorem toB_get (zs : List Int) (h : ∀ n ∈ zs, (Lit.int .u8 n).wf = true) (j : Nat) (hj : j < zs.length) : ((((toB zs)[j]'(by simpa [toB] using hj)).toNat : Nat) : Int) = zs[j] := by
  have hw := h zs[j] (List.getElem_mem hj)
  have hb : 0 ≤ zs[j] ∧ zs[j] ≤ 255 := by
    have h1 : IntKind.u8.min = 0 := rfl
    have h2 : IntKind.u8.max = 255 := rfl
    simp [Lit.wf, h1, h2] at hw
    omega
  simp [toB]
  omega

/-- AN ARGUMENT OF BYTES, OUT OF THE ROW's READING. -/
theorem open_bytes {H : Type} {enc : TypeId × Value → H} {P : Program} {W : World} {t e : TypeId} {a : Option Addr} {len cap : Nat} {d : DataW H} {ps : List MemPlace} {ts : List TypeId} {ds : List (DataW H)} {j : Nat}
    (hsz : (DataW.weightsEach P ts ds).all (· ≤ reachBytes) = true) (ht : ts[j]? = some t) (hd : ds[j]? = some d) (hu : P.underlying t = some (.slice e)) (he : P.underlying e = some (.int .u8)) (hc : P.cellsOf e = 1) (hB : P.bytesOf e = 1)
    (h : DataW.Trod enc P W 0 (fun _ => true) true t (.slice a len cap) d ps) : ∃ l : List UInt8, len = l.length ∧ RB W a cap l := by
  obtain ⟨fuel, hf⟩ := h
  rcases open_ints hu he hc hf with ⟨hcs, _⟩ | ⟨x, len', cap', zs, hcs, _, hl, _, hz, hx, hcell, hwz⟩
  · simp [Value.cells] at hcs
    obtain ⟨rfl, rfl, rfl⟩ := hcs
    exact ⟨[], rfl, RB.nil W 0⟩
  · simp [Value.cells] at hcs
    obtain ⟨rfl, rfl, rfl⟩ := hcs
    obtain ⟨hx, _⟩ := Prod.mk.inj hx
    subst hx
    have z := sized_slice hsz ht hd hu
    rw [hB] at z
    simp only [if_true] at hz
    have hlen : len ≤ zs.length := by omega
    have z2 : len ≤ 140737488355328 := by
      have h1 : (lits (H := H) .u8 (zs.take len)).length = len := by simp [lits]; omega
      simp only [reachBytes] at z
      omega
    refine ⟨(toB zs).take len, by simp [toB]; omega, ?_, ?_, (fun h => by cases h), fun ad he' j hj => ?_⟩
    · simp [toB]; omega
    · simp [toB]; omega
    · simp only [Option.some.injEq] at he'
      subst he'
      have hj2 : j < zs.length := by simp [toB] at hj; omega
      have hjl : j < len := by simp [toB] at hj; omega
      rw [hcell j hj2, List.getElem_take, toB_get zs hwz j hj2]
      simp [List.getD_eq_getElem?_getD, hj2]

end TG
