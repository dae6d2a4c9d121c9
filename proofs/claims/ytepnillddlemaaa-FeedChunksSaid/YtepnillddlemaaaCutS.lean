/- A slice of structured values, cut: what is read of it. Conditions stand in each theorem. -/
import Derived.Test.YtepnillddlemaaaOwnL
import Derived.Test.YtepnillddlemaaaCut
set_option linter.unusedVariables false
set_option linter.unusedSimpArgs false
namespace TG
open Go Go.RowKit Go.Proofs
namespace Rd
variable {α : Type} {d : Rd α} {F : Nat → Prop} {w : World}
theorem S_cut {A : Option Addr} {c : Nat} {x : List α} (h : d.S F w A c x) (lo hi : Nat) (h1 : lo ≤ hi) (h2 : hi ≤ x.length) : d.S F w (if c = lo then A else A.map (·.add (lo * d.sz))) (c - lo) ((x.drop lo).take (hi - lo)) := by
  have hl : ((x.drop lo).take (hi - lo)).length = hi - lo := by simp; omega
  obtain ⟨a, b, e, f⟩ := h
  refine ⟨by omega, by omega, fun hn => ?_, fun ad' he j hj => ?_⟩
  · have hA : A = none := by
      split at hn
      · exact hn
      · cases A with
        | none => rfl
        | some ad => cases hn
    have := e hA
    subst this
    simp
  · rw [if_neg (by omega)] at he
    cases A with
    | none => cases he
    | some ad =>
      simp only [Option.map_some, Option.some.injEq] at he
      subst he
      obtain ⟨k1, cs, k2, k3⟩ := f ad rfl (lo + j) (by omega)
      have hg : ((x.drop lo).take (hi - lo))[j] = x[lo + j] := by simp
      refine ⟨by rw [add_block]; exact k1, cs, by rw [hg]; exact k2, fun i u hi => ?_⟩
      rw [add_add, ← k3 i u hi, Nat.add_mul, Nat.add_assoc]
end Rd
variable {α : Type} {d : Rd α}
theorem cutS_l {P : Program} (t e : TypeId) {i : TypeInfo} (ht : P.underlying t = some (.slice e)) (hi : P.info? e = some i) (hsz : i.size = d.sz) (A : Option Addr) (c : Nat) (x : List α) (lo : Nat) (h1 : lo ≤ x.length) (hc : x.length ≤ c) :
    ∃ (A' : Option Addr) (c' : Nat), (∀ W : World, (Instr.slice t (.slice A x.length c) (some (.int .i64 (lo : Int))) none none).run P W = .ok (.slice A' (x.drop lo).length c') W) ∧
      (∀ F (w : World), d.S F w A c x → d.S F w A' c' (x.drop lo)) := by
  refine ⟨_, _, fun W => ?_, fun F w hr => by have := Rd.S_cut hr lo x.length h1 (Nat.le_refl _); rwa [List.take_of_length_le (by simp)] at this⟩
  have hel : P.elem t = e := by simp [Program.elem, ht]
  have hu : P.underlying t = some (.slice (P.elem t)) := by rw [hel]; exact ht
  have hl : (x.drop lo).length = x.length - lo := by simp
  rw [run_slice_l W t A x.length c hu .i64 (lo : Int) (Int.natCast_nonneg _) (by omega), hel, hl]
  simp [Go.sizeOf, typeInfo, hi, hsz, sliced, Result.andThen]
theorem cutS_h {P : Program} (t e : TypeId) {i : TypeInfo} (ht : P.underlying t = some (.slice e)) (hi : P.info? e = some i) (hsz : i.size = d.sz) (A : Option Addr) (c : Nat) (x : List α) (h : Nat) (h2 : h ≤ x.length) (hc : x.length ≤ c) :
    ∃ (A' : Option Addr) (c' : Nat), (∀ W : World, (Instr.slice t (.slice A x.length c) none (some (.int .i64 (h : Int))) none).run P W = .ok (.slice A' (x.take h).length c') W) ∧
      (∀ F (w : World), d.S F w A c x → d.S F w A' c' (x.take h)) := by
  refine ⟨_, _, fun W => ?_, fun F w hr => by have := Rd.S_cut hr 0 h (Nat.zero_le _) h2; simpa using this⟩
  have hel : P.elem t = e := by simp [Program.elem, ht]
  have hu : P.underlying t = some (.slice (P.elem t)) := by rw [hel]; exact ht
  have hl : (x.take h).length = h := by simp; omega
  rw [run_slice_h W t A x.length c hu .i64 (h : Int) (Int.natCast_nonneg _) (by omega), hel, hl]
  simp [Go.sizeOf, typeInfo, hi, hsz, sliced, Result.andThen]
end TG
