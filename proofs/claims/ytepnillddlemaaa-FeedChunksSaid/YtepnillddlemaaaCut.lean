/- A slice of bytes, cut: what is read of it, without a case on the capacity. Conditions stand in each theorem. -/
import Derived.Test.YtepnillddlemaaaBase
import Derived.Laws.Slices
set_option linter.unusedVariables false
set_option linter.unusedSimpArgs false
namespace TG
open Go Go.RowKit Go.Proofs

theorem add_add (ad : Addr) (i j : Nat) : (ad.add i).add j = ad.add (i + j) := by
  unfold Addr.add
  by_cases h1 : i = 0 <;> by_cases h2 : j = 0 <;> simp [h1, h2, Nat.add_assoc]
theorem add_blk (a : Addr) (i : Nat) : (a.add i).block = a.block := by unfold Addr.add; split <;> rfl
theorem RB.cut {w : World} {A : Option Addr} {c : Nat} {l : List UInt8} (h : RB w A c l) (lo hi : Nat) (h1 : lo ≤ hi) (h2 : hi ≤ l.length) : RB w (if c = lo then A else A.map (·.add lo)) (c - lo) ((l.drop lo).take (hi - lo)) := by
  have hl : ((l.drop lo).take (hi - lo)).length = hi - lo := by simp; omega
  obtain ⟨a, b, d, e⟩ := h
  refine ⟨by omega, by omega, fun hn => ?_, fun ad' he j hj => ?_⟩
  · have hA : A = none := by
      split at hn
      · exact hn
      · cases A with
        | none => rfl
        | some ad => cases hn
    have := d hA
    subst this
    simp
  · rw [if_neg (by omega)] at he
    cases A with
    | none => cases he
    | some ad =>
      simp only [Option.map_some, Option.some.injEq] at he
      subst he
      rw [add_add, e ad rfl (lo + j) (by omega)]
      simp
theorem cut_block {A : Option Addr} {c lo : Nat} {ad' : Addr} (h : (if c = lo then A else A.map (·.add lo)) = some ad') : ∃ ad, A = some ad ∧ ad'.block = ad.block := by
  split at h
  · exact ⟨ad', h, rfl⟩
  · cases A with
    | none => cases h
    | some ad =>
      simp only [Option.map_some, Option.some.injEq] at h
      subst h
      exact ⟨ad, rfl, add_blk _ _⟩
theorem cut_lh {P : Program} (t e : TypeId) {i : TypeInfo} (ht : P.underlying t = some (.slice e)) (hi : P.info? e = some i) (hsz : i.size = 1) (A : Option Addr) (c : Nat) (l : List UInt8) (lo h : Nat) (h1 : lo ≤ h) (h2 : h ≤ l.length) (hc : l.length ≤ c) :
    ∃ (A' : Option Addr) (c' : Nat), (∀ W : World, (Instr.slice t (.slice A l.length c) (some (.int .i64 (lo : Int))) (some (.int .i64 (h : Int))) none).run P W = .ok (.slice A' ((l.drop lo).take (h - lo)).length c') W) ∧
      (∀ w : World, RB w A c l → RB w A' c' ((l.drop lo).take (h - lo))) ∧ (∀ ad', A' = some ad' → ∃ ad, A = some ad ∧ ad'.block = ad.block) := by
  refine ⟨_, _, fun W => ?_, fun w hr => hr.cut lo h h1 h2, fun ad' he => cut_block he⟩
  have hel : P.elem t = e := by simp [Program.elem, ht]
  have hu : P.underlying t = some (.slice (P.elem t)) := by rw [hel]; exact ht
  have hl : ((l.drop lo).take (h - lo)).length = h - lo := by simp; omega
  rw [run_slice_lh W t A l.length c hu .i64 .i64 (lo : Int) (h : Int) (Int.natCast_nonneg _) (by omega) (by omega), hel, hl]
  simp [Go.sizeOf, typeInfo, hi, hsz, sliced, Result.andThen]
theorem cut_h {P : Program} (t e : TypeId) {i : TypeInfo} (ht : P.underlying t = some (.slice e)) (hi : P.info? e = some i) (hsz : i.size = 1) (A : Option Addr) (c : Nat) (l : List UInt8) (h : Nat) (h2 : h ≤ l.length) (hc : l.length ≤ c) :
    ∃ (A' : Option Addr) (c' : Nat), (∀ W : World, (Instr.slice t (.slice A l.length c) none (some (.int .i64 (h : Int))) none).run P W = .ok (.slice A' (l.take h).length c') W) ∧
      (∀ w : World, RB w A c l → RB w A' c' (l.take h)) ∧ (∀ ad', A' = some ad' → ∃ ad, A = some ad ∧ ad'.block = ad.block) := by
  refine ⟨_, _, fun W => ?_, fun w hr => by have := hr.cut 0 h (Nat.zero_le _) h2; simpa using this, fun ad' he => cut_block he⟩
  have hel : P.elem t = e := by simp [Program.elem, ht]
  have hu : P.underlying t = some (.slice (P.elem t)) := by rw [hel]; exact ht
  have hl : (l.take h).length = h := by simp; omega
  rw [run_slice_h W t A l.length c hu .i64 (h : Int) (Int.natCast_nonneg _) (by omega), hel, hl]
  simp [Go.sizeOf, typeInfo, hi, hsz, sliced, Result.andThen]
theorem cut_l {P : Program} (t e : TypeId) {i : TypeInfo} (ht : P.underlying t = some (.slice e)) (hi : P.info? e = some i) (hsz : i.size = 1) (A : Option Addr) (c : Nat) (l : List UInt8) (lo : Nat) (h1 : lo ≤ l.length) (hc : l.length ≤ c) :
    ∃ (A' : Option Addr) (c' : Nat), (∀ W : World, (Instr.slice t (.slice A l.length c) (some (.int .i64 (lo : Int))) none none).run P W = .ok (.slice A' (l.drop lo).length c') W) ∧
      (∀ w : World, RB w A c l → RB w A' c' (l.drop lo)) ∧ (∀ ad', A' = some ad' → ∃ ad, A = some ad ∧ ad'.block = ad.block) := by
  refine ⟨_, _, fun W => ?_, fun w hr => by have := hr.cut lo l.length h1 (Nat.le_refl _); rwa [List.take_of_length_le (by simp)] at this, fun ad' he => cut_block he⟩
  have hel : P.elem t = e := by simp [Program.elem, ht]
  have hu : P.underlying t = some (.slice (P.elem t)) := by rw [hel]; exact ht
  have hl : (l.drop lo).length = l.length - lo := by simp
  rw [run_slice_l W t A l.length c hu .i64 (lo : Int) (Int.natCast_nonneg _) (by omega), hel, hl]
  simp [Go.sizeOf, typeInfo, hi, hsz, sliced, Result.andThen]
theorem RB.take {w : World} {A : Option Addr} {c : Nat} {l : List UInt8} (h : RB w A c l) (m : Nat) (hm : m ≤ l.length) : RB w A c (l.take m) := by
  obtain ⟨a, b, d, e⟩ := h
  have hl : (l.take m).length = m := by simp; omega
  exact ⟨by omega, by omega, fun hn => by rw [d hn]; simp, fun ad he j hj => by rw [e ad he j (by omega)]; simp⟩
end TG
