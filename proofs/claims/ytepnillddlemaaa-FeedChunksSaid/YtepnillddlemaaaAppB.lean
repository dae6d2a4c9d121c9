/- append of bytes that are read, nil included, onto a row of the call's own. Conditions stand in each theorem. -/
import Derived.Test.YtepnillddlemaaaBase
import Derived.Test.YtepnillddlemaaaAppFull
set_option linter.unusedVariables false
set_option linter.unusedSimpArgs false
namespace TG
open Go Go.RowKit Go.Proofs

theorem own_lt63 {w : World} {base : Nat} {e : TypeId} {size n : Nat} {v : Value} {xs : List Value} (h : w.ownsRow base e size v n xs) : n ≤ maxLen := by
  rcases h.2 with ⟨_, rfl⟩ | ⟨g, cap, cur, _, _, _, h1, h2, _⟩
  · exact Nat.zero_le _
  · exact Nat.le_trans h1 h2
theorem run_append_none8 {P : Program} {w : World} (base : Nat) (t ty e : TypeId) (i : TypeInfo) (size : Nat) (ht : P.underlying t = some (.slice e)) (hi : P.info? e = some i)
    (v : Value) (n c : Nat) (xs : List Value) (hown : w.ownsRow base e size v n xs) :
    (Builtin.append_ #[t, t] ty #[v, .slice none 0 c]).run P w = .ok v w := by
  rcases hown.2 with ⟨rfl, rfl⟩ | ⟨g, cap, cur, rfl, _, _, hnc, _⟩
  · simp [Builtin.append_, run_underlying ht, Go.sizeOf, typeInfo, hi, Builtin.lenOf, Builtin.firstCells]
  · simp [Builtin.append_, run_underlying ht, Go.sizeOf, typeInfo, hi, Builtin.lenOf, Builtin.firstCells, hnc, storeCells]

/-- THE RUN: a row of one's own, longer by bytes that are read. -/
theorem run_app8 {P : Program} {w : World} (base : Nat) (t ty e : TypeId) (ht : P.underlying t = some (.slice e)) (hinfo : (P.info? e).map (fun i => (i.zero, i.size, i.bytes)) = some (some (.int .u8 0), 1, 1))
    (v : Value) (xs : List UInt8) (hown : w.ownsRow base e 1 v xs.length (bc xs)) (A : Option Addr) (c : Nat) (l : List UInt8) (hr : RB w A c l)
    (hlen : xs.length + l.length ≤ 140737488355328) (hbase : base ≤ w.heap.size) :
    ∃ A' c' w', (Builtin.append_ #[t, t] ty #[v, .slice A l.length c]).run P w = .ok (.slice A' (xs ++ l).length c') w' ∧ w'.ownsRow base e 1 (.slice A' (xs ++ l).length c') (xs ++ l).length (bc (xs ++ l)) ∧ w.grownBy w' v.ownBlock := by
  obtain ⟨i0, hi, hz0, hz1, hz2⟩ := info_parts hinfo
  cases A with
  | none =>
    have h0 := hr.2.2.1 rfl
    subst h0
    obtain ⟨A', c', rfl⟩ := own_form hown
    refine ⟨A', c', w, ?_, ?_, World.grownBy.refl _ _⟩
    · have := run_append_none8 (P := P) (w := w) base t ty e i0 1 ht hi _ _ c _ hown
      simpa using this
    · simpa using hown
  | some ad =>
    obtain ⟨v', w', h1, h2, h3, h4⟩ := run_append_own (P := P) (w := w) base t ty e i0 (.int .u8 0) 1 1 ht hi hz0 hz1 hz2 rfl (by decide) v xs.length (bc xs) hown ad l.length c (bc l) (by simp) hr.news (bc_one l) (by simp only [maxLen]; omega) (by omega) hbase
    obtain ⟨A', c', rfl⟩ := own_form h2
    refine ⟨A', c', w', ?_, ?_, h3⟩
    · rw [List.length_append]; exact h1
    · rw [List.length_append, bc_append]; exact h2

theorem wp_app8 {P : Program} {w : World} {o : Oper} {a : Act} {K : Act → World → Prop} {Q : Exit → Act → World → Prop} (s x : Operand) (t : TypeId)
    (ho : o.op = .call { callee := .builtin .append, args := #[s, x], argTypes := #[t, t] })
    (base e : Nat) (ht : P.underlying t = some (.slice e)) (hinfo : (P.info? e).map (fun i => (i.zero, i.size, i.bytes)) = some (some (.int .u8 0), 1, 1))
    (v : Value) (xs : List UInt8) (hs : a.eval s = v) (hown : w.ownsRow base e 1 v xs.length (bc xs)) (A : Option Addr) (c : Nat) (l : List UInt8) (hx : a.eval x = .slice A l.length c) (hr : RB w A c l)
    (hlen : xs.length + l.length ≤ 140737488355328) (hbase : base ≤ w.heap.size)
    (h : ∀ A' c' w', w'.ownsRow base e 1 (.slice A' (xs ++ l).length c') (xs ++ l).length (bc (xs ++ l)) → w.grownBy w' v.ownBlock → K (a.put o.dst (.slice A' (xs ++ l).length c')) w') : o.wp P a w K Q := by
  obtain ⟨A', c', w', h1, h2, h3⟩ := run_app8 (P := P) (w := w) base t o.type e ht hinfo v xs hown A c l hr hlen hbase
  unfold Oper.wp execOp
  simp only [ho, resolve, invoke, builtin, Sem.run_bind, Sem.run_pure, Result.andThen_ok, List.map_toArray, List.map_cons, List.map_nil, hs, hx, h1]
  exact h A' c' w' h2 h3
theorem wpList_app8 {P : Program} {w : World} {ops : Array Oper} {rest : List Oper} {o : Oper} {a : Act} {Q : Exit → Act → World → Prop} (hgd : o.guard = none) (s x : Operand) (t : TypeId)
    (ho : o.op = .call { callee := .builtin .append, args := #[s, x], argTypes := #[t, t] })
    (base e : Nat) (ht : P.underlying t = some (.slice e)) (hinfo : (P.info? e).map (fun i => (i.zero, i.size, i.bytes)) = some (some (.int .u8 0), 1, 1))
    (v : Value) (xs : List UInt8) (hs : a.eval s = v) (hown : w.ownsRow base e 1 v xs.length (bc xs)) (A : Option Addr) (c : Nat) (l : List UInt8) (hx : a.eval x = .slice A l.length c) (hr : RB w A c l)
    (hlen : xs.length + l.length ≤ 140737488355328) (hbase : base ≤ w.heap.size)
    (h : ∀ A' c' w', w'.ownsRow base e 1 (.slice A' (xs ++ l).length c') (xs ++ l).length (bc (xs ++ l)) → w.grownBy w' v.ownBlock → wpList P ops Q rest (a.put o.dst (.slice A' (xs ++ l).length c')) w') : wpList P ops Q (o :: rest) a w :=
  wpList_plain hgd fun K hK => wp_app8 s x t ho base e ht hinfo v xs hs hown A c l hx hr hlen hbase (fun A' c' w' a1 a2 => hK _ _ (h A' c' w' a1 a2))
end TG
