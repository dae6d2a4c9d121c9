/- The size of a number, and the reference's reading of one, return what plain Lean says of their bytes. Conditions stand in each theorem. -/
import Derived.Test.YtepnillddlemaaaWire2
set_option linter.unusedVariables false
set_option linter.unusedSimpArgs false
namespace Go.Proofs.Ytepnillddlemaaa
open Go.RowKit Go.Shelf TG
attribute [local go_sem] Oper.semAt_some

set_option maxRecDepth 100000 in
set_option maxHeartbeats 1000000 in
theorem size_calls (n : Nat) (w : World) (h64 : (nb n).length ≤ 10) :
    Calls Try.prog 86 #[.int .u64 n] w fun e w' => e = .returned (.int .i64 (nb n).length) ∧ Below w.heap.size w w' := by
  refine (callsIn_wide (n := 5)).1 ?_
  refine callsIn_of_wp_marks Try.func86 rfl trivial ?_ rfl
  simp only [Try.ntmps86, List.size_toArray, List.length_cons, List.length_nil, Nat.reduceAdd, Nat.reduceSub, Array.replicate_succ, Array.replicate_zero, List.push_toArray, List.append_toArray, List.nil_append, List.cons_append]
  gi_wp2_with (refine ⟨trivial, ?_⟩; gi_at_call 116; refine (groups_in Fence.wide _ trivial rfl n _).mono ?_; rintro e w2 ⟨rfl, rfl⟩)
  obtain ⟨W, hW⟩ : ∃ W, (w.alloc (.cells #[.int .i64 0] 3)).alloc (.cells #[.int .u64 n] 44) = W := ⟨_, rfl⟩
  have hsz : W.heap.size = w.heap.size + 2 := by rw [← hW]; simp
  have hBo : Boxed W w.heap.size 3 (.int .i64 0) := by rw [← hW]; exact (Boxed.new w 3 _).alloc _
  have hBn : W.heap[w.heap.size + 1]? = some (.cells #[.int .u64 n] 44 (0, 0)) := by
    rw [← hW]
    have := Boxed.new (w.alloc (.cells #[.int .i64 0] 3)) 44 (.int .u64 n)
    rwa [World.size_alloc] at this
  have hBW : Below w.heap.size w W := by rw [← hW]; exact ((Below.refl _ _).alloc (Nat.le_refl _) _).alloc (by simp) _
  rw [hW]
  clear hW
  refine Rf.rangeFunc_cell (Bn := w.heap.size + 1) (xs := nb n) rfl (by decide) (gf := 153) (lb := #[.pointer (some ⟨w.heap.size + 1, 0, none⟩)]) rfl trivial (enters_of Try.func153 (by kernel_rfl) rfl)
    (groups1_seq Fence.wide _ trivial rfl (by decide) n (w.heap.size + 1) W hBn) (by omega) (fun _ => rfl)
    (fun pre X => Boxed X w.heap.size 3 (.int .i64 pre.length) ∧ (∃ u, Boxed X (w.heap.size + 1) 44 u) ∧ Below w.heap.size w X)
    (OwnFrom.and (Own.from (boxed_own w.heap.size 3 (fun pre : List UInt8 => .int .i64 pre.length)) _) (OwnFrom.and (Own.from (fun s A B row ⟨u, hu⟩ hg hr => ⟨u, boxed_own (w.heap.size + 1) 44 (fun _ => u) s A B row hu hg hr⟩) _) (ownFrom_below (Nat.le_refl _) (by omega))))
    ?hIc ⟨hBo, ⟨_, hBn⟩, hBW⟩
    (fun x => { tmps := #[.int .u64 n, undef, .int .i64 0, .pointer (some ⟨w.heap.size, 0, none⟩), .int .u64 n, .func (.func 153) #[] #[.pointer (some ⟨w.heap.size + 1, 0, none⟩)], .int .u8 (x.toNat : Int), undef, undef, undef], defers := [] }) ?assign ?body ?done
  case hIc =>
    rintro pre X v u ⟨hv, _, hB⟩ hc
    have hne : w.heap.size ≠ w.heap.size + 1 := by omega
    exact ⟨hv.other hne u, ⟨u, Boxed.set (t := 44) u hc⟩, hB.setCell (p := ⟨w.heap.size + 1, 0, none⟩) (by simp) u⟩
  case assign =>
    intro l x W K hK
    gi_wp2
    first | exact hK | (simp; exact hK)
  case body =>
    rintro lp pre x X ⟨hv, ⟨u, hu⟩, hB2⟩ hpre
    have hc := hv.cell
    have hf := hv.frozen
    have hlp : pre.length + 1 ≤ 10 := by
      have := hpre.length_le
      simp at this
      omega
    gi_wp2
    refine ⟨(KeepsOthers.setCell _ _ _).from _, Below.heap_setCell _ _ _ _ (by simp), ?_, ⟨u, hu.other (by omega) _⟩, hB2.setCell (by simp) _⟩
    have := hv.set (.int .i64 ((pre.length : Int) + 1))
    simpa using this
  case done =>
    rintro X ⟨hv, _, hB2⟩ hK
    have hc := hv.cell
    gi_wp2
    refine ⟨by simp, .inl ⟨_, _, rfl, run_takeDeferred hK, ?_⟩⟩
    exact ⟨_, results_tmp rfl _ _ _, rfl, hB2.trans (belowK_b (w := w) (Nat.le_refl _) X W.heap.size _ _ (by omega) hK rfl rfl)⟩

theorem low_drop_le (l : List UInt8) (m : Nat) : low (l.drop m) ≤ low l := by
  induction l generalizing m with
  | nil => simp
  | cons c r ih =>
    cases m with
    | zero => simp
    | succ m => have := ih m; rw [List.drop_succ_cons, low]; omega
theorem hi_snoc {l : List UInt8} {c : UInt8} (h : hi l) (hc : 128 ≤ c.toNat) : hi (l ++ [c]) := by
  unfold hi at *
  intro d hd
  rcases List.mem_append.1 hd with hd | hd
  · exact h d hd
  · simp at hd; subst hd; exact hc

set_option maxRecDepth 100000 in
set_option maxHeartbeats 1000000 in
theorem refget_calls (l : List UInt8) (w : World) (hl : l.length ≤ 140737488355328) :
    Calls Try.prog 132 #[.string (mk8 l)] w fun e w' => e = .returned (.tuple #[.int .u64 (wgN l), .int .i64 (wgS l), .int .i64 (wgE l)]) ∧ w = w' := by
  go_enter Try.func132, Try.ntmps132
  go_wp2
  go_loop [5, 6] (fun t i => ∃ k : Nat, k ≤ l.length ∧ k ≤ 10 ∧ i = .int .i64 k ∧ (t = .int .i64 (-1) ∧ hi (l.take k) ∨ ∃ j, j < l.length ∧ k = j + 1 ∧ t = .int .i64 j ∧ hi (l.take j) ∧ ∃ hj : j < l.length, l[j].toNat < 128)) (fun _ i => l.length - (intOf i).toNat)
  case atStart => exact ⟨0, by omega, by omega, rfl, .inl ⟨rfl, by simp [hi]⟩⟩
  case round =>
    obtain ⟨k, hk, hk10, rfl, ⟨rfl, hhi⟩ | ⟨j, hj, hkj, rfl, hhi, hj', hlow⟩⟩ := hrel
    · by_cases hlt : k < l.length ∧ k < 10
      · obtain ⟨hlt, h10⟩ := hlt
        have Hhi := Lib.hid hhi
        clear hhi
        have hsn : l.take (k + 1) = l.take k ++ [l[k]] := List.take_succ_eq_append_getElem hlt
        have Hsn := Lib.hid hsn
        clear hsn
        by_cases h1 : l[k].toNat < 128
        · go_wp2
          go_round
          case rel => exact ⟨k + 1, by omega, by omega, by go_num, .inr ⟨k, hlt, rfl, rfl, Hhi.out, hlt, h1⟩⟩
          case measure => simp [intOf]; omega
        · go_wp2
          go_round
          case rel => exact ⟨k + 1, by omega, by omega, by go_num, .inl ⟨rfl, by rw [Hsn.out]; exact hi_snoc Hhi.out (by omega)⟩⟩
          case measure => simp [intOf]; omega
      · by_cases h10 : l.length < 10
        · obtain rfl : k = l.length := by omega
          have hs := wg_short l (by rwa [List.take_of_length_le (by omega)] at hhi) (by omega)
          have E : RowKit.Hid (wgN l = 0 ∧ wgS l = 0 ∧ wgE l = 2) := Lib.hid (by unfold wgN wgS wgE; rw [hs]; exact ⟨rfl, rfl, rfl⟩)
          clear hhi hlt hs
          go_wp2
          all_goals exact bodyPost_ret (v := .tuple #[.int .u64 (wgN l), .int .i64 (wgS l), .int .i64 (wgE l)]) (by simp [results, Try.results132, go_sem, E.out.1, E.out.2.1, E.out.2.2] <;> omega) rfl ⟨rfl, rfl⟩
        · obtain rfl : k = 10 := by omega
          have hs := wg_long l hhi (by omega)
          have E : RowKit.Hid (wgN l = 0 ∧ wgS l = 0 ∧ wgE l = 3) := Lib.hid (by unfold wgN wgS wgE; rw [hs]; exact ⟨rfl, rfl, rfl⟩)
          clear hhi hlt hs
          go_wp2
          all_goals exact bodyPost_ret (v := .tuple #[.int .u64 (wgN l), .int .i64 (wgS l), .int .i64 (wgE l)]) (by simp [results, Try.results132, go_sem, E.out.1, E.out.2.1, E.out.2.2] <;> omega) rfl ⟨rfl, rfl⟩
    · have he := wg_ends l j hj (by omega) hhi
      have Hhi := Lib.hid hhi
      clear hhi
      subst hkj
      by_cases h1 : j = 9 ∧ 1 < l[j].toNat
      · obtain ⟨rfl, h2⟩ := h1
        have E := Lib.hid (he.1 rfl h2)
        clear he
        have hl9 : (9 : Int) < (l.length : Int) := by omega
        go_wp2
        all_goals exact bodyPost_ret (v := .tuple #[.int .u64 (wgN l), .int .i64 (wgS l), .int .i64 (wgE l)]) (by simp [results, Try.results132, go_sem, E.out.1, E.out.2.1, E.out.2.2] <;> omega) rfl ⟨rfl, rfl⟩
      · have he2 := he.2 h1 hlow
        clear he
        have h9 : ¬ j = 9 ∨ l[j].toNat ≤ 1 := by omega
        by_cases h3 : l[j].toNat = 0 ∧ 0 < j
        · have E := Lib.hid (he2.1 h3.1 h3.2)
          obtain ⟨h3, h4⟩ := h3
          clear he2
          by_cases h99 : j = 9
          · subst h99
            go_wp2
            all_goals exact bodyPost_ret (v := .tuple #[.int .u64 (wgN l), .int .i64 (wgS l), .int .i64 (wgE l)]) (by simp [results, Try.results132, go_sem, E.out.1, E.out.2.1, E.out.2.2] <;> omega) rfl ⟨rfl, rfl⟩
          · go_wp2
            all_goals exact bodyPost_ret (v := .tuple #[.int .u64 (wgN l), .int .i64 (wgS l), .int .i64 (wgE l)]) (by simp [results, Try.results132, go_sem, E.out.1, E.out.2.1, E.out.2.2] <;> omega) rfl ⟨rfl, rfl⟩
        · have E := Lib.hid (he2.2 h3)
          clear he2
          have hsn : l.take (j + 1) = l.take j ++ [l[j]] := List.take_succ_eq_append_getElem hj
          have hle := wg_lt l
          rw [E.out.1] at hle
          have Hle := Lib.hid hle
          clear hle hsn
          have h5 : ¬ (0 < j ∧ l[j].toNat = 0) := by omega
          by_cases h99 : j = 9
          · subst h99
            have hl9 : (9 : Int) < (l.length : Int) := by omega
            go_wp2
            all_goals
              clear h1 h9 h3 h5
              go_loop [7, 8] (fun n i => ∃ m : Nat, m ≤ 9 + 1 ∧ i = .int .i64 ((m : Int) - 1) ∧ n = .int .u64 (low ((l.take (9 + 1)).drop m))) (fun _ i => (intOf i + 1).toNat)
              case atStart => exact ⟨9 + 1, by omega, by simp, by simp [low]⟩
              case round =>
                obtain ⟨m, hm, rfl, rfl⟩ := hrel
                by_cases h0 : m = 0
                · subst h0
                  go_wp2
                  all_goals exact bodyPost_ret (v := .tuple #[.int .u64 (wgN l), .int .i64 (wgS l), .int .i64 (wgE l)]) (by simp [results, Try.results132, go_sem, E.out.1, E.out.2.1, E.out.2.2] <;> omega) rfl ⟨rfl, rfl⟩
                · obtain ⟨k, rfl⟩ : ∃ k, m = k + 1 := ⟨m - 1, by omega⟩
                  have hkl : k < l.length := by omega
                  have hkt : k < (l.take (9 + 1)).length := by simp; omega
                  have hd := List.drop_eq_getElem_cons hkt
                  rw [List.getElem_take] at hd
                  have hlw : low ((l.take (9 + 1)).drop k) = l[k].toNat % 128 + 128 * low ((l.take (9 + 1)).drop (k + 1)) := by rw [hd, low]
                  have hb := Nat.lt_of_le_of_lt (low_drop_le (l.take (9 + 1)) k) Hle.out
                  rw [hlw] at hb
                  have q1 := wrap_u64 (128 * low ((l.take (9 + 1)).drop (k + 1))) (by omega)
                  have q2 := wrap_u64 (128 * low ((l.take (9 + 1)).drop (k + 1)) + l[k].toNat % 128) (by omega)
                  have Hlw := Lib.hid hlw
                  clear hb hlw hd
                  generalize low ((l.take (9 + 1)).drop (k + 1)) = L at *
                  push_cast at q1 q2
                  have q3 : ((l[k].toNat : Int)).tmod 128 = (l[k].toNat : Int) % 128 := Int.tmod_eq_emod_of_nonneg (by omega)
                  have q4 : ((k + 1 : Nat) : Int) - 1 = (k : Int) := by omega
                  go_wp2
                  go_round
                  case rel => exact ⟨k, by omega, rfl, by rw [Hlw.out]; push_cast; first | rfl | (congr 1; omega)⟩
                  case measure => simp [intOf] <;> omega
          · go_wp2
            all_goals
              clear h1 h9 h3 h5
              go_loop [7, 8] (fun n i => ∃ m : Nat, m ≤ j + 1 ∧ i = .int .i64 ((m : Int) - 1) ∧ n = .int .u64 (low ((l.take (j + 1)).drop m))) (fun _ i => (intOf i + 1).toNat)
              case atStart => exact ⟨j + 1, by omega, by simp, by simp [low]⟩
              case round =>
                obtain ⟨m, hm, rfl, rfl⟩ := hrel
                by_cases h0 : m = 0
                · subst h0
                  go_wp2
                  all_goals exact bodyPost_ret (v := .tuple #[.int .u64 (wgN l), .int .i64 (wgS l), .int .i64 (wgE l)]) (by simp [results, Try.results132, go_sem, E.out.1, E.out.2.1, E.out.2.2] <;> omega) rfl ⟨rfl, rfl⟩
                · obtain ⟨k, rfl⟩ : ∃ k, m = k + 1 := ⟨m - 1, by omega⟩
                  have hkl : k < l.length := by omega
                  have hkt : k < (l.take (j + 1)).length := by simp; omega
                  have hd := List.drop_eq_getElem_cons hkt
                  rw [List.getElem_take] at hd
                  have hlw : low ((l.take (j + 1)).drop k) = l[k].toNat % 128 + 128 * low ((l.take (j + 1)).drop (k + 1)) := by rw [hd, low]
                  have hb := Nat.lt_of_le_of_lt (low_drop_le (l.take (j + 1)) k) Hle.out
                  rw [hlw] at hb
                  have q1 := wrap_u64 (128 * low ((l.take (j + 1)).drop (k + 1))) (by omega)
                  have q2 := wrap_u64 (128 * low ((l.take (j + 1)).drop (k + 1)) + l[k].toNat % 128) (by omega)
                  have Hlw := Lib.hid hlw
                  clear hb hlw hd
                  generalize low ((l.take (j + 1)).drop (k + 1)) = L at *
                  push_cast at q1 q2
                  have q3 : ((l[k].toNat : Int)).tmod 128 = (l[k].toNat : Int) % 128 := Int.tmod_eq_emod_of_nonneg (by omega)
                  have q4 : ((k + 1 : Nat) : Int) - 1 = (k : Int) := by omega
                  go_wp2
                  go_round
                  case rel => exact ⟨k, by omega, rfl, by rw [Hlw.out]; push_cast; first | rfl | (congr 1; omega)⟩
                  case measure => simp [intOf] <;> omega

end Go.Proofs.Ytepnillddlemaaa
