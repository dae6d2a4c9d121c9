/- The statements of layer 25: the chapter's example; edits that may not be made. Conditions stand in each theorem. -/
import Derived.Test.YtepnillddlemaaaWound5
set_option linter.unusedVariables false
set_option linter.unusedSimpArgs false
namespace Go.Proofs.Ytepnillddlemaaa
open Go.RowKit Go.Shelf TG TG.Crc
attribute [local go_sem] Oper.semAt_some

set_option maxRecDepth 100000 in
set_option maxHeartbeats 1000000 in
theorem apply_bad (A : Option Addr) (c : Nat) (l : List UInt8) (A2 : Option Addr) (c2 : Nat) (x : List Ed) (w : World) (h1 : RdE.S (fun _ => True) w A2 c2 x) (hl : l.length ≤ 600) (hx : okE x) (hm : mayB l.length 0 x = false) :
    Calls Try.prog 50 #[.slice A l.length c, .slice A2 x.length c2] w fun e w' => e = .returned (.tuple #[.slice none 0 0, .int .i64 1]) ∧ Below w.heap.size w w' := by
  have hmay := may_calls l.length (by omega) A2 c2 x w h1 hx
  rw [hm] at hmay
  clear hm
  go_enter Try.func50, Try.ntmps50
  go_wp2_with fail
  refine hmay.mono ?_
  rintro e w1 ⟨rfl, hB1⟩
  go_wp2
  go_ret2
  exact ⟨rfl, hB1⟩
set_option maxRecDepth 100000 in
set_option maxHeartbeats 1000000 in
theorem fixed25_calls (w : World) :
    Calls Try.prog 49 #[] w fun e w' => e = .returned (.bool true) ∧ Below w.heap.size w w' := by
  have kc := fun (w : World) (C : Array Value) (n c : Nat) => Lib.run_convert_bytes_const (P := Try.prog) w 25 5 C n c Try.underlying25 Try.underlying5
  go_enter Try.func49, Try.ntmps49
  go_wp2_with fail
  obtain ⟨W, hW⟩ : ∃ W, W = (((w.alloc (.cells #[.int .u8 97, .int .u8 98, .int .u8 99] 5 (3, 4))).alloc (.cells #[.int .u8 1] 5)).alloc (.cells #[.int .i64 1, .int .i64 0, .slice (some ⟨w.heap.size + 1, 0, none⟩) 1 1, .int .i64 2, .int .i64 1, .slice none 0 0] 148)) := ⟨_, rfl⟩
  have hB0 : Below w.heap.size w W := by rw [hW]; exact below_new (below_new (below_new (Below.refl _ _) _) _) _
  have hr0 : RB W (some ⟨w.heap.size, 0, none⟩) 3 [97, 98, 99] := by rw [hW]; exact ((RB_newf w 5 (3, 4) #[.int .u8 97, .int .u8 98, .int .u8 99] [97, 98, 99] rfl (by decide) 3 (by decide)).alloc _).alloc _
  have hr1 : RB W (some ⟨w.heap.size + 1, 0, none⟩) 1 [1] := by
    rw [hW]
    have := (RB_new (w.alloc (.cells #[.int .u8 97, .int .u8 98, .int .u8 99] 5 (3, 4))) 5 #[.int .u8 1] [1] rfl (by decide) 1 (by decide)).alloc (.cells #[.int .i64 1, .int .i64 0, .slice (some ⟨w.heap.size + 1, 0, none⟩) 1 1, .int .i64 2, .int .i64 1, .slice none 0 0] 148)
    rw [World.size_alloc] at this
    exact this
  have hWe : W.heap[w.heap.size + 1 + 1]? = some (.cells #[.int .i64 1, .int .i64 0, .slice (some ⟨w.heap.size + 1, 0, none⟩) 1 1, .int .i64 2, .int .i64 1, .slice none 0 0] 148 (0, 0)) := by
    rw [hW]
    have := World.alloc_heap_new ((w.alloc (.cells #[.int .u8 97, .int .u8 98, .int .u8 99] 5 (3, 4))).alloc (.cells #[.int .u8 1] 5)) (.cells #[.int .i64 1, .int .i64 0, .slice (some ⟨w.heap.size + 1, 0, none⟩) 1 1, .int .i64 2, .int .i64 1, .slice none 0 0] 148)
    rw [World.size_alloc, World.size_alloc] at this
    exact this
  have hS : RdE.S (fun _ => True) W (some ⟨w.heap.size + 1 + 1, 0, none⟩) 2 [((1 : Int), (0 : Int), [(1 : UInt8)]), (2, 1, [])] := Rd.S_cells hWe trivial _ 2 (by decide) (by decide) (fun j hj => by
    have : j = 0 ∨ j = 1 := by simp at hj; omega
    rcases this with rfl | rfl
    · refine ⟨[.int .i64 1, .int .i64 0, .slice (some ⟨w.heap.size + 1, 0, none⟩) 1 1], ⟨[.int .i64 1], _, rfl, ⟨rfl, (show (Lit.int .i64 1).wf = true from by decide)⟩, [.int .i64 0], _, rfl, ⟨rfl, (show (Lit.int .i64 0).wf = true from by decide)⟩, _, _, rfl, Rd.u8_of_RB hr1 (fun _ _ => trivial)⟩, fun i u hi => ?_⟩
      match i, hi with
      | 0, hi => simpa using hi
      | 1, hi => simpa using hi
      | 2, hi => simpa using hi
      | i + 3, hi => simp at hi
    · refine ⟨[.int .i64 2, .int .i64 1, .slice none 0 0], ⟨[.int .i64 2], _, rfl, ⟨rfl, (show (Lit.int .i64 2).wf = true from by decide)⟩, [.int .i64 1], _, rfl, ⟨rfl, (show (Lit.int .i64 1).wf = true from by decide)⟩, _, _, rfl, Rd.S_nil _ _ _ _⟩, fun i u hi => ?_⟩
      match i, hi with
      | 0, hi => simpa [Rd.pair, Rd.num, Rd.slice] using hi
      | 1, hi => simpa [Rd.pair, Rd.num, Rd.slice] using hi
      | 2, hi => simpa [Rd.pair, Rd.num, Rd.slice] using hi
      | i + 3, hi => simp at hi)
  have hap := apply_calls (some ⟨w.heap.size, 0, none⟩) 3 [97, 98, 99] (some ⟨w.heap.size + 1 + 1, 0, none⟩) 2 [((1 : Int), (0 : Int), [(1 : UInt8)]), (2, 1, [])] W hr0 hS (by decide) (fun e he => by
    simp only [List.mem_cons, List.not_mem_nil, or_false] at he
    rcases he with rfl | rfl <;> decide) (by decide) (by decide)
  rw [show ap [97, 98, 99] 0 [((1 : Int), (0 : Int), [(1 : UInt8)]), (2, 1, [])] = [97, 1, 98] from by decide] at hap
  rw [← hW]
  clear hW hWe hS hr0 hr1 kc
  refine hap.mono ?_
  rintro e w3 ⟨A3, c3, rfl, hr3, hB3⟩
  have hcv := conv_str (P := Try.prog) 25 9 5 Try.underlying25 Try.underlying5 Try.underlying9 hr3
  rw [show ([97, 1, 98] : List UInt8).length = 3 from rfl] at hcv
  go_wp2
  go_ret
  exact ⟨rfl, below_chain hB0 hB3⟩
end Go.Proofs.Ytepnillddlemaaa
