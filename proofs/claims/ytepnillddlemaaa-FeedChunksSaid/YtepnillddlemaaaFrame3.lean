/- The reference of layer 5 puts a frame: what plain Lean says. Conditions stand in each theorem. -/
import Derived.Test.YtepnillddlemaaaFrame2
import Derived.Test.YtepnillddlemaaaReg
import Derived.Test.YtepnillddlemaaaMathFrame
set_option linter.unusedVariables false
set_option linter.unusedSimpArgs false
namespace Go.Proofs.Ytepnillddlemaaa
open Go.RowKit Go.Shelf TG TG.Crc
attribute [local go_sem] Oper.semAt_some

set_option maxRecDepth 100000 in
set_option maxHeartbeats 1000000 in
theorem refput5_calls (k : Nat) (hk : k = 1 ∨ k = 2) (A : Option Addr) (c : Nat) (p : List UInt8) (w : World) (hr : RB w A c p) (hp : p.length ≤ 4096) :
    Calls Try.prog 82 #[.agg #[.int .i64 k, .slice A p.length c]] w fun e w' => e = .returned (.tuple #[.string (mk8 (fp k p)), .int .i64 0]) ∧ Below w.heap.size w w' := by
  have hrl := hr.2.1
  have hk0 : ((k : Int) < 1) = False := by simp; omega
  have hk1 : (2 < (k : Int)) = False := by simp; omega
  have hbx : Blk (w.alloc (.cells #[.int .i64 k, .slice A p.length c] 29)) w.heap.size 29 [.int .i64 k, .slice A p.length c] := Blk.new _ _ _
  have hc0 := hbx.cell 0
  have hc1 := hbx.cell 1
  simp only [List.getElem?_cons_zero, List.getElem?_cons_succ] at hc0 hc1
  have hkr : (k : Int) < 256 := by omega
  have Hk := Lib.hid hk
  clear hk
  have hrW := hr.alloc (.cells #[.int .i64 k, .slice A p.length c] 29)
  go_enter Try.func82, Try.ntmps82
  go_wp2_with fail
  generalize hW : w.alloc (.cells #[.int .i64 k, .slice A p.length c] 29) = W at *
  have hcvp : ∀ X, Below W.heap.size W X → (convert 25 9 (.slice A p.length c)).run Try.prog X = .ok (.string (mk8 p)) X := fun X hX => conv_str _ _ _ Try.underlying25 Try.underlying5 Try.underlying9 (hrW.below hX)
  have Hcvp := Lib.hid hcvp
  have BW : Below w.heap.size w W := by rw [← hW]; exact below_new (Below.refl _ _) _
  clear hcvp
  have hblk : ∀ X, Below W.heap.size W X → X.cell? ⟨w.heap.size, 0, none⟩ = some (.int .i64 k) ∧ X.cell? ⟨w.heap.size, 1, none⟩ = some (.slice A p.length c) := fun X hX => ⟨by have := (hbx.below hX).cell 0; simpa using this, by have := (hbx.below hX).cell 1; simpa using this⟩
  have Hblk := Lib.hid hblk
  have Hbx := Lib.hid hbx
  clear hblk hbx
  refine wp_region_held_drew (S := fun X => Below W.heap.size W X ∧ X.cell? ⟨w.heap.size, 0, none⟩ = some (.int .i64 k) ∧ X.cell? ⟨w.heap.size, 1, none⟩ = some (.slice A p.length c) ∧ (convert 25 9 (.slice A p.length c)).run Try.prog X = .ok (.string (mk8 p)) X) (by kernel_rfl) ⟨(Below.refl _ _).drew, hc0, hc1, Hcvp.out _ (Below.refl _ _).drew⟩ (fun hHeld => ?_)
  refine take_if 0 _ ?vv1 rfl (by kernel_rfl) (by kernel_rfl) (by kernel_rfl) (fun _ _ _ h => h) (by rfl) (by assumption) ?yy1 ?rr1
  case yy1 => (intro w' hSw; (try dsimp only at hSw); simp only [List.getElem_toArray, List.getElem_cons_zero, List.getElem_cons_succ]; go_simp; try with_reducible rfl)
  try simp only [Act.put, List.setIfInBounds_toArray, List.set_cons_zero, List.set_cons_succ, List.getElem_toArray, List.getElem_cons_zero, List.getElem_cons_succ]
  refine take_if 1 _ ?vv2 rfl (by kernel_rfl) (by kernel_rfl) (by kernel_rfl) (fun _ _ _ h => h) (by rfl) (by assumption) ?yy2 ?rr2
  case yy2 => (intro w' hSw; (try dsimp only at hSw); simp only [List.getElem_toArray, List.getElem_cons_zero, List.getElem_cons_succ]; go_simp; try with_reducible rfl)
  try simp only [Act.put, List.setIfInBounds_toArray, List.set_cons_zero, List.set_cons_succ, List.getElem_toArray, List.getElem_cons_zero, List.getElem_cons_succ]
  refine take_if 2 _ ?vv3 rfl (by kernel_rfl) (by kernel_rfl) (by kernel_rfl) (fun _ _ _ h => h) (by rfl) (by assumption) ?yy3 ?rr3
  case yy3 => (intro w' hSw; (try dsimp only at hSw); simp only [List.getElem_toArray, List.getElem_cons_zero, List.getElem_cons_succ]; go_simp; try with_reducible rfl)
  try simp only [Act.put, List.setIfInBounds_toArray, List.set_cons_zero, List.set_cons_succ, List.getElem_toArray, List.getElem_cons_zero, List.getElem_cons_succ]
  refine take_if 5 _ ?vv4 rfl (by kernel_rfl) (by kernel_rfl) (by kernel_rfl) (fun _ _ _ h => h) (by rfl) (by assumption) ?yy4 ?rr4
  case yy4 => (intro w' hSw; (try dsimp only at hSw); simp only [List.getElem_toArray, List.getElem_cons_zero, List.getElem_cons_succ]; go_simp; try with_reducible rfl)
  try simp only [Act.put, List.setIfInBounds_toArray, List.set_cons_zero, List.set_cons_succ, List.getElem_toArray, List.getElem_cons_zero, List.getElem_cons_succ]
  refine take_if 6 _ ?vv5 rfl (by kernel_rfl) (by kernel_rfl) (by kernel_rfl) (fun _ _ _ h => h) (by rfl) (by assumption) ?yy5 ?rr5
  case yy5 => (intro w' hSw; (try dsimp only at hSw); simp only [List.getElem_toArray, List.getElem_cons_zero, List.getElem_cons_succ]; go_simp; try with_reducible rfl)
  try simp only [Act.put, List.setIfInBounds_toArray, List.set_cons_zero, List.set_cons_succ, List.getElem_toArray, List.getElem_cons_zero, List.getElem_cons_succ]
  refine take_if 7 _ ?vv6 rfl (by kernel_rfl) (by kernel_rfl) (by kernel_rfl) (fun _ _ _ h => h) (by rfl) (by assumption) ?yy6 ?rr6
  case yy6 => (intro w' hSw; (try dsimp only at hSw); simp only [List.getElem_toArray, List.getElem_cons_zero, List.getElem_cons_succ]; go_simp; try with_reducible rfl)
  try simp only [Act.put, List.setIfInBounds_toArray, List.set_cons_zero, List.set_cons_succ, List.getElem_toArray, List.getElem_cons_zero, List.getElem_cons_succ]
  refine take_if 8 _ ?vv7 rfl (by kernel_rfl) (by kernel_rfl) (by kernel_rfl) (fun _ _ _ h => h) (by rfl) (by assumption) ?yy7 ?rr7
  case yy7 => (intro w' hSw; (try dsimp only at hSw); simp only [List.getElem_toArray, List.getElem_cons_zero, List.getElem_cons_succ]; go_simp; try with_reducible rfl)
  try simp only [Act.put, List.setIfInBounds_toArray, List.set_cons_zero, List.set_cons_succ, List.getElem_toArray, List.getElem_cons_zero, List.getElem_cons_succ]
  refine take_if 11 _ ?vv8 rfl (by kernel_rfl) (by kernel_rfl) (by kernel_rfl) (fun _ _ _ h => h) (by rfl) (by assumption) ?yy8 ?rr8
  case yy8 => (intro w' hSw; (try dsimp only at hSw); simp only [List.getElem_toArray, List.getElem_cons_zero, List.getElem_cons_succ]; go_simp; try with_reducible rfl)
  try simp only [Act.put, List.setIfInBounds_toArray, List.set_cons_zero, List.set_cons_succ, List.getElem_toArray, List.getElem_cons_zero, List.getElem_cons_succ]
  refine take_if 12 _ ?vv9 rfl (by kernel_rfl) (by kernel_rfl) (by kernel_rfl) (fun _ _ _ h => h) (by rfl) (by assumption) ?yy9 ?rr9
  case yy9 => (intro w' hSw; (try dsimp only at hSw); simp only [List.getElem_toArray, List.getElem_cons_zero, List.getElem_cons_succ]; go_simp; try with_reducible rfl)
  try simp only [Act.put, List.setIfInBounds_toArray, List.set_cons_zero, List.set_cons_succ, List.getElem_toArray, List.getElem_cons_zero, List.getElem_cons_succ]
  refine take_if 13 _ ?vv10 rfl (by kernel_rfl) (by kernel_rfl) (by kernel_rfl) (fun _ _ _ h => h) (by rfl) (by assumption) ?yy10 ?rr10
  case yy10 => (intro w' hSw; (try dsimp only at hSw); simp only [List.getElem_toArray, List.getElem_cons_zero, List.getElem_cons_succ]; go_simp; try with_reducible rfl)
  try simp only [Act.put, List.setIfInBounds_toArray, List.set_cons_zero, List.set_cons_succ, List.getElem_toArray, List.getElem_cons_zero, List.getElem_cons_succ]
  have ql : IntKind.u64.wrap (p.length : Int) = p.length := wrap_u64 _ (by omega)
  have hlen10 := nb_len (n := p.length) (by omega)
  have hov1 : ¬ 9223372036854775807 < 1 + (nb p.length).length := by omega
  have hov2 : ¬ 9223372036854775807 < (nb p.length).length + 1 + p.length := by omega
  have hcat1 := mk8_add [UInt8.ofNat k] (nb p.length)
  have hcat2 := mk8_add (UInt8.ofNat k :: nb p.length) p
  rw [List.singleton_append] at hcat1
  rw [List.cons_append] at hcat2
  have qk : IntKind.u8.wrap (k : Int) = k := by simp [IntKind.wrap, IntKind.bits, IntKind.signed]; omega
  have Hbc : RowKit.Hid ((#[.int .u8 k] : Array Value).toList = bc [UInt8.ofNat k]) := Lib.hid (by simp [bc]; omega)
  refine wpAnyH_ready (rs := [3, 9]) (by kernel_rfl) (by simp) ?_
  refine AllReadyH.cons (o := _) rfl (fun K hK => ?_) ?_
  · simp only [List.getElem_toArray, List.getElem_cons_zero, List.getElem_cons_succ]
    go_simp
    have B1 : Below W.heap.size W ((W.alloc (.cells #[.int .u8 k] 5)).drew) := (below_new (Below.refl _ _) _).drew
    refine hK.out _ _ ⟨B1, (Hblk.out _ B1).1, (Hblk.out _ B1).2, Hcvp.out _ B1⟩ (fun hHeld2 => ?_)
    clear hK K hHeld hHeld2
    try simp only [Act.put, List.setIfInBounds_toArray, List.set_cons_zero, List.set_cons_succ, List.getElem_toArray, List.getElem_cons_zero, List.getElem_cons_succ]
    have hrb := (RB_new W 5 #[.int .u8 k] [UInt8.ofNat k] Hbc.out (by simp) 1 (by simp)).below (Below.refl _ _).drew
    generalize hW1 : (W.alloc (.cells #[.int .u8 k] 5)).drew = W1 at *
    have Hcv1 := Lib.hid (fun X (hX : Below W1.heap.size W1 X) => conv_one (P := Try.prog) 25 9 5 Try.underlying25 Try.underlying5 Try.underlying9 (hrb.below hX))
    refine wpAnyH_turn (fun X => Below (W1).heap.size (W1) X ∧ (convert 25 9 (.slice (some ⟨W.heap.size, 0, none⟩) 1 1)).run Try.prog X = .ok (.string (mk8 [UInt8.ofNat k])) X ∧ Below W.heap.size W X ∧ X.cell? ⟨w.heap.size, 0, none⟩ = some (.int .i64 k) ∧ X.cell? ⟨w.heap.size, 1, none⟩ = some (.slice A p.length c) ∧ (convert 25 9 (.slice A p.length c)).run Try.prog X = .ok (.string (mk8 p)) X) (fun w h => h.2.2) ⟨Below.refl _ _, Hcv1.out _ (Below.refl _ _), B1, (Hblk.out _ B1).1, (Hblk.out _ B1).2, Hcvp.out _ B1⟩ (fun hHeld => ?_)
    refine take_if 4 _ ?vv21 rfl (by kernel_rfl) (by kernel_rfl) (by kernel_rfl) (fun _ _ _ h => h) (by rfl) (by assumption) ?yy21 ?rr21
    case yy21 => (intro w' hSw; (try dsimp only at hSw); simp only [List.getElem_toArray, List.getElem_cons_zero, List.getElem_cons_succ]; go_simp; try with_reducible rfl)
    try simp only [Act.put, List.setIfInBounds_toArray, List.set_cons_zero, List.set_cons_succ, List.getElem_toArray, List.getElem_cons_zero, List.getElem_cons_succ]
    refine wpAnyH_ready (rs := [9]) (by kernel_rfl) (by simp) ?_
    refine AllReadyH.cons (o := _) rfl (fun K hK => ?_) ?_
    · simp only [List.getElem_toArray, List.getElem_cons_zero, List.getElem_cons_succ]
      go_simp
      refine (refput p.length W1 (by omega)).mono ?_
      rintro e w3 ⟨rfl, hB3⟩
      have B3 := below_chain B1 hB3
      refine hK.out _ _ ⟨hB3, Hcv1.out _ hB3, B3, (Hblk.out _ B3).1, (Hblk.out _ B3).2, Hcvp.out _ B3⟩ (fun hHeld2 => ?_)
      clear hK K hHeld
      try simp only [Act.put, List.setIfInBounds_toArray, List.set_cons_zero, List.set_cons_succ, List.getElem_toArray, List.getElem_cons_zero, List.getElem_cons_succ]
      refine take_if 10 _ ?vv41 rfl (by kernel_rfl) (by kernel_rfl) (by kernel_rfl) (fun _ _ _ h => h) (by rfl) (by assumption) ?yy41 ?rr41
      case yy41 => (intro w' hSw; (try dsimp only at hSw); simp only [List.getElem_toArray, List.getElem_cons_zero, List.getElem_cons_succ]; go_simp; try with_reducible rfl)
      try simp only [Act.put, List.setIfInBounds_toArray, List.set_cons_zero, List.set_cons_succ, List.getElem_toArray, List.getElem_cons_zero, List.getElem_cons_succ]
      refine take_if 14 _ ?vv42 rfl (by kernel_rfl) (by kernel_rfl) (by kernel_rfl) (fun _ _ _ h => h) (by rfl) (by assumption) ?yy42 ?rr42
      case yy42 => (intro w' hSw; (try dsimp only at hSw); simp only [List.getElem_toArray, List.getElem_cons_zero, List.getElem_cons_succ]; go_simp; try with_reducible rfl)
      try simp only [Act.put, List.setIfInBounds_toArray, List.set_cons_zero, List.set_cons_succ, List.getElem_toArray, List.getElem_cons_zero, List.getElem_cons_succ]
      refine take_if 15 _ ?vv43 rfl (by kernel_rfl) (by kernel_rfl) (by kernel_rfl) (fun _ _ _ h => h) (by rfl) (by assumption) ?yy43 ?rr43
      case yy43 => (intro w' hSw; (try dsimp only at hSw); simp only [List.getElem_toArray, List.getElem_cons_zero, List.getElem_cons_succ]; go_simp; try with_reducible rfl)
      try simp only [Act.put, List.setIfInBounds_toArray, List.set_cons_zero, List.set_cons_succ, List.getElem_toArray, List.getElem_cons_zero, List.getElem_cons_succ]
      refine wpAnyH_done (by kernel_rfl) ?_ _
      rw [fb_eq]
      have hfl := fb_length k p
      have hmk := mk8_add [199, 84, 71, 1] (fb k p)
      have hmk2 := mk8_add (199 :: 84 :: 71 :: 1 :: fb k p) (b4 (crc (fb k p)))
      have hfe := fp_eq k p
      simp only [List.cons_append, List.nil_append] at hmk hmk2
      rw [hfe] at hmk2
      have h4 := b4_length (crc (fb k p))
      have hov3 : ¬ 9223372036854775807 < 4 + (fb k p).length := by omega
      clear hov1 hov2 hcat1 hcat2 hfe
      clear hHeld2
      generalize hfbx : fb k p = body at *
      go_wp2_with fail
      refine (mark_calls _).mono ?_
      rintro e w4 ⟨rfl, hB4⟩
      go_wp2_with fail
      refine (refsum_calls body _ (by omega)).mono ?_
      rintro e w5 ⟨rfl, rfl⟩
      go_wp2_with fail
      refine (refbytes_calls _ _).mono ?_
      rintro e w5 ⟨rfl, hB5⟩
      go_wp2
      exact bodyPost_ret (v := .tuple #[.string (mk8 (fp k p)), .int .i64 0]) (by simp [results, Try.results82, go_sem]) rfl ⟨rfl, below_chain (below_chain (below_chain BW B3) hB4) hB5⟩
    · exact AllReadyH.nil
  · refine AllReadyH.cons (o := _) rfl (fun K hK => ?_) ?_
    · simp only [List.getElem_toArray, List.getElem_cons_zero, List.getElem_cons_succ]
      go_simp
      refine (refput p.length W.drew (by omega)).mono ?_
      rintro e w2 ⟨rfl, hB2⟩
      have B2 := below_chain (Below.refl W.heap.size W).drew hB2
      refine hK.out _ _ ⟨B2, (Hblk.out _ B2).1, (Hblk.out _ B2).2, Hcvp.out _ B2⟩ (fun hHeld3 => ?_)
      clear hK K hHeld
      try simp only [Act.put, List.setIfInBounds_toArray, List.set_cons_zero, List.set_cons_succ, List.getElem_toArray, List.getElem_cons_zero, List.getElem_cons_succ]
      refine wpAnyH_ready (rs := [3]) (by kernel_rfl) (by simp) ?_
      refine AllReadyH.cons (o := _) rfl (fun K hK => ?_) AllReadyH.nil
      simp only [List.getElem_toArray, List.getElem_cons_zero, List.getElem_cons_succ]
      go_simp
      have B3 : Below W.heap.size W (w2.alloc (.cells #[.int .u8 k] 5)) := below_new B2 _
      refine hK.out _ _ ⟨B3, (Hblk.out _ B3).1, (Hblk.out _ B3).2, Hcvp.out _ B3⟩ (fun hHeld4 => ?_)
      clear hK K hHeld3 hHeld4
      try simp only [Act.put, List.setIfInBounds_toArray, List.set_cons_zero, List.set_cons_succ, List.getElem_toArray, List.getElem_cons_zero, List.getElem_cons_succ]
      have hrb := RB_new w2 5 #[.int .u8 k] [UInt8.ofNat k] Hbc.out (by simp) 1 (by simp)
      generalize hW1 : w2.alloc (.cells #[.int .u8 k] 5) = w3 at *
      have Hcv1 := Lib.hid (fun X (hX : Below w3.heap.size w3 X) => conv_one (P := Try.prog) 25 9 5 Try.underlying25 Try.underlying5 Try.underlying9 (hrb.below hX))
      refine wpAnyH_turn (fun X => Below (w3).heap.size (w3) X ∧ (convert 25 9 (.slice (some ⟨w2.heap.size, 0, none⟩) 1 1)).run Try.prog X = .ok (.string (mk8 [UInt8.ofNat k])) X ∧ Below W.heap.size W X ∧ X.cell? ⟨w.heap.size, 0, none⟩ = some (.int .i64 k) ∧ X.cell? ⟨w.heap.size, 1, none⟩ = some (.slice A p.length c) ∧ (convert 25 9 (.slice A p.length c)).run Try.prog X = .ok (.string (mk8 p)) X) (fun w h => h.2.2) ⟨Below.refl _ _, Hcv1.out _ (Below.refl _ _), B3, (Hblk.out _ B3).1, (Hblk.out _ B3).2, Hcvp.out _ B3⟩ (fun hHeld2 => ?_)
      refine take_if 4 _ ?vv61 rfl (by kernel_rfl) (by kernel_rfl) (by kernel_rfl) (fun _ _ _ h => h) (by rfl) (by assumption) ?yy61 ?rr61
      case yy61 => (intro w' hSw; (try dsimp only at hSw); simp only [List.getElem_toArray, List.getElem_cons_zero, List.getElem_cons_succ]; go_simp; try with_reducible rfl)
      try simp only [Act.put, List.setIfInBounds_toArray, List.set_cons_zero, List.set_cons_succ, List.getElem_toArray, List.getElem_cons_zero, List.getElem_cons_succ]
      refine take_if 10 _ ?vv62 rfl (by kernel_rfl) (by kernel_rfl) (by kernel_rfl) (fun _ _ _ h => h) (by rfl) (by assumption) ?yy62 ?rr62
      case yy62 => (intro w' hSw; (try dsimp only at hSw); simp only [List.getElem_toArray, List.getElem_cons_zero, List.getElem_cons_succ]; go_simp; try with_reducible rfl)
      try simp only [Act.put, List.setIfInBounds_toArray, List.set_cons_zero, List.set_cons_succ, List.getElem_toArray, List.getElem_cons_zero, List.getElem_cons_succ]
      refine take_if 14 _ ?vv63 rfl (by kernel_rfl) (by kernel_rfl) (by kernel_rfl) (fun _ _ _ h => h) (by rfl) (by assumption) ?yy63 ?rr63
      case yy63 => (intro w' hSw; (try dsimp only at hSw); simp only [List.getElem_toArray, List.getElem_cons_zero, List.getElem_cons_succ]; go_simp; try with_reducible rfl)
      try simp only [Act.put, List.setIfInBounds_toArray, List.set_cons_zero, List.set_cons_succ, List.getElem_toArray, List.getElem_cons_zero, List.getElem_cons_succ]
      refine take_if 15 _ ?vv64 rfl (by kernel_rfl) (by kernel_rfl) (by kernel_rfl) (fun _ _ _ h => h) (by rfl) (by assumption) ?yy64 ?rr64
      case yy64 => (intro w' hSw; (try dsimp only at hSw); simp only [List.getElem_toArray, List.getElem_cons_zero, List.getElem_cons_succ]; go_simp; try with_reducible rfl)
      try simp only [Act.put, List.setIfInBounds_toArray, List.set_cons_zero, List.set_cons_succ, List.getElem_toArray, List.getElem_cons_zero, List.getElem_cons_succ]
      refine wpAnyH_done (by kernel_rfl) ?_ _
      rw [fb_eq]
      have hfl := fb_length k p
      have hmk := mk8_add [199, 84, 71, 1] (fb k p)
      have hmk2 := mk8_add (199 :: 84 :: 71 :: 1 :: fb k p) (b4 (crc (fb k p)))
      have hfe := fp_eq k p
      simp only [List.cons_append, List.nil_append] at hmk hmk2
      rw [hfe] at hmk2
      have h4 := b4_length (crc (fb k p))
      have hov3 : ¬ 9223372036854775807 < 4 + (fb k p).length := by omega
      clear hov1 hov2 hcat1 hcat2 hfe
      clear hHeld2
      generalize hfbx : fb k p = body at *
      go_wp2_with fail
      refine (mark_calls _).mono ?_
      rintro e w4 ⟨rfl, hB4⟩
      go_wp2_with fail
      refine (refsum_calls body _ (by omega)).mono ?_
      rintro e w5 ⟨rfl, rfl⟩
      go_wp2_with fail
      refine (refbytes_calls _ _).mono ?_
      rintro e w5 ⟨rfl, hB5⟩
      go_wp2
      exact bodyPost_ret (v := .tuple #[.string (mk8 (fp k p)), .int .i64 0]) (by simp [results, Try.results82, go_sem]) rfl ⟨rfl, below_chain (below_chain (below_chain BW B3) hB4) hB5⟩
    · exact AllReadyH.nil
end Go.Proofs.Ytepnillddlemaaa
