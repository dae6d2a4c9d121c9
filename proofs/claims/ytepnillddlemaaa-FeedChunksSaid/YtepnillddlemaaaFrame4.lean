/- frame.Put returns a frame's bytes. Conditions stand in each theorem. -/
import Derived.Test.YtepnillddlemaaaFrame3
import Derived.Test.YtepnillddlemaaaAppB
set_option linter.unusedVariables false
set_option linter.unusedSimpArgs false
namespace Go.Proofs.Ytepnillddlemaaa
open Go.RowKit Go.Shelf TG TG.Crc
attribute [local go_sem] Oper.semAt_some

set_option maxRecDepth 100000 in
set_option maxHeartbeats 1000000 in
theorem fput_calls (k : Nat) (hk : k = 1 ∨ k = 2) (A : Option Addr) (c : Nat) (p : List UInt8) (w : World) (hr : RB w A c p) (hp : p.length ≤ 4096) :
    Calls Try.prog 17 #[.agg #[.int .i64 k, .slice A p.length c]] w fun e w' => ∃ v, e = .returned (.tuple #[v, .int .i64 0]) ∧ w'.ownsRow w.heap.size 5 1 v (fp k p).length (bc (fp k p)) ∧ Below w.heap.size w w' := by
  have hrl := hr.2.1
  have hbx : Blk (w.alloc (.cells #[.int .i64 k, .slice A p.length c] 29)) w.heap.size 29 [.int .i64 k, .slice A p.length c] := Blk.new _ _ _
  have hc0 := hbx.cell 0
  have hc1 := hbx.cell 1
  simp only [List.getElem?_cons_zero, List.getElem?_cons_succ] at hc0 hc1
  have hkb : ((k : Int) == 1 || (k : Int) == 2) = true := by rcases hk with rfl | rfl <;> rfl
  have hkr : (k : Int) < 256 := by omega
  have hrW := hr.alloc (.cells #[.int .i64 k, .slice A p.length c] 29)
  have Hk := Lib.hid hk
  clear hk
  go_enter Try.func17, Try.ntmps17
  go_wp2_with fail
  refine (kind_calls _ _).mono ?_
  rintro r w4 ⟨rfl, rfl⟩
  rw [hkb]
  go_wp2_with fail
  generalize hW : w.alloc (.cells #[.int .i64 k, .slice A p.length c] 29) = W at *
  have BW : Below w.heap.size w W := by rw [← hW]; exact below_new (Below.refl _ _) _
  have hblk : ∀ X, Below W.heap.size W X → X.cell? ⟨w.heap.size, 0, none⟩ = some (.int .i64 k) ∧ X.cell? ⟨w.heap.size, 1, none⟩ = some (.slice A p.length c) := fun X hX => ⟨by have := (hbx.below hX).cell 0; simpa using this, by have := (hbx.below hX).cell 1; simpa using this⟩
  have Hblk := Lib.hid hblk
  have Hbx := Lib.hid hbx
  have Hbc : RowKit.Hid ((#[.int .u8 k] : Array Value).toList = bc [UInt8.ofNat k]) := Lib.hid (by simp [bc]; omega)
  have ql : IntKind.u64.wrap (p.length : Int) = p.length := wrap_u64 _ (by omega)
  have qk : IntKind.u8.wrap (k : Int) = k := by simp [IntKind.wrap, IntKind.bits, IntKind.signed]; omega
  have hlen10 := nb_len (n := p.length) (by omega)
  clear hblk hbx
  refine wp_region_held_drew (S := fun X => Below W.heap.size W X ∧ X.cell? ⟨w.heap.size, 0, none⟩ = some (.int .i64 k) ∧ X.cell? ⟨w.heap.size, 1, none⟩ = some (.slice A p.length c)) (by kernel_rfl) ⟨(Below.refl _ _).drew, hc0, hc1⟩ (fun hHeld => ?_)
  refine take_if 0 _ ?vv1 rfl (by kernel_rfl) (by kernel_rfl) (by kernel_rfl) (fun _ _ _ h => h) (by rfl) (by assumption) ?yy1 ?rr1
  case yy1 => (intro w' hSw; (try dsimp only at hSw); simp only [List.getElem_toArray, List.getElem_cons_zero, List.getElem_cons_succ]; go_simp; try with_reducible rfl)
  try simp only [Act.put, List.setIfInBounds_toArray, List.set_cons_zero, List.set_cons_succ, List.getElem_toArray, List.getElem_cons_zero, List.getElem_cons_succ]
  refine take_if 1 _ ?vv2 rfl (by kernel_rfl) (by kernel_rfl) (by kernel_rfl) (fun _ _ _ h => h) (by rfl) (by assumption) ?yy2 ?rr2
  case yy2 => (intro w' hSw; (try dsimp only at hSw); simp only [List.getElem_toArray, List.getElem_cons_zero, List.getElem_cons_succ]; go_simp; try with_reducible rfl)
  try simp only [Act.put, List.setIfInBounds_toArray, List.set_cons_zero, List.set_cons_succ, List.getElem_toArray, List.getElem_cons_zero, List.getElem_cons_succ]
  refine take_if 2 _ ?vv3 rfl (by kernel_rfl) (by kernel_rfl) (by kernel_rfl) (fun _ _ _ h => h) (by rfl) (by assumption) ?yy3 ?rr3
  case yy3 => (intro w' hSw; (try dsimp only at hSw); simp only [List.getElem_toArray, List.getElem_cons_zero, List.getElem_cons_succ]; go_simp; try with_reducible rfl)
  try simp only [Act.put, List.setIfInBounds_toArray, List.set_cons_zero, List.set_cons_succ, List.getElem_toArray, List.getElem_cons_zero, List.getElem_cons_succ]
  refine take_if 4 _ ?vv4 rfl (by kernel_rfl) (by kernel_rfl) (by kernel_rfl) (fun _ _ _ h => h) (by rfl) (by assumption) ?yy4 ?rr4
  case yy4 => (intro w' hSw; (try dsimp only at hSw); simp only [List.getElem_toArray, List.getElem_cons_zero, List.getElem_cons_succ]; go_simp; try with_reducible rfl)
  try simp only [Act.put, List.setIfInBounds_toArray, List.set_cons_zero, List.set_cons_succ, List.getElem_toArray, List.getElem_cons_zero, List.getElem_cons_succ]
  refine take_if 5 _ ?vv5 rfl (by kernel_rfl) (by kernel_rfl) (by kernel_rfl) (fun _ _ _ h => h) (by rfl) (by assumption) ?yy5 ?rr5
  case yy5 => (intro w' hSw; (try dsimp only at hSw); simp only [List.getElem_toArray, List.getElem_cons_zero, List.getElem_cons_succ]; go_simp; try with_reducible rfl)
  try simp only [Act.put, List.setIfInBounds_toArray, List.set_cons_zero, List.set_cons_succ, List.getElem_toArray, List.getElem_cons_zero, List.getElem_cons_succ]
  refine take_if 6 _ ?vv6 rfl (by kernel_rfl) (by kernel_rfl) (by kernel_rfl) (fun _ _ _ h => h) (by rfl) (by assumption) ?yy6 ?rr6
  case yy6 => (intro w' hSw; (try dsimp only at hSw); simp only [List.getElem_toArray, List.getElem_cons_zero, List.getElem_cons_succ]; go_simp; try with_reducible rfl)
  try simp only [Act.put, List.setIfInBounds_toArray, List.set_cons_zero, List.set_cons_succ, List.getElem_toArray, List.getElem_cons_zero, List.getElem_cons_succ]
  refine take_if 7 _ ?vv7 rfl (by kernel_rfl) (by kernel_rfl) (by kernel_rfl) (fun _ _ _ h => h) (by rfl) (by assumption) ?yy7 ?rr7
  case yy7 => (intro w' hSw; (try dsimp only at hSw); simp only [List.getElem_toArray, List.getElem_cons_zero, List.getElem_cons_succ]; go_simp; try with_reducible rfl)
  try simp only [Act.put, List.setIfInBounds_toArray, List.set_cons_zero, List.set_cons_succ, List.getElem_toArray, List.getElem_cons_zero, List.getElem_cons_succ]
  refine take_if 9 _ ?vv8 rfl (by kernel_rfl) (by kernel_rfl) (by kernel_rfl) (fun _ _ _ h => h) (by rfl) (by assumption) ?yy8 ?rr8
  case yy8 => (intro w' hSw; (try dsimp only at hSw); simp only [List.getElem_toArray, List.getElem_cons_zero, List.getElem_cons_succ]; go_simp; try with_reducible rfl)
  try simp only [Act.put, List.setIfInBounds_toArray, List.set_cons_zero, List.set_cons_succ, List.getElem_toArray, List.getElem_cons_zero, List.getElem_cons_succ]
  refine take_if 10 _ ?vv9 rfl (by kernel_rfl) (by kernel_rfl) (by kernel_rfl) (fun _ _ _ h => h) (by rfl) (by assumption) ?yy9 ?rr9
  case yy9 => (intro w' hSw; (try dsimp only at hSw); simp only [List.getElem_toArray, List.getElem_cons_zero, List.getElem_cons_succ]; go_simp; try with_reducible rfl)
  try simp only [Act.put, List.setIfInBounds_toArray, List.set_cons_zero, List.set_cons_succ, List.getElem_toArray, List.getElem_cons_zero, List.getElem_cons_succ]
  refine wpAnyH_ready (rs := [3]) (by kernel_rfl) (by simp) ?_
  refine AllReadyH.cons (o := _) rfl (fun K hK => ?_) AllReadyH.nil
  simp only [List.getElem_toArray, List.getElem_cons_zero, List.getElem_cons_succ]
  go_simp
  have B1 : Below W.heap.size W ((W.alloc (.cells #[.int .u8 k] 5)).drew) := (below_new (Below.refl _ _) _).drew
  refine hK.out _ _ ⟨B1, Hblk.out _ B1⟩ (fun hHeld2 => ?_)
  clear hK K hHeld
  try simp only [Act.put, List.setIfInBounds_toArray, List.set_cons_zero, List.set_cons_succ, List.getElem_toArray, List.getElem_cons_zero, List.getElem_cons_succ]
  have hrb := (RB_new W 5 #[.int .u8 k] [UInt8.ofNat k] Hbc.out (by simp) 1 (by simp)).below (Below.refl _ _).drew
  generalize hW1 : (W.alloc (.cells #[.int .u8 k] 5)).drew = W1 at *
  refine wpAnyH_ready (rs := [8]) (by kernel_rfl) (by simp) ?_
  refine AllReadyH.cons (o := _) rfl (fun K hK => ?_) AllReadyH.nil
  simp only [List.getElem_toArray, List.getElem_cons_zero, List.getElem_cons_succ]
  go_simp
  refine (put_calls _ _ [UInt8.ofNat k] p.length W1 hrb (by simp; omega)).mono ?_
  rintro e w2 ⟨v2, rfl, hown2, hB2⟩
  have B2 := below_chain B1 hB2
  refine hK.out _ _ ⟨B2, Hblk.out _ B2⟩ (fun hHeld3 => ?_)
  clear hK K hHeld2
  try simp only [Act.put, List.setIfInBounds_toArray, List.set_cons_zero, List.set_cons_succ, List.getElem_toArray, List.getElem_cons_zero, List.getElem_cons_succ]
  refine wpAnyH_ready (rs := [11]) (by kernel_rfl) (by simp) ?_
  refine AllReadyH.cons (o := _) rfl (fun K hK => ?_) AllReadyH.nil
  simp only [List.getElem_toArray, List.getElem_cons_zero, List.getElem_cons_succ]
  rw [if_pos (by rfl)]
  have hrow : ∀ g, v2.ownBlock = some g → W.heap.size ≤ g := by
    intro g hg
    rcases hown2.2 with ⟨rfl, _⟩ | ⟨g2, cap, cur, rfl, hb, _⟩
    · simp [Value.ownBlock] at hg
    · have hg2 : g2 = g := by simpa [Value.ownBlock] using hg
      have := B1.size
      omega
  refine wp_app8 _ _ 25 rfl W1.heap.size 5 Try.underlying25 info_u8 v2 _ rfl hown2 A c p rfl (hrW.below B2) (by simp; omega) hB2.size ?_
  intro A4 c4 w4 hown4 hgrow
  have B4 : Below W.heap.size W w4 := B2.grown hgrow B2.size hrow
  have hbody : [UInt8.ofNat k] ++ nb p.length ++ p = fb k p := by simp [fb_eq]
  rw [hbody] at hown4 ⊢
  refine hK.out _ _ ⟨B4, Hblk.out _ B4⟩ (fun hHeld4 => ?_)
  clear hK K hHeld3 hbody
  try simp only [Act.put, List.setIfInBounds_toArray, List.set_cons_zero, List.set_cons_succ, List.getElem_toArray, List.getElem_cons_zero, List.getElem_cons_succ]
  have hfl := fb_length k p
  have hr4 : RB w4 A4 c4 (fb k p) := own_RB hown4 (by omega)
  have Hfl := Lib.hid hfl
  clear hfl
  refine take_if 12 _ ?vv81 rfl (by kernel_rfl) (by kernel_rfl) (by kernel_rfl) (fun _ _ _ h => h) (by rfl) (by assumption) ?yy81 ?rr81
  case yy81 => (intro w' hSw; (try dsimp only at hSw); simp only [List.getElem_toArray, List.getElem_cons_zero, List.getElem_cons_succ]; go_simp; try with_reducible rfl)
  try simp only [Act.put, List.setIfInBounds_toArray, List.set_cons_zero, List.set_cons_succ, List.getElem_toArray, List.getElem_cons_zero, List.getElem_cons_succ]
  refine wpAnyH_done (by kernel_rfl) ?_ _
  clear hHeld4
  generalize hfbx : fb k p = body at *
  have hnew := World.alloc_heap_new w4 (.cells #[.slice A4 body.length c4] 25)
  have hr5 := hr4.alloc (.cells #[.slice A4 body.length c4] 25)
  go_wp2_with fail
  refine (sum_one_calls _ _ _ _ _ body _ hnew hr5).mono ?_
  rintro e w5 ⟨rfl, rfl⟩
  go_wp2_with fail
  refine (bytes_calls _ _).mono ?_
  rintro e w6 ⟨rfl, hB6⟩
  go_wp2_with fail
  have kc : ∀ (w : World) (C : Array Value) (n c : Nat), (convert 25 25 (.slice (some ⟨w.heap.size, 0, none⟩) n c)).run Try.prog (w.alloc (.cells C 5)).drew = .ok (.slice (some ⟨w.heap.size, 0, none⟩) n c) (w.alloc (.cells C 5 (C.size, C.size + 1))).drew := fun w C n c => Lib.run_convert_bytes_const (P := Try.prog) w.drew 25 5 C n c Try.underlying25 Try.underlying5
  generalize hW6 : w6.alloc (.cells #[.int .u8 (un (crc body) % 256), .int .u8 (un (crc body) / 256 % 256), .int .u8 (un (crc body) / 65536 % 256), .int .u8 (un (crc body) / 16777216)] 110) = W6 at *
  refine wp_region_held_drew (S := fun X => True) (by kernel_rfl) trivial (fun hHeld => ?_)
  refine take_if 2 _ ?vv101 rfl (by kernel_rfl) (by kernel_rfl) (by kernel_rfl) (fun _ _ _ h => h) (by rfl) (by assumption) ?yy101 ?rr101
  case yy101 => (intro w' hSw; (try dsimp only at hSw); simp only [List.getElem_toArray, List.getElem_cons_zero, List.getElem_cons_succ]; go_simp; try with_reducible rfl)
  try simp only [Act.put, List.setIfInBounds_toArray, List.set_cons_zero, List.set_cons_succ, List.getElem_toArray, List.getElem_cons_zero, List.getElem_cons_succ]
  refine take_if 4 _ ?vv102 rfl (by kernel_rfl) (by kernel_rfl) (by kernel_rfl) (fun _ _ _ h => h) (by rfl) (by assumption) ?yy102 ?rr102
  case yy102 => (intro w' hSw; (try dsimp only at hSw); simp only [List.getElem_toArray, List.getElem_cons_zero, List.getElem_cons_succ]; go_simp; try with_reducible rfl)
  try simp only [Act.put, List.setIfInBounds_toArray, List.set_cons_zero, List.set_cons_succ, List.getElem_toArray, List.getElem_cons_zero, List.getElem_cons_succ]
  refine wpAnyH_ready (rs := [0]) (by kernel_rfl) (by simp) ?_
  refine AllReadyH.cons (o := _) rfl (fun K hK => ?_) AllReadyH.nil
  simp only [List.getElem_toArray, List.getElem_cons_zero, List.getElem_cons_succ]
  go_simp
  refine hK.out _ _ trivial (fun hHeld2 => ?_)
  clear hK K hHeld
  try simp only [Act.put, List.setIfInBounds_toArray, List.set_cons_zero, List.set_cons_succ, List.getElem_toArray, List.getElem_cons_zero, List.getElem_cons_succ]
  refine wpAnyH_ready (rs := [1]) (by kernel_rfl) (by simp) ?_
  refine AllReadyH.cons (o := _) rfl (fun K hK => ?_) AllReadyH.nil
  simp only [List.getElem_toArray, List.getElem_cons_zero, List.getElem_cons_succ]
  go_simp
  have B7 : Below w4.heap.size w4 (W6.alloc (.cells #[.int .u8 199, .int .u8 84, .int .u8 71, .int .u8 1] 5 (4, 5))).drew := by
    rw [← hW6]
    exact (below_new (below_new (below_chain (below_new (Below.refl _ _) _) hB6) _) _).drew
  have hmark := (RB_newf W6 5 (4, 5) #[.int .u8 199, .int .u8 84, .int .u8 71, .int .u8 1] [199, 84, 71, 1] rfl (by simp) 4 (by simp)).below (Below.refl _ _).drew
  have harr : RB W6 (some ⟨w6.heap.size, 0, none⟩) 4 (b4 (crc body)) := by
    rw [← hW6]
    exact RB_new w6 _ _ (b4 (crc body)) (b4_bc _) (by rw [b4_length]; decide) 4 (by rw [b4_length]; decide)
  have harr7 := (harr.alloc (.cells #[.int .u8 199, .int .u8 84, .int .u8 71, .int .u8 1] 5 (4, 5))).below (Below.refl _ _).drew
  have hr7 := hr4.below B7
  generalize hW7 : (W6.alloc (.cells #[.int .u8 199, .int .u8 84, .int .u8 71, .int .u8 1] 5 (4, 5))).drew = W7 at *
  refine hK.out _ _ trivial (fun hHeld3 => ?_)
  clear hK K hHeld2
  try simp only [Act.put, List.setIfInBounds_toArray, List.set_cons_zero, List.set_cons_succ, List.getElem_toArray, List.getElem_cons_zero, List.getElem_cons_succ]
  refine wpAnyH_ready (rs := [3]) (by kernel_rfl) (by simp) ?_
  refine AllReadyH.cons (o := _) rfl (fun K hK => ?_) AllReadyH.nil
  simp only [List.getElem_toArray, List.getElem_cons_zero, List.getElem_cons_succ]
  rw [if_pos (by rfl)]
  have hne : body ≠ [] := by rw [← hfbx]; exact fb_ne k p
  obtain ⟨ad4, rfl⟩ : ∃ ad4, A4 = some ad4 := by
    cases A4 with
    | none => exact absurd (hr4.2.2.1 rfl) hne
    | some ad4 => exact ⟨ad4, rfl⟩
  have hpos : 1 ≤ body.length := List.length_pos_iff.2 hne
  have hbl : body.length ≤ 5000 := by have := Hfl.out; omega
  obtain ⟨i0, hi, hz0, hz1, hz2⟩ := info_parts info_u8
  refine wp_append_full W7 _ _ 25 rfl w.heap.size 5 i0 (.int .u8 0) 1 Try.underlying25 hi hz0 hz1 hz2 rfl ⟨W6.heap.size, 0, none⟩ 4 4 (bc [199, 84, 71, 1]) rfl rfl hmark.news ad4 body.length c4 (bc body) rfl (by simp) hr7.news (by omega) (by simp only [maxLen]; omega) (by omega) (by have := (below_chain BW (below_chain B4 B7)).size; omega) ?_
  intro v8 w8 hown8 hg8
  have B8 : Below W7.heap.size W7 w8 := ⟨hg8.os, hg8.tape, hg8.output, hg8.size, fun k hk => hg8.block k hk (by simp)⟩
  have e8 : 4 + body.length = ([199, 84, 71, 1] ++ body).length := by simp; omega
  rw [← bc_append, e8] at hown8
  refine hK.out _ _ trivial (fun hHeld4 => ?_)
  clear hK K hHeld3
  try simp only [Act.put, List.setIfInBounds_toArray, List.set_cons_zero, List.set_cons_succ, List.getElem_toArray, List.getElem_cons_zero, List.getElem_cons_succ]
  refine wpAnyH_ready (rs := [5]) (by kernel_rfl) (by simp) ?_
  refine AllReadyH.cons (o := _) rfl (fun K hK => ?_) AllReadyH.nil
  simp only [List.getElem_toArray, List.getElem_cons_zero, List.getElem_cons_succ]
  rw [if_pos (by rfl)]
  refine wp_app8 _ _ 25 rfl w.heap.size 5 Try.underlying25 info_u8 v8 _ rfl hown8 (some ⟨w6.heap.size, 0, none⟩) 4 (b4 (crc body)) rfl (harr7.below B8) (by rw [b4_length]; simp; omega) (by have := (below_chain BW (below_chain B4 B7)).size; have := B8.size; omega) ?_
  intro A9 c9 w9 hown9 hg9
  have hfin : ([199, 84, 71, 1] : List UInt8) ++ body ++ b4 (crc body) = fp k p := by rw [← hfbx, ← fp_eq]; rfl
  rw [hfin] at hown9 ⊢
  have B9 : Below w.heap.size w w9 := (below_chain BW (below_chain B4 (below_chain B7 B8))).grown hg9 (below_chain BW (below_chain B4 (below_chain B7 B8))).size (fun g hg => own_base hown8 g hg)
  refine hK.out _ _ trivial (fun hHeld5 => ?_)
  clear hK K hHeld4
  try simp only [Act.put, List.setIfInBounds_toArray, List.set_cons_zero, List.set_cons_succ, List.getElem_toArray, List.getElem_cons_zero, List.getElem_cons_succ]
  refine take_if 6 _ ?vv111 rfl (by kernel_rfl) (by kernel_rfl) (by kernel_rfl) (fun _ _ _ h => h) (by rfl) (by assumption) ?yy111 ?rr111
  case yy111 => (intro w' hSw; (try dsimp only at hSw); simp only [List.getElem_toArray, List.getElem_cons_zero, List.getElem_cons_succ]; go_simp; try with_reducible rfl)
  try simp only [Act.put, List.setIfInBounds_toArray, List.set_cons_zero, List.set_cons_succ, List.getElem_toArray, List.getElem_cons_zero, List.getElem_cons_succ]
  refine take_if 7 _ ?vv112 rfl (by kernel_rfl) (by kernel_rfl) (by kernel_rfl) (fun _ _ _ h => h) (by rfl) (by assumption) ?yy112 ?rr112
  case yy112 => (intro w' hSw; (try dsimp only at hSw); simp only [List.getElem_toArray, List.getElem_cons_zero, List.getElem_cons_succ]; go_simp; try with_reducible rfl)
  try simp only [Act.put, List.setIfInBounds_toArray, List.set_cons_zero, List.set_cons_succ, List.getElem_toArray, List.getElem_cons_zero, List.getElem_cons_succ]
  refine wpAnyH_done (by kernel_rfl) ?_ _
  clear hHeld5
  generalize hfpx : fp k p = out at *
  go_wp2
  exact bodyPost_ret (v := .tuple #[.slice A9 out.length c9, .int .i64 0]) (by simp [results, Try.results17, go_sem]) rfl ⟨_, rfl, by rw [hfpx]; exact hown9, B9⟩
end Go.Proofs.Ytepnillddlemaaa
