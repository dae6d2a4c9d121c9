/- The law CrcSums, called with any two parts and any sum, returns true. No condition. -/
import Derived.Test.YteolgkjokhmmfaaCrc
import Derived.Deep.RegionHeld3
import Derived.Deep.QuietTactic
import Derived.BigQuiet
set_option linter.unusedVariables false
set_option linter.unusedSimpArgs false
namespace Go.Proofs.Yteolgkjokhmmfaa
open Go.RowKit TG TG.Crc

theorem word_of (a : Int) (h : (Lit.int .u32 a).wf = true) : ∃ b : BitVec 32, a = un b := by
  have h1 : IntKind.u32.min = 0 := rfl
  have h2 : IntKind.u32.max = 4294967295 := rfl
  simp [Lit.wf, h1, h2] at h
  exact ⟨BitVec.ofNat 32 a.toNat, by unfold un; simp; omega⟩

set_option maxRecDepth 100000 in
set_option maxHeartbeats 1000000 in
theorem sums_main (A : Option Addr) (ca : Nat) (a : List UInt8) (B : Option Addr) (cb : Nat) (b : List UInt8) (w : World) (ha : RB w A ca a) (hb : RB w B cb b) (v : BitVec 32) (ha1 : a.length ≤ 1000) (hb1 : b.length ≤ 1000) :
    Calls Try.prog 5 #[.slice A a.length ca, .slice B b.length cb, .int .u32 (un v)] w fun e w' => e = .returned (.bool true) ∧ Below w.heap.size w w' := by
  go_enter Try.func5, Try.ntmps5
  go_wp2_with fail
  refine (bytes_calls _ _).mono ?_
  rintro e w1 ⟨rfl, hB1⟩
  have hnew := World.alloc_heap_new (w1.alloc (.cells #[.int .u8 (un v % 256), .int .u8 (un v / 256 % 256), .int .u8 (un v / 65536 % 256), .int .u8 (un v / 16777216)] 32)) (.cells #[.slice A a.length ca, .slice B b.length cb] 27)
  rw [World.size_alloc] at hnew
  have ha2 := ((ha.below hB1).alloc (.cells #[.int .u8 (un v % 256), .int .u8 (un v / 256 % 256), .int .u8 (un v / 65536 % 256), .int .u8 (un v / 16777216)] 32)).alloc (.cells #[.slice A a.length ca, .slice B b.length cb] 27)
  have hb2 := ((hb.below hB1).alloc (.cells #[.int .u8 (un v % 256), .int .u8 (un v / 256 % 256), .int .u8 (un v / 65536 % 256), .int .u8 (un v / 16777216)] 32)).alloc (.cells #[.slice A a.length ca, .slice B b.length cb] 27)
  have hv2 := (RB_new w1 32 #[.int .u8 (un v % 256), .int .u8 (un v / 256 % 256), .int .u8 (un v / 65536 % 256), .int .u8 (un v / 16777216)] (b4 v) (b4_bc v) (by rw [b4_length]; decide) 4 (Nat.le_refl _)).alloc (.cells #[.slice A a.length ca, .slice B b.length cb] 27)
  have hB2 : Below w.heap.size w ((w1.alloc (.cells #[.int .u8 (un v % 256), .int .u8 (un v / 256 % 256), .int .u8 (un v / 65536 % 256), .int .u8 (un v / 16777216)] 32)).alloc (.cells #[.slice A a.length ca, .slice B b.length cb] 27)) := (hB1.alloc hB1.size _).alloc (by have := hB1.size; simp; omega) _
  go_wp2_with fail
  obtain ⟨W, hW⟩ : ∃ W, (w1.alloc (.cells #[.int .u8 (un v % 256), .int .u8 (un v / 256 % 256), .int .u8 (un v / 65536 % 256), .int .u8 (un v / 16777216)] 32)).alloc (.cells #[.slice A a.length ca, .slice B b.length cb] 27) = W := ⟨_, rfl⟩
  rw [hW] at hnew ha2 hb2 hv2 hB2 ⊢
  clear hW
  refine (sum_calls (fun _ => True) _ 2 [a, b] _ (Rd.S_two hnew (Rd.u8_of_RB ha2 (fun _ _ => trivial)) (Rd.u8_of_RB hb2 (fun _ _ => trivial)))).mono ?_
  rintro e w2 ⟨rfl, rfl⟩
  rw [show [a, b].flatten = a ++ b from by simp]
  clear hnew
  generalize w1.heap.size = gv at *
  have keep : ∀ X, Below W.heap.size W X → (convert 27 9 (.slice A a.length ca)).run Try.prog X = .ok (.string (mk8 a)) X ∧ (convert 27 9 (.slice B b.length cb)).run Try.prog X = .ok (.string (mk8 b)) X ∧ (convert 27 9 (.slice (some ⟨gv, 0, none⟩) 4 4)).run Try.prog X = .ok (.string (mk8 (b4 v))) X := fun X hX =>
    ⟨conv_str _ _ _ Try.underlying27 Try.underlying5 Try.underlying9 (ha2.below hX), conv_str _ _ _ Try.underlying27 Try.underlying5 Try.underlying9 (hb2.below hX), conv_str (l := b4 v) _ _ _ Try.underlying27 Try.underlying5 Try.underlying9 (hv2.below hX)⟩
  have Keep := Lib.hid keep
  have hadd := mk8_add a b
  have hmore := more_crc a b
  have hcat : ¬ 9223372036854775807 < a.length + b.length := by omega
  clear keep
  go_wp2_with fail
  go_region_held3 (fun X => Below W.heap.size W X ∧ (convert 27 9 (.slice A a.length ca)).run Try.prog X = .ok (.string (mk8 a)) X ∧ (convert 27 9 (.slice B b.length cb)).run Try.prog X = .ok (.string (mk8 b)) X ∧ (convert 27 9 (.slice (some ⟨gv, 0, none⟩) 4 4)).run Try.prog X = .ok (.string (mk8 (b4 v))) X)
    (first
      | (refine (fun hb' => ⟨hb', Keep.out _ hb'⟩ : Below W.heap.size W _ → _) ?_; first | assumption | exact And.left (by assumption) | exact (Below.refl _ _).drew | exact below_chain (by first | assumption | exact And.left (by assumption) | exact (Below.refl _ _).drew) hB3 | exact below_new (by first | assumption | exact And.left (by assumption) | exact (Below.refl _ _).drew) _))
    (first
      | (go_at_call 25; (with_reducible refine (fixed4_calls _).mono ?_); rintro e w3 ⟨rfl, hB3⟩)
      | (go_at_call 30; (with_reducible refine (refsum_calls (a ++ b) _ (by simp; omega)).mono ?_); rintro e w3 ⟨rfl, rfl⟩)
      | (go_at_call 28; (with_reducible refine (sum_one_calls _ _ _ _ _ a _ (World.alloc_heap_new _ _) (ha2.below (And.left (by assumption)))).mono ?_); rintro e w3 ⟨rfl, rfl⟩)
      | (go_at_call 28; (with_reducible refine (sum_none_calls _).mono ?_); rintro e w3 ⟨rfl, rfl⟩)
      | (go_at_call 32; (with_reducible refine (more_calls (crc a) _ _ b _ (hb2.below (And.left (by assumption)))).mono ?_); rintro e w3 ⟨rfl, rfl⟩)
      | (go_at_call 31; (with_reducible refine (refbytes_calls v _).mono ?_); rintro e w3 ⟨rfl, hB3⟩))
  all_goals
    rename_i hq
    have hq2 := below_chain hB2 hq.1
    clear hq
    go_wp2
    go_ret
    exact ⟨rfl, hq2⟩

set_option maxRecDepth 100000 in
set_option maxHeartbeats 1000000 in
theorem walk_CrcSums (w : World) (A : Option Addr) (ca : Nat) (a : List UInt8) (ha : RB w A ca a) (B : Option Addr) (cb : Nat) (b : List UInt8) (hb : RB w B cb b) (v : Int) (hv : (Lit.int .u32 v).wf = true) :
    Calls Try.prog 5 #[.slice A a.length ca, .slice B b.length cb, .int .u32 v] w fun e w' => e = .returned (.bool true) ∧ Below w.heap.size w w' := by
  obtain ⟨V, rfl⟩ := word_of v hv
  have hla := ha.2.1
  have hlb := hb.2.1
  by_cases h1 : 1000 < a.length
  · go_enter Try.func5, Try.ntmps5
    go_wp2_with fail
    refine (fixed4_calls _).mono ?_
    rintro e w1 ⟨rfl, hB⟩
    go_wp2
    go_ret
    exact ⟨rfl, hB⟩
  · by_cases h2 : 1000 < b.length
    · go_enter Try.func5, Try.ntmps5
      go_wp2_with fail
      refine (fixed4_calls _).mono ?_
      rintro e w1 ⟨rfl, hB⟩
      go_wp2
      go_ret
      exact ⟨rfl, hB⟩
    · exact sums_main A ca a B cb b w ha hb V (by omega) (by omega)
end Go.Proofs.Yteolgkjokhmmfaa
