/- The functions of packages crc and of the reference of layer 4 return what plain Lean says of their bytes. Conditions stand in each theorem. -/
import Derived.Test.YtepnillddlemaaaProg
import Derived.Test.YtepnillddlemaaaRead
import Derived.Test.YtepnillddlemaaaMathBits
import Derived.Outline
set_option linter.unusedVariables false
set_option linter.unusedSimpArgs false
namespace Go.Proofs.Ytepnillddlemaaa
open Go.RowKit TG TG.Crc

theorem b4_bc (v : BitVec 32) : (#[.int .u8 (un v % 256), .int .u8 (un v / 256 % 256), .int .u8 (un v / 65536 % 256), .int .u8 (un v / 16777216)] : Array Value).toList = bc (b4 v) := by
  have := b4_cells v
  simp only [bc]
  rw [show (fun x : UInt8 => Value.int .u8 (x.toNat : Int)) = (Value.int .u8) ∘ (fun x => (x.toNat : Int)) from rfl, ← List.map_map, this]
  rfl

set_option maxRecDepth 100000 in
theorem row_calls (b : UInt8) (w : World) :
    Calls Try.prog 154 #[.int .u8 (b.toNat : Int)] w fun e w' => e = .returned (.int .u32 (un (row b))) ∧ w = w' := by
  go_enter Try.func154, Try.ntmps154
  go_wp2
  go_loop [3, 6] (fun t i => ∃ k : Nat, k ≤ 8 ∧ i = .int .i64 k ∧ t = .int .u32 (un (stn k (BitVec.ofNat 32 b.toNat)))) (fun _ i => 8 - (intOf i).toNat)
  case atStart => exact ⟨0, by omega, rfl, by have := b.toNat_lt; rw [stn_none, un_ofByte]; congr 1; omega⟩
  case round =>
    obtain ⟨k, hk, rfl, rfl⟩ := hrel
    by_cases h8 : k < 8
    · go_wp2
      go_round
      case rel => exact ⟨k + 1, by omega, by go_num, by rw [step_eq, ← stn_succ']⟩
      case measure => simp [intOf]; omega
    · obtain rfl : k = 8 := by omega
      go_wp2
      go_ret
      exact ⟨by simp [row_eq], rfl⟩

set_option maxRecDepth 100000 in
theorem more_calls (s : BitVec 32) (A : Option Addr) (c : Nat) (l : List UInt8) (w : World) (hr : RB w A c l) :
    Calls Try.prog 117 #[.int .u32 (un s), .slice A l.length c] w fun e w' => e = .returned (.int .u32 (un (more s l))) ∧ w = w' := by
  have hl := hr.2.1
  have hsg : IntKind.u32.signed = false := rfl
  go_enter Try.func117, Try.ntmps117
  go_wp2
  go_loop [5, 12] (fun t i => ∃ k : Nat, k ≤ l.length ∧ i = .int .i64 k ∧ t = .int .u32 (un (ups (~~~s) (l.take k)))) (fun _ i => l.length - (intOf i).toNat)
  case atStart => exact ⟨0, by omega, rfl, by rw [bits_not']; simp [ups_none]⟩
  case round =>
    obtain ⟨k, hk, rfl, rfl⟩ := hrel
    by_cases hlt : k < l.length
    · obtain ⟨ad, rfl, hc⟩ := hr.at k hlt
      have hx : bits .xor .u8 (un (ups (~~~s) (l.take k)) % 256) (l[k].toNat : Int) = ((UInt8.ofNat ((ups (~~~s) (l.take k)).toNat % 256) ^^^ l[k]).toNat : Int) := by rw [un_low, bits8_xor]
      have Hx := Lib.hid hx
      clear hx
      have hlo := un_lo (ups (~~~s) (l.take k))
      have hhi := un_hi (ups (~~~s) (l.take k))
      go_wp2_with fail
      rw [Hx.out]
      refine (row_calls _ _).mono ?_
      rintro e w' ⟨rfl, rfl⟩
      go_wp2
      go_round
      case rel => exact ⟨k + 1, by omega, by go_num, by rw [step_row, ups_take]⟩
      case measure => simp [intOf]; omega
    · obtain rfl : k = l.length := by omega
      go_wp2
      go_ret
      exact ⟨by simp [bits_not', more_eq], rfl⟩
set_option maxRecDepth 100000 in
theorem sum_calls (F : Nat → Prop) (A : Option Addr) (c : Nat) (ls : List (List UInt8)) (w : World) (hr : (Rd.slice Rd.u8 (by decide)).S F w A c ls) :
    Calls Try.prog 70 #[.slice A ls.length c] w fun e w' => e = .returned (.int .u32 (un (crc ls.flatten))) ∧ w = w' := by
  have hl := hr.2.1
  rw [← sums_eq]
  go_enter Try.func70, Try.ntmps70
  go_wp2
  go_loop [3, 8] (fun t i => ∃ k : Nat, k ≤ ls.length ∧ i = .int .i64 k ∧ t = .int .u32 (un (sums (ls.take k)))) (fun _ i => ls.length - (intOf i).toNat)
  case atStart => exact ⟨0, by omega, rfl, by simp [sums_none, un_zero]⟩
  case round =>
    obtain ⟨k, hk, rfl, rfl⟩ := hrel
    by_cases hlt : k < ls.length
    · obtain ⟨ad, rfl, _, cs, ⟨Aj, cj, rfl, hS⟩, hc⟩ := Rd.S_at hr k hlt
      have hc := hc 0 _ rfl
      rw [show (Rd.slice Rd.u8 (by decide)).sz = 1 from rfl, Nat.mul_one, Nat.add_zero] at hc
      go_wp2_with fail
      refine (more_calls _ _ _ _ _ (Rd.S_RB hS)).mono ?_
      rintro e w' ⟨rfl, rfl⟩
      go_wp2
      go_round
      case rel => exact ⟨k + 1, by omega, by go_num, by rw [sums_take]⟩
      case measure => simp [intOf]; omega
    · obtain rfl : k = ls.length := by omega
      go_wp2
      go_ret
      exact ⟨by simp, rfl⟩

theorem sum_one_calls (g e c : Nat) (fr : Nat × Nat) (A : Option Addr) (l : List UInt8) (w : World) (hg : w.heap[g]? = some (.cells #[.slice A l.length c] e fr)) (hl : RB w A c l) :
    Calls Try.prog 70 #[.slice (some ⟨g, 0, none⟩) 1 1] w fun e w' => e = .returned (.int .u32 (un (crc l))) ∧ w = w' := by
  have h := sum_calls (fun _ => True) _ 1 [l] w (Rd.S_one hg (Rd.u8_of_RB hl (fun _ _ => trivial)))
  rwa [List.flatten_singleton] at h
theorem sum_none_calls (w : World) : Calls Try.prog 70 #[.slice none 0 0] w fun e w' => e = .returned (.int .u32 0) ∧ w = w' := by
  have h := sum_calls (fun _ => True) none 0 [] w (Rd.S_nil _ _ _ _)
  rwa [List.flatten_nil, show crc [] = 0#32 from by rw [← more_allOnes, more_nil], un_zero] at h

set_option maxRecDepth 100000 in
theorem bytes_calls (s : BitVec 32) (w : World) :
    Calls Try.prog 69 #[.int .u32 (un s)] w fun e w' => e = .returned (.agg #[.int .u8 (un s % 256), .int .u8 (un s / 256 % 256), .int .u8 (un s / 65536 % 256), .int .u8 (un s / 16777216)]) ∧ Below w.heap.size w w' := by
  have h0 := un_lo s
  have h1 := un_hi s
  go_enter Try.func69, Try.ntmps69
  go_wp2
  exact bodyPost_ret (v := .agg #[.int .u8 (un s % 256), .int .u8 (un s / 256 % 256), .int .u8 (un s / 65536 % 256), .int .u8 (un s / 16777216)]) (by simp [results, Try.results69, go_sem]) rfl ⟨rfl, (Below.refl _ _).alloc (Nat.le_refl _) _⟩

set_option maxRecDepth 1000000 in
theorem refxor_calls (a b : BitVec 32) (w : World) :
    Calls Try.prog 163 #[.int .u32 (un a), .int .u32 (un b)] w fun e w' => e = .returned (.int .u32 (un (a ^^^ b))) ∧ w = w' := by
  go_enter Try.func163, Try.ntmps163
  go_wp2
  go_loop [0, 1, 5, 6, 7] (fun p q t u i => ∃ k : Nat, k ≤ 32 ∧ i = .int .i64 k ∧ p = .int .u32 (un (a >>> k)) ∧ q = .int .u32 (un (b >>> k)) ∧ u = .int .u32 (pw k) ∧ t = .int .u32 (xl a b k)) (fun _ _ _ _ i => 32 - (intOf i).toNat)
  case atStart => exact ⟨0, by omega, rfl, by simp, by simp, by rw [pw_zero], by rw [xl_none]⟩
  case round =>
    obtain ⟨k, hk, rfl, rfl, rfl, rfl, rfl⟩ := hrel
    have ha0 := un_lo (a >>> k)
    have ha1 := un_hi (a >>> k)
    have hb0 := un_lo (b >>> k)
    have hb1 := un_hi (b >>> k)
    have hp0 := pw_lo k
    have hp1 := pw_hi k
    by_cases h32 : k < 32
    · have hx0 := xl_lo a b k
      have hx1 := xl_hi a b k h32
      go_wp2
      · have hb : un (a >>> k) % 2 ≠ un (b >>> k) % 2 := by simpa using ‹(un (a >>> k) % 2 != un (b >>> k) % 2) = true›
        go_round
        case rel => exact ⟨k + 1, by omega, by go_num, by rw [un_next], by rw [un_next], by rw [pw_succ k h32], by rw [xl_yes a b k h32 hb]⟩
        case measure => simp [intOf]; omega
      · have hb : un (a >>> k) % 2 = un (b >>> k) % 2 := by simpa using ‹(un (a >>> k) % 2 != un (b >>> k) % 2) = false›
        go_round
        case rel => exact ⟨k + 1, by omega, by go_num, by rw [un_next], by rw [un_next], by rw [pw_succ k h32], by rw [xl_no a b k hb]⟩
        case measure => simp [intOf]; omega
    · obtain rfl : k = 32 := by omega
      go_wp2
      go_ret
      exact ⟨by simp [xl_all], rfl⟩

set_option maxRecDepth 100000 in
theorem refshift_calls (v : BitVec 32) (w : World) :
    Calls Try.prog 162 #[.int .u32 (un v)] w fun e w' => e = .returned (.int .u32 (un (stn 8 v))) ∧ w = w' := by
  go_enter Try.func162, Try.ntmps162
  go_wp2
  go_loop [0, 3] (fun t i => ∃ k : Nat, k ≤ 8 ∧ i = .int .i64 k ∧ t = .int .u32 (un (stn k v))) (fun _ i => 8 - (intOf i).toNat)
  case atStart => exact ⟨0, by omega, rfl, by rw [stn_none]⟩
  case round =>
    obtain ⟨k, hk, rfl, rfl⟩ := hrel
    by_cases h8 : k < 8
    · have h0 := un_lo (stn k v)
      have h1 := un_hi (stn k v)
      by_cases hodd : un (stn k v) % 2 = 1
      · have ho : (un (stn k v) % 2 == 1) = true := beq_iff_eq.2 hodd
        have Ho := Lib.hid hodd
        clear hodd
        go_wp2_with fail
        rw [un_half, un_poly]
        refine (refxor_calls _ _ _).mono ?_
        rintro e w' ⟨rfl, rfl⟩
        rw [st_odd _ Ho.out, ← stn_succ']
        go_wp2
        go_round
        case rel => exact ⟨k + 1, by omega, by go_num, rfl⟩
        case measure => simp [intOf]; omega
      · have ho : (un (stn k v) % 2 == 1) = false := beq_eq_false_iff_ne.2 hodd
        have Ho := Lib.hid hodd
        clear hodd
        go_wp2
        go_round
        case rel => exact ⟨k + 1, by omega, by go_num, by rw [st_even' _ Ho.out, ← stn_succ']⟩
        case measure => simp [intOf]; omega
    · obtain rfl : k = 8 := by omega
      go_wp2
      go_ret
      exact ⟨by simp, rfl⟩

set_option maxRecDepth 100000 in
theorem refsum_calls (l : List UInt8) (w : World) (hl : l.length ≤ 140737488355328) :
    Calls Try.prog 126 #[.string (mk8 l)] w fun e w' => e = .returned (.int .u32 (un (crc l))) ∧ w = w' := by
  go_enter Try.func126, Try.ntmps126
  go_wp2
  go_loop [3, 4] (fun t i => ∃ k : Nat, k ≤ l.length ∧ i = .int .i64 k ∧ t = .int .u32 (un (ups (4294967295#32) (l.take k)))) (fun _ i => l.length - (intOf i).toNat)
  case atStart => exact ⟨0, by omega, rfl, by simp [ups_none, ← un_ones]⟩
  case round =>
    obtain ⟨k, hk, rfl, rfl⟩ := hrel
    by_cases hlt : k < l.length
    · have h0 := un_lo (ups (4294967295#32) (l.take k))
      have h1 := un_hi (ups (4294967295#32) (l.take k))
      have hb := byte_hi l[k]
      have hb0 := byte_lo l[k]
      go_wp2_with fail
      rw [← un_ofByte]
      refine (refxor_calls _ _ _).mono ?_
      rintro e w' ⟨rfl, rfl⟩
      go_wp2_with fail
      refine (refshift_calls _ _).mono ?_
      rintro e w' ⟨rfl, rfl⟩
      rw [up_eq]
      go_wp2
      go_round
      case rel => exact ⟨k + 1, by omega, by go_num, by rw [ups_take _ _ _ hlt]⟩
      case measure => simp [intOf]; omega
    · obtain rfl : k = l.length := by omega
      have h0 := un_lo (ups (4294967295#32) l)
      have h1 := un_hi (ups (4294967295#32) l)
      go_wp2
      go_ret
      exact ⟨by simp [un_sub, crc_eq], rfl⟩

set_option maxRecDepth 100000 in
theorem refbytes_calls (v : BitVec 32) (w : World) :
    Calls Try.prog 125 #[.int .u32 (un v)] w fun e w' => e = .returned (.string (mk8 (b4 v))) ∧ Below w.heap.size w w' := by
  have h0 := un_lo v
  have h1 := un_hi v
  have hcv := conv_new (P := Try.prog) w #[.int .u8 (un v % 256), .int .u8 (un v / 256 % 256), .int .u8 (un v / 65536 % 256), .int .u8 (un v / 16777216)] (b4 v) 4 4 25 9 5 Try.underlying25 Try.underlying5 Try.underlying9 (by have := b4_cells v; simp only [bc]; rw [show (fun x : UInt8 => Value.int .u8 (x.toNat : Int)) = (Value.int .u8) ∘ (fun x => (x.toNat : Int)) from rfl, ← List.map_map, this]; rfl) rfl (by rw [b4_length]; decide)
  go_enter Try.func125, Try.ntmps125
  go_wp2
  go_ret
  exact ⟨rfl, (Below.refl _ _).alloc (Nat.le_refl _) _⟩

end Go.Proofs.Ytepnillddlemaaa
