/- More functions of package wire and of the reference of layer 1 return what plain Lean says of their bytes. Conditions stand in each theorem. -/
import Derived.Test.YtepnillddlemaaaWire
import Derived.Deep.RegionHeld3
import Derived.Laws.Bits64b
import Derived.Deep.QuietTactic
set_option linter.unusedVariables false
set_option linter.unusedSimpArgs false
namespace Go.Proofs.Ytepnillddlemaaa
open Go.RowKit Go.Shelf TG
attribute [local go_sem] Oper.semAt_some

theorem conv_one {P : Program} {w : World} {A : Option Addr} {c : Nat} {x : UInt8} (src dst e : TypeId) (hs : P.underlying src = some (.slice e)) (he : P.underlying e = some (.int .u8)) (hd : P.underlying dst = some .string) (h : RB w A c [x]) :
    (convert src dst (.slice A 1 c)).run P w = .ok (.string (mk8 [x])) w := conv_str src dst e hs he hd h
theorem and127 : ∀ a : Fin 256, bits .and .u8 (a.val : Int) 127 = ((a.val % 128 : Nat) : Int) := by decide +kernel
theorem wrap_u64 (n : Nat) (h : n < 18446744073709551616) : IntKind.u64.wrap (n : Int) = n := by
  simp [IntKind.wrap, IntKind.bits, IntKind.signed]
  omega
theorem orl (l : List UInt8) (c : UInt8) (k : Nat) (hk : l.length = k) (h : k < 9 ∨ k = 9 ∧ c.toNat ≤ 1) : bits .or .u64 (low l : Int) (IntKind.u64.wrap (IntKind.u64.wrap (bits .and .u8 (c.toNat : Int) 127) * 2 ^ (7 * k))) = ((low (l ++ [c]) : Nat) : Int) := by
  have hc := c.toNat_lt
  have ha := and127 ⟨c.toNat, hc⟩
  simp only at ha
  have hp : (128 : Nat) ^ k = 2 ^ (7 * k) := by rw [show (128 : Nat) = 2 ^ 7 from rfl, ← Nat.pow_mul]
  have hlow := low_lt l
  rw [hk, hp] at hlow
  have hq : 2 ^ (7 * k) * 2 ^ (63 - 7 * k) = 2 ^ 63 := by rw [← Nat.pow_add]; congr 1; omega
  have hpos : 1 ≤ 2 ^ (63 - 7 * k) := Nat.one_le_two_pow
  have hm : c.toNat % 128 * 2 ^ (7 * k) < 18446744073709551616 := by
    rcases h with h | ⟨h, h1⟩
    · have h2 : 2 ^ (7 * k) * 2 ^ 7 ≤ 2 ^ 63 := by rw [← Nat.pow_add]; exact Nat.pow_le_pow_right (by decide) (by omega)
      have h3 : c.toNat % 128 * 2 ^ (7 * k) ≤ 127 * 2 ^ (7 * k) := Nat.mul_le_mul_right _ (by omega)
      omega
    · subst h
      have : c.toNat % 128 * 2 ^ (7 * 9) ≤ 1 * 2 ^ (7 * 9) := Nat.mul_le_mul_right _ (by omega)
      omega
  have hl64 : low l < 18446744073709551616 := by
    have : 2 ^ (7 * k) ≤ 2 ^ 63 := Nat.pow_le_pow_right (by decide) (by omega)
    omega
  rw [ha, wrap_u64 _ (by omega), show (((c.toNat % 128 : Nat) : Int) * 2 ^ (7 * k)) = ((c.toNat % 128 * 2 ^ (7 * k) : Nat) : Int) from by push_cast; rfl, wrap_u64 _ hm, bits_or_u64_nat _ _ hl64 hm, low_snoc, hk, hp, Nat.or_comm, Nat.mul_comm, ← Nat.two_pow_add_eq_or_of_lt hlow, Nat.add_comm]

set_option maxRecDepth 100000 in
set_option maxHeartbeats 1000000 in
theorem get_calls (A : Option Addr) (c : Nat) (l : List UInt8) (w : World) (hr : RB w A c l) :
    Calls Try.prog 138 #[.slice A l.length c] w fun e w' => e = .returned (.tuple #[.int .u64 (wgN l), .int .i64 (wgS l), .int .i64 (wgE l)]) ∧ w = w' := by
  have hl := hr.2.1
  go_enter Try.func138, Try.ntmps138
  go_wp2
  go_loop [5, 10] (fun n i => ∃ k : Nat, k ≤ l.length ∧ k ≤ 9 ∧ i = .int .i64 k ∧ n = .int .u64 (low (l.take k)) ∧ hi (l.take k)) (fun _ i => l.length - (intOf i).toNat)
  case atStart => exact ⟨0, by omega, by omega, rfl, by simp [low], by simp [hi]⟩
  case round =>
    obtain ⟨k, hk, hk9, rfl, rfl, hhi⟩ := hrel
    by_cases hlt : k < l.length
    · obtain ⟨ad, rfl, hc⟩ := hr.at k hlt
      have he := wg_ends l k hlt hk9 hhi
      have horl := orl (l.take k) l[k] k (by simp; omega)
      rw [List.take_append_getElem hlt] at horl
      have hsn : l.take (k + 1) = l.take k ++ [l[k]] := List.take_succ_eq_append_getElem hlt
      have Hhi := Lib.hid hhi
      have Horl := Lib.hid horl
      have Hsn := Lib.hid hsn
      clear hhi horl hsn
      have hb := byte_hi l[k]
      have hb0 := byte_lo l[k]
      by_cases h1 : k = 9 ∧ 1 < l[k].toNat
      · obtain ⟨h1, h2⟩ := h1
        have E := Lib.hid (he.1 h1 h2)
        have h9 : ((k : Int) == 9) = true := by simp; omega
        have H1 := Lib.hid h1
        clear he h1
        go_wp2
        all_goals exact bodyPost_ret (v := .tuple #[.int .u64 (wgN l), .int .i64 (wgS l), .int .i64 (wgE l)]) (by simp [results, Try.results138, go_sem, E.out.1, E.out.2.1, E.out.2.2] <;> omega) rfl ⟨rfl, rfl⟩
      · have he2 := he.2 h1
        clear he
        by_cases h2 : 128 ≤ l[k].toNat
        · have h3 : ¬ k = 9 := by omega
          have Horl := Lib.hid (Horl.out (.inl (by omega)))
          clear he2
          go_wp2
          go_round
          case rel => exact ⟨k + 1, by omega, by omega, by go_num, by rw [Horl.out], by rw [Hsn.out]; unfold hi; intro d hd; rcases List.mem_append.1 hd with h | h; (have := Hhi.out; unfold hi at this; exact this d h); (simp at h; subst h; exact h2)⟩
          case measure => simp [intOf]; omega
        · have he := he2 (by omega)
          clear he2
          have horl := Horl.out (by omega)
          clear Horl
          by_cases h3 : l[k].toNat = 0 ∧ 0 < k
          · obtain ⟨h3, h4⟩ := h3
            have E := Lib.hid (he.1 h3 h4)
            clear he horl
            go_wp2
            all_goals exact bodyPost_ret (v := .tuple #[.int .u64 (wgN l), .int .i64 (wgS l), .int .i64 (wgE l)]) (by simp [results, Try.results138, go_sem, E.out.1, E.out.2.1, E.out.2.2] <;> omega) rfl ⟨rfl, rfl⟩
          · have E := Lib.hid (he.2 h3)
            by_cases h4 : l[k].toNat = 0
            · rw [h4] at horl
              have Horl : RowKit.Hid (bits .or .u64 (low (l.take k) : Int) (IntKind.u64.wrap (IntKind.u64.wrap (bits .and .u8 0 127) * 2 ^ (7 * k))) = ((low (l.take (k + 1)) : Nat) : Int)) := Lib.hid horl
              clear he horl
              go_wp2
              all_goals (rw [Horl.out]; exact bodyPost_ret (v := .tuple #[.int .u64 (wgN l), .int .i64 (wgS l), .int .i64 (wgE l)]) (by simp [results, Try.results138, go_sem, E.out.1, E.out.2.1, E.out.2.2] <;> omega) rfl ⟨rfl, rfl⟩)
            · have Horl := Lib.hid horl
              clear he horl
              go_wp2
              all_goals (rw [Horl.out]; exact bodyPost_ret (v := .tuple #[.int .u64 (wgN l), .int .i64 (wgS l), .int .i64 (wgE l)]) (by simp [results, Try.results138, go_sem, E.out.1, E.out.2.1, E.out.2.2] <;> omega) rfl ⟨rfl, rfl⟩)
    · have hs := wg_short l (by rw [List.take_of_length_le (by omega)] at hhi; exact hhi) (by omega)
      have E : RowKit.Hid (wgN l = 0 ∧ wgS l = 0 ∧ wgE l = 2) := Lib.hid (by unfold wgN wgS wgE; rw [hs]; exact ⟨rfl, rfl, rfl⟩)
      obtain rfl : k = l.length := by omega
      clear hhi
      go_wp2
      exact bodyPost_ret (v := .tuple #[.int .u64 (wgN l), .int .i64 (wgS l), .int .i64 (wgE l)]) (by simp [results, Try.results138, go_sem, E.out.1, E.out.2.1, E.out.2.2] <;> omega) rfl ⟨rfl, rfl⟩

set_option maxRecDepth 100000 in
set_option maxHeartbeats 1000000 in
theorem refput_calls : ∀ (k n : Nat) (w : World), n < 128 ^ (k + 1) → n < 2 ^ 64 → 
    Calls Try.prog 93 #[.int .u64 n] w fun e w' => e = .returned (.string (mk8 (nb n))) ∧ Below w.heap.size w w' := by
  intro k
  induction k with
  | zero =>
    intro n w hk h64
    have hs : n < 128 := by simpa using hk
    have hcv := conv_new (P := Try.prog) w #[.int .u8 n] [UInt8.ofNat n] 1 1 25 9 5 Try.underlying25 Try.underlying5 Try.underlying9 (by simp [bc]; omega) rfl (by simp)
    rw [nb_small hs]
    clear hk h64
    go_enter Try.func93, Try.ntmps93
    go_wp2
    go_ret
    exact ⟨rfl, (Below.refl _ _).alloc (Nat.le_refl _) _⟩
  | succ k ih =>
    intro n w hk h64
    by_cases hs : n < 128
    · have hcv := conv_new (P := Try.prog) w #[.int .u8 n] [UInt8.ofNat n] 1 1 25 9 5 Try.underlying25 Try.underlying5 Try.underlying9 (by simp [bc]; omega) rfl (by simp)
      rw [nb_small hs]
      clear hk h64
      go_enter Try.func93, Try.ntmps93
      go_wp2
      go_ret
      exact ⟨rfl, (Below.refl _ _).alloc (Nat.le_refl _) _⟩
    · have hbc : (#[.int .u8 (128 + (n : Int) % 128)] : Array Value).toList = bc [UInt8.ofNat (n % 128 + 128)] := by simp [bc]; omega
      have hcv := fun W => conv_new (P := Try.prog) W #[.int .u8 (128 + (n : Int) % 128)] [UInt8.ofNat (n % 128 + 128)] 1 1 25 9 5 Try.underlying25 Try.underlying5 Try.underlying9 hbc rfl (by simp)
      have hk1 : n / 128 < 128 ^ (k + 1) := by rw [Nat.div_lt_iff_lt_mul (by decide)]; rwa [Nat.pow_succ] at hk
      have hk2 : n / 128 < 2 ^ 64 := by omega
      have hlen := nb_len hk2
      have Hk1 := Lib.hid hk1
      have Hk2 := Lib.hid hk2
      rw [nb_great hs]
      have hcw := fun W => conv_one (P := Try.prog) 25 9 5 Try.underlying25 Try.underlying5 Try.underlying9 ((RB_new W 5 #[.int .u8 (128 + (n : Int) % 128)] [UInt8.ofNat (n % 128 + 128)] hbc (by simp) 1 (by simp)).below (Below.refl _ _).drew)
      have Hbc := Lib.hid hbc
      clear hbc
      have hcat := mk8_add [UInt8.ofNat (n % 128 + 128)] (nb (n / 128))
      rw [List.singleton_append] at hcat
      have ih2 : ∀ w, Calls Try.prog 93 #[.int .u64 ((n : Int) / 128)] w fun e w' => e = .returned (.string (mk8 (nb (n / 128)))) ∧ Below w.heap.size w w' := fun w => ih (n / 128) w hk1 hk2
      have q1 : (n : Int).tmod 128 = (n : Int) % 128 := Int.tmod_eq_emod_of_nonneg (by omega)
      have q2 : IntKind.u64.wrap (128 + (n : Int) % 128) = 128 + (n : Int) % 128 := by have := wrap_u64 (128 + n % 128) (by omega); simpa using this
      have q3 : IntKind.u8.wrap (128 + (n : Int) % 128) = 128 + (n : Int) % 128 := by simp [IntKind.wrap, IntKind.bits, IntKind.signed]; omega
      have q4 : IntKind.u64.wrap ((n : Int) / 128) = (n : Int) / 128 := by have := wrap_u64 (n / 128) (by omega); simpa using this
      clear hk h64 hk1 hk2 ih
      generalize UInt8.ofNat (n % 128 + 128) = x at *
      go_enter Try.func93, Try.ntmps93
      go_wp2_with fail
      go_region_with (first
        | (go_at_call 93; (with_reducible refine (ih2 _).mono ?_); rintro e w3 ⟨rfl, hB3⟩; first | (have hcx := conv_one (P := Try.prog) 25 9 5 Try.underlying25 Try.underlying5 Try.underlying9 ((RB_new _ _ _ _ Hbc.out (by simp) 1 (by simp)).below hB3)) | (have hcx := conv_one (P := Try.prog) 25 9 5 Try.underlying25 Try.underlying5 Try.underlying9 (((RB_new _ _ _ _ Hbc.out (by simp) 1 (by simp)).below (Below.refl _ _).drew).below hB3)) | skip))
      all_goals
        go_wp2
        go_ret
        exact ⟨rfl, by first | exact below_chain (below_new (Below.refl _ _) _).drew hB3 | exact below_new (below_chain (Below.refl _ _).drew hB3) _ | exact (below_new (below_chain (Below.refl _ _).drew hB3) _).drew | exact (below_chain (below_new (Below.refl _ _) _).drew hB3).drew⟩

theorem refput (n : Nat) (w : World) (h : n < 2 ^ 64) : Calls Try.prog 93 #[.int .u64 n] w fun e w' => e = .returned (.string (mk8 (nb n))) ∧ Below w.heap.size w w' :=
  refput_calls 9 n w (Nat.lt_of_lt_of_le h (by decide)) h
end Go.Proofs.Ytepnillddlemaaa
