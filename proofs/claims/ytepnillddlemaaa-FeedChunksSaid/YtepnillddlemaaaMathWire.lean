/- A number's bytes and how they are read, in plain Lean: no program here. Conditions stand in each theorem. -/
set_option linter.unusedVariables false
set_option linter.unusedSimpArgs false
namespace TG

/-- a number's bytes -/
def nb (n : Nat) : List UInt8 := if h : n < 128 then [UInt8.ofNat n] else UInt8.ofNat (n % 128 + 128) :: nb (n / 128)
termination_by n
decreasing_by omega
theorem nb_small {n : Nat} (h : n < 128) : nb n = [UInt8.ofNat n] := by rw [nb, dif_pos h]
theorem nb_great {n : Nat} (h : ¬ n < 128) : nb n = UInt8.ofNat (n % 128 + 128) :: nb (n / 128) := by rw [nb, dif_neg h]
theorem nb_pos (n : Nat) : 1 ≤ (nb n).length := by
  by_cases h : n < 128
  · rw [nb_small h]; simp
  · rw [nb_great h]; simp
theorem nb_most : ∀ (k : Nat) (n : Nat), n < 128 ^ (k + 1) → (nb n).length ≤ k + 1
  | 0, n, h => by rw [nb_small (by simpa using h)]; simp
  | k + 1, n, h => by
    by_cases h1 : n < 128
    · rw [nb_small h1]; simp
    · rw [nb_great h1, List.length_cons]
      have := nb_most k (n / 128) (by rw [Nat.div_lt_iff_lt_mul (by decide)]; rwa [Nat.pow_succ] at h)
      omega
theorem nb_len {n : Nat} (h : n < 2 ^ 64) : (nb n).length ≤ 10 := nb_most 9 n (Nat.lt_trans h (by decide))

/-- what bytes are read as, from the place i of a number on: the number, how many bytes, the error -/
def wg : Nat → List UInt8 → Nat × Nat × Nat
  | _, [] => (0, 0, 2)
  | i, c :: r =>
    if i = 9 ∧ 1 < c.toNat then (0, 0, 3)
    else if 128 ≤ c.toNat then (if (wg (i + 1) r).2.2 = 0 then (c.toNat % 128 + 128 * (wg (i + 1) r).1, (wg (i + 1) r).2.1 + 1, 0) else (0, 0, (wg (i + 1) r).2.2))
    else if c.toNat = 0 ∧ 0 < i then (0, 0, 4)
    else (c.toNat, 1, 0)
def low : List UInt8 → Nat
  | [] => 0
  | c :: r => c.toNat % 128 + 128 * low r
theorem low_snoc (l : List UInt8) (c : UInt8) : low (l ++ [c]) = low l + c.toNat % 128 * 128 ^ l.length := by
  induction l with
  | nil => simp [low]
  | cons d r ih => simp only [List.cons_append, low, ih, List.length_cons, Nat.pow_succ]; rw [Nat.mul_add, Nat.mul_comm 128 (c.toNat % 128 * 128 ^ r.length), Nat.mul_assoc]; omega
theorem low_lt (l : List UInt8) : low l < 128 ^ l.length := by
  induction l with
  | nil => simp [low]
  | cons d r ih => simp only [low, List.length_cons, Nat.pow_succ]; omega

def wgN (l : List UInt8) : Nat := (wg 0 l).1
def wgS (l : List UInt8) : Nat := (wg 0 l).2.1
def wgE (l : List UInt8) : Nat := (wg 0 l).2.2

/-- bytes that do not end a number -/
def hi (l : List UInt8) : Prop := ∀ c ∈ l, 128 ≤ c.toNat
theorem wg_cut (p r : List UInt8) (hp : hi p) : ∀ i, i + p.length ≤ 9 → wg i (p ++ r) = if (wg (i + p.length) r).2.2 = 0 then (low p + 128 ^ p.length * (wg (i + p.length) r).1, p.length + (wg (i + p.length) r).2.1, 0) else (0, 0, (wg (i + p.length) r).2.2) := by
  induction p with
  | nil =>
    intro i _
    simp only [List.nil_append, List.length_nil, Nat.add_zero, low, Nat.pow_zero, Nat.one_mul, Nat.zero_add]
    split
    · rename_i h; rw [← h]
    · rename_i h
      cases r with
      | nil => simp [wg] at *
      | cons c r => 
        revert h
        simp only [wg]
        repeat' split
        all_goals simp_all
  | cons c p ih =>
    intro i hi'
    have hc : 128 ≤ c.toNat := hp c (by simp)
    have ih' := ih (fun d hd => hp d (by simp [hd])) (i + 1) (by simp at hi'; omega)
    simp only [List.length_cons] at hi'
    rw [List.cons_append, wg, if_neg (by omega), if_pos hc, ih']
    simp only [List.length_cons, show i + (p.length + 1) = i + 1 + p.length from by omega, low, Nat.pow_succ]
    by_cases h0 : (wg (i + 1 + p.length) r).2.2 = 0
    · simp only [if_pos h0, if_true]
      refine Prod.ext ?_ (Prod.ext ?_ rfl)
      · simp only [Nat.mul_add]; rw [Nat.mul_comm (128 ^ p.length) 128, Nat.mul_assoc]; omega
      · simp only; omega
    · simp only [if_neg h0]
theorem wg_zero {i : Nat} {l : List UInt8} (h : (wg i l).2.2 ≠ 0) : (wg i l).1 = 0 ∧ (wg i l).2.1 = 0 := by
  cases l with
  | nil => simp [wg]
  | cons c r =>
    revert h
    simp only [wg]
    repeat' split
    all_goals simp_all
/-- the first bytes: whatever they are, what is read is as said -/
theorem wg_stop (l : List UInt8) (k : Nat) (hk : k < l.length) (h9 : k ≤ 9) (hp : hi (l.take k)) :
    wg 0 l = if (wg k (l.drop k)).2.2 = 0 then (low (l.take k) + 128 ^ k * (wg k (l.drop k)).1, k + (wg k (l.drop k)).2.1, 0) else (0, 0, (wg k (l.drop k)).2.2) := by
  have h := wg_cut (l.take k) (l.drop k) hp 0 (by simp; omega)
  rw [List.take_append_drop] at h
  rw [h]
  simp only [List.length_take, Nat.zero_add, Nat.min_eq_left (Nat.le_of_lt hk)]
theorem wg_end (l : List UInt8) (k : Nat) (hk : k < l.length) (h9 : k ≤ 9) (hp : hi (l.take k)) (hc : l[k].toNat < 128) :
    wg 0 l = if k = 9 ∧ 1 < l[k].toNat then (0, 0, 3) else if l[k].toNat = 0 ∧ 0 < k then (0, 0, 4) else (low (l.take (k + 1)), k + 1, 0) := by
  rw [wg_stop l k hk h9 hp, List.drop_eq_getElem_cons hk, wg]
  rw [if_neg (show ¬ 128 ≤ l[k].toNat from by omega)]
  by_cases h1 : k = 9 ∧ 1 < l[k].toNat
  · simp only [if_pos h1]
    simp
  · by_cases h2 : l[k].toNat = 0 ∧ 0 < k
    · simp [h1, h2]
    · simp only [if_neg h1, if_neg h2, if_true]
      refine Prod.ext ?_ rfl
      rw [List.take_succ_eq_append_getElem hk, low_snoc]
      simp only [List.length_take, Nat.min_eq_left (Nat.le_of_lt hk), Nat.mod_eq_of_lt hc, Nat.mul_comm]
theorem wg_short (l : List UInt8) (hp : hi l) (hl : l.length ≤ 9) : wg 0 l = (0, 0, 2) := by
  have h := wg_cut l [] hp 0 (by omega)
  rw [List.append_nil] at h
  rw [h]
  simp [wg]
theorem wg_long (l : List UInt8) (hp : hi (l.take 10)) (hl : 10 ≤ l.length) : wg 0 l = (0, 0, 3) := by
  have h9 : 9 < l.length := by omega
  have hp9 : hi (l.take 9) := fun c hc => hp c (List.mem_of_mem_take (i := 9) (by rwa [List.take_take]))
  rw [wg_stop l 9 h9 (by omega) hp9, List.drop_eq_getElem_cons h9, wg]
  have hc : 128 ≤ l[9].toNat := hp _ (List.mem_iff_getElem.2 ⟨9, by simp; omega, by simp⟩)
  rw [if_pos (And.intro rfl (by omega) : 9 = 9 ∧ 1 < l[9].toNat)]
  simp

/-- what was put is read -/
theorem wg_nb_at : ∀ (k i n : Nat) (r : List UInt8), i + k = 9 → (0 < i → 0 < n) → n < 2 * 128 ^ k → wg i (nb n ++ r) = (n, (nb n).length, 0) := by
  intro k
  induction k with
  | zero =>
    intro i n r hi hpos h
    have h1 : n < 2 := by simpa using h
    rw [nb_small (by omega)]
    simp only [List.singleton_append, wg, UInt8.toNat_ofNat', List.length_singleton]
    have : n % 2 ^ 8 = n := Nat.mod_eq_of_lt (by omega)
    rw [this, if_neg (by omega), if_neg (by omega), if_neg (by omega)]
  | succ k ih =>
    intro i n r hi hpos h
    by_cases h1 : n < 128
    · rw [nb_small h1]
      simp only [List.singleton_append, wg, UInt8.toNat_ofNat', List.length_singleton]
      have : n % 2 ^ 8 = n := Nat.mod_eq_of_lt (by omega)
      rw [this, if_neg (by omega), if_neg (by omega), if_neg (by omega)]
    · rw [nb_great h1]
      have h2 := ih (i + 1) (n / 128) r (by omega) (fun _ => by omega) (by rw [Nat.pow_succ] at h; rw [Nat.div_lt_iff_lt_mul (by decide)]; omega)
      simp only [List.cons_append, wg, UInt8.toNat_ofNat', List.length_cons, h2]
      have : (n % 128 + 128) % 2 ^ 8 = n % 128 + 128 := Nat.mod_eq_of_lt (by omega)
      rw [this, if_neg (by omega), if_pos (by omega)]
      simp only [if_true]
      refine Prod.ext ?_ rfl
      simp only
      omega
theorem wg_nb {n : Nat} (h : n < 2 ^ 64) (r : List UInt8) : wg 0 (nb n ++ r) = (n, (nb n).length, 0) := wg_nb_at 9 0 n r rfl (fun h => absurd h (by decide)) (Nat.lt_of_lt_of_le h (by decide))

/-- what is read was put -/
theorem wg_back_at : ∀ (l : List UInt8) (i : Nat), i ≤ 9 → (wg i l).2.2 = 0 → l.take (wg i l).2.1 = nb (wg i l).1 ∧ (wg i l).2.1 ≤ l.length ∧ (0 < i → 0 < (wg i l).1) ∧ (wg i l).1 < 2 * 128 ^ (9 - i) := by
  intro l
  induction l with
  | nil => intro i _ h; simp [wg] at h
  | cons c r ih =>
    intro i hi9 h
    simp only [wg] at h ⊢
    have hc := c.toNat_lt
    by_cases h1 : i = 9 ∧ 1 < c.toNat
    · simp [h1] at h
    · rw [if_neg h1] at h ⊢
      by_cases h2 : 128 ≤ c.toNat
      · rw [if_pos h2] at h ⊢
        by_cases h3 : (wg (i + 1) r).2.2 = 0
        · rw [if_pos h3]
          obtain ⟨a, b, d, e⟩ := ih (i + 1) (by omega) h3
          have hpos := d (by omega)
          simp only [List.take_succ_cons, List.length_cons]
          refine ⟨?_, by omega, fun _ => by omega, ?_⟩
          · rw [a, nb_great (n := c.toNat % 128 + 128 * (wg (i + 1) r).1) (by omega)]
            congr 1
            · apply UInt8.toNat_inj.1
              rw [UInt8.toNat_ofNat']
              omega
            · congr 1; omega
          · rw [show 9 - i = (9 - (i + 1)) + 1 from by omega, Nat.pow_succ]
            omega
        · rw [if_neg h3] at h
          exact absurd h h3
      · rw [if_neg h2] at h ⊢
        by_cases h4 : c.toNat = 0 ∧ 0 < i
        · simp [h4] at h
        · rw [if_neg h4]
          simp only [List.take_succ_cons, List.take_zero, List.length_cons]
          refine ⟨?_, by omega, fun _ => by omega, ?_⟩
          · rw [nb_small (by omega)]
            congr 1
            apply UInt8.toNat_inj.1
            rw [UInt8.toNat_ofNat', Nat.mod_eq_of_lt (by omega)]
          · by_cases h9 : i = 9
            · subst h9; simp; omega
            · have : 128 ^ 1 ≤ 128 ^ (9 - i) := Nat.pow_le_pow_right (by decide) (by omega)
              omega
theorem wg_back {l : List UInt8} (h : wgE l = 0) : l.take (wgS l) = nb (wgN l) ∧ wgS l ≤ l.length ∧ wgN l < 2 ^ 64 := by
  obtain ⟨a, b, _, d⟩ := wg_back_at l 0 (by decide) h
  exact ⟨a, b, Nat.lt_of_lt_of_le d (by decide)⟩
theorem wg_size {l : List UInt8} (h : wgE l = 0) : wgS l = (nb (wgN l)).length := by
  obtain ⟨a, b, _⟩ := wg_back h
  rw [← a, List.length_take, Nat.min_eq_left b]
theorem wg_none {l : List UInt8} (h : wgE l ≠ 0) : wgN l = 0 ∧ wgS l = 0 := wg_zero h
theorem wg_lt (l : List UInt8) : wgN l < 2 ^ 64 := by
  by_cases h : wgE l = 0
  · exact (wg_back h).2.2
  · rw [(wg_none h).1]; decide
theorem wgE_nb {n : Nat} (h : n < 2 ^ 64) (r : List UInt8) : wgE (nb n ++ r) = 0 := by unfold wgE; rw [wg_nb h]
theorem wgN_nb {n : Nat} (h : n < 2 ^ 64) (r : List UInt8) : wgN (nb n ++ r) = n := by unfold wgN; rw [wg_nb h]
theorem wgS_nb {n : Nat} (h : n < 2 ^ 64) (r : List UInt8) : wgS (nb n ++ r) = (nb n).length := by unfold wgS; rw [wg_nb h]
theorem wgS_len (l : List UInt8) : wgS l ≤ l.length := by
  by_cases h : wgE l = 0
  · exact (wg_back h).2.1
  · rw [(wg_none h).2]; omega
theorem wgS_ten (l : List UInt8) : wgS l ≤ 10 := by
  by_cases h : wgE l = 0
  · rw [wg_size h]; exact nb_len (wg_lt l)
  · rw [(wg_none h).2]; omega
theorem wg_ends (l : List UInt8) (k : Nat) (hk : k < l.length) (h9 : k ≤ 9) (hp : hi (l.take k)) :
    (k = 9 → 1 < l[k].toNat → wgN l = 0 ∧ wgS l = 0 ∧ wgE l = 3) ∧ (¬ (k = 9 ∧ 1 < l[k].toNat) → l[k].toNat < 128 → (l[k].toNat = 0 → 0 < k → wgN l = 0 ∧ wgS l = 0 ∧ wgE l = 4) ∧ (¬ (l[k].toNat = 0 ∧ 0 < k) → wgN l = low (l.take (k + 1)) ∧ wgS l = k + 1 ∧ wgE l = 0)) := by
  refine ⟨?_, ?_⟩
  · intro h h1
    unfold wgN wgS wgE
    subst h
    rw [wg_stop l 9 hk h9 hp, List.drop_eq_getElem_cons hk, wg, if_pos (And.intro rfl h1 : 9 = 9 ∧ 1 < l[9].toNat)]
    simp
  · intro h h1
    have := wg_end l k hk h9 hp h1
    rw [if_neg h] at this
    unfold wgN wgS wgE
    refine ⟨fun h2 h3 => ?_, fun h2 => ?_⟩
    · rw [if_pos ⟨h2, h3⟩] at this; rw [this]; exact ⟨rfl, rfl, rfl⟩
    · rw [if_neg h2] at this; rw [this]; exact ⟨rfl, rfl, rfl⟩
attribute [irreducible] low wgN wgS wgE hi
end TG
