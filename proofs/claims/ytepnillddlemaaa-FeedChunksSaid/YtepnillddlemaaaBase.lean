/- Words on memory: slices of bytes that are read, strings as lists of bytes, conversions. Conditions stand in each theorem. -/
import Derived.Below
import Derived.WalkKit
import Derived.OwnWalk
import Derived.KernelRfl
import Derived.RowKit3
import Derived.Lib.Hide
import Derived.Lib.ConvBytes
import Derived.Lib.SlBytesConst
import Derived.Lib.SliceRun
import Derived.Laws.AppendOwnNone
import Derived.Laws.BytesArg
import Derived.WalkSpells
import Derived.WalkLawsBesides
import Derived.RangeFuncBox
import Derived.Maps.AppendAt
import Derived.Shelf.Abstract
import Derived.Laws.IdiomStrings
import Derived.Laws.OwnMore
set_option linter.unusedVariables false
set_option linter.unusedSimpArgs false
namespace TG
open Go Go.RowKit Go.Proofs

/-- bytes as cells -/
def bc (l : List UInt8) : List Value := l.map fun x => .int .u8 (x.toNat : Int)
@[simp] theorem bc_length (l : List UInt8) : (bc l).length = l.length := by simp [bc]
@[simp] theorem bc_append (l m : List UInt8) : bc (l ++ m) = bc l ++ bc m := by simp [bc]
@[simp] theorem bc_nil : bc [] = [] := rfl
theorem bc_one (l : List UInt8) : ∀ u ∈ bc l, u.oneCell' = true := by
  intro u hu
  obtain ⟨x, _, rfl⟩ := List.mem_map.1 hu
  rfl
theorem bc_get {l : List UInt8} {j : Nat} {u : Value} (h : (bc l)[j]? = some u) : ∃ hj : j < l.length, u = .int .u8 (l[j].toNat : Int) := by
  simp only [bc, List.getElem?_map, Option.map_eq_some_iff] at h
  obtain ⟨x, hx, rfl⟩ := h
  obtain ⟨hj, rfl⟩ := List.getElem?_eq_some_iff.1 hx
  exact ⟨hj, rfl⟩

/-- A SLICE OF BYTES THAT IS READ. -/
def RB (w : World) (A : Option Addr) (c : Nat) (l : List UInt8) : Prop :=
  l.length ≤ c ∧ l.length ≤ 140737488355328 ∧ (A = none → l = []) ∧ ∀ ad, A = some ad → ∀ j, (hj : j < l.length) → w.cell? (ad.add j) = some (.int .u8 (l[j].toNat : Int))

theorem RB.at {w : World} {A : Option Addr} {c : Nat} {l : List UInt8} (h : RB w A c l) (j : Nat) (hj : j < l.length) : ∃ ad, A = some ad ∧ w.cell? (ad.add j) = some (.int .u8 (l[j].toNat : Int)) := by
  cases A with
  | none => have := h.2.2.1 rfl; subst this; simp at hj
  | some ad => exact ⟨ad, rfl, h.2.2.2 ad rfl j hj⟩
theorem RB.news {w : World} {ad : Addr} {c : Nat} {l : List UInt8} (h : RB w (some ad) c l) : ∀ j u, (bc l)[j]? = some u → w.cell? (ad.add j) = some u := by
  intro j u hj
  obtain ⟨h1, rfl⟩ := bc_get hj
  exact h.2.2.2 ad rfl j h1
theorem RB.below {w w1 : World} {A : Option Addr} {c : Nat} {l : List UInt8} (h : RB w A c l) (hb : Below w.heap.size w w1) : RB w1 A c l :=
  ⟨h.1, h.2.1, h.2.2.1, fun ad he j hj => by
    have hc := h.2.2.2 ad he j hj
    exact (hb.cell (World.block_lt_of_cell? w _ hc)).trans hc⟩
theorem RB.alloc {w : World} {A : Option Addr} {c : Nat} {l : List UInt8} (h : RB w A c l) (o : Obj) : RB (w.alloc o) A c l := h.below ((Below.refl _ _).alloc (Nat.le_refl _) o)
theorem RB.nil (w : World) (c : Nat) : RB w none c [] := ⟨Nat.zero_le _, by simp, fun _ => rfl, fun _ _ j hj => by simp at hj⟩

/-- the shape of whatever is owned -/
theorem own_form {w : World} {base : Nat} {e : TypeId} {size n : Nat} {v : Value} {xs : List Value} (h : w.ownsRow base e size v n xs) : ∃ A c, v = .slice A n c := by
  rcases h.2 with ⟨rfl, rfl⟩ | ⟨g, cap, cur, rfl, _⟩
  · exact ⟨none, 0, rfl⟩
  · exact ⟨_, cap, rfl⟩
theorem own_base {w : World} {base : Nat} {e : TypeId} {size n : Nat} {v : Value} {xs : List Value} (h : w.ownsRow base e size v n xs) (k : Nat) (hk : v.ownBlock = some k) : base ≤ k := by
  rcases h.2 with ⟨rfl, _⟩ | ⟨g, cap, cur, rfl, hg, _⟩
  · simp [Value.ownBlock] at hk
  · have : g = k := by simpa [Value.ownBlock] using hk
    omega
theorem own_below {w w1 : World} {base : Nat} {e : TypeId} {size n : Nat} {v : Value} {xs : List Value} (h : w.ownsRow base e size v n xs) (hb : Below w.heap.size w w1) : w1.ownsRow base e size v n xs :=
  h.kept (row := none) ⟨hb.os, hb.tape, hb.output, hb.size, fun k hk _ => hb.block k hk⟩ (by cases v.ownBlock <;> simp)
theorem below_chain {W X Y : World} (h : Below W.heap.size W X) (k : Below X.heap.size X Y) : Below W.heap.size W Y := h.trans (k.mono h.size)
theorem below_new {W X : World} (h : Below W.heap.size W X) (o : Obj) : Below W.heap.size W (X.alloc o) := h.alloc h.size o
theorem own_empty (w : World) (e size : Nat) : (w.alloc (.cells #[] e)).ownsRow w.heap.size e size (.slice (some ⟨w.heap.size, 0, none⟩) 0 0) 0 [] :=
  ⟨by simp, .inr ⟨w.heap.size, 0, #[], rfl, Nat.le_refl _, World.alloc_heap_new w _, Nat.le_refl _, by simp [maxLen], by simp, by simp⟩⟩
theorem add_zero0 (g j : Nat) : (⟨g, 0, none⟩ : Addr).add j = ⟨g, j, none⟩ := by unfold Addr.add; split <;> simp_all

/-- what is owned is read -/
theorem own_RB {w : World} {base : Nat} {e : TypeId} {A : Option Addr} {c : Nat} {l : List UInt8} (h : w.ownsRow base e 1 (.slice A l.length c) l.length (bc l)) (hl : l.length ≤ 140737488355328) : RB w A c l := by
  rcases h.2 with ⟨hv, h0⟩ | ⟨g, cap, cur, hv, hb, hh, h1, h2, h3, h4⟩
  · have hl0 : l = [] := List.eq_nil_of_length_eq_zero h0
    simp only [Value.slice.injEq] at hv
    obtain ⟨rfl, _, rfl⟩ := hv
    refine ⟨by omega, hl, (fun _ => hl0), fun _ he => (by cases he)⟩
  · simp only [Value.slice.injEq, true_and] at hv
    obtain ⟨rfl, rfl⟩ := hv
    refine ⟨h1, hl, (fun he => (by cases he)), fun ad he j hj => ?_⟩
    simp only [Option.some.injEq] at he
    subst he
    rw [add_zero0, cell_of_row w g j cur e (0, 0) hh]
    have : (cur.toList.take (l.length * 1))[j]? = (bc l)[j]? := by rw [h4]
    rw [List.getElem?_take, if_pos (by omega)] at this
    rw [← Array.getElem?_toList, this]
    simp [bc, hj]

/-- strings and bytes -/
def bs (s : ByteArray) : List UInt8 := s.data.toList
def mk8 (l : List UInt8) : ByteArray := ⟨l.toArray⟩
@[simp] theorem bs_mk8 (l : List UInt8) : bs (mk8 l) = l := rfl
@[simp] theorem mk8_bs (s : ByteArray) : mk8 (bs s) = s := rfl
theorem bs_length (s : ByteArray) : (bs s).length = s.size := rfl
@[go_sem] theorem mk8_size (l : List UInt8) : (mk8 l).size = l.length := rfl
theorem mk8_lt {l : List UInt8} {k : Nat} (h : k < (mk8 l).size) : k < l.length := h
@[go_sem] theorem mk8_get (l : List UInt8) (k : Nat) (h : k < (mk8 l).size) : (mk8 l)[k] = l[k]'(mk8_lt h) := rfl
theorem byte_hi (b : UInt8) : (b.toNat : Int) < 256 := by have := b.toNat_lt; omega
theorem byte_lo (b : UInt8) : 0 ≤ (b.toNat : Int) := Int.natCast_nonneg _
theorem mk8_add (l m : List UInt8) : mk8 l ++ mk8 m = mk8 (l ++ m) := by
  apply ByteArray.ext
  rw [ByteArray.data_append]
  simp [mk8]
theorem run_cat {P : Program} (t : TypeId) (a b : List UInt8) (h : a.length + b.length ≤ 1000000) (w : World) : (binOp .add t (.string (mk8 a)) (.string (mk8 b))).run P w = .ok (.string (mk8 (a ++ b))) w := by
  have h1 : IntKind.i64.max = 9223372036854775807 := rfl
  have h2 : a.length + b.length ≤ 9223372036854775807 := by omega
  simp [binOp, go_sem, mk8_add, h1, h2]
theorem mk8_inj {l m : List UInt8} : mk8 l = mk8 m ↔ l = m := ⟨fun h => by have := congrArg bs h; simpa using this, fun h => by rw [h]⟩

/-- 'string(b)', '[]byte(s)' -/
theorem conv_str {P : Program} {w : World} {A : Option Addr} {c : Nat} {l : List UInt8} (src dst e : TypeId) (hs : P.underlying src = some (.slice e)) (he : P.underlying e = some (.int .u8)) (hd : P.underlying dst = some .string) (h : RB w A c l) :
    (convert src dst (.slice A l.length c)).run P w = .ok (.string (mk8 l)) w := by
  cases A with
  | none => have := h.2.2.1 rfl; subst this; exact run_convert_bytes_nil w src e hs he 0 c dst hd
  | some ad => exact run_convert_bytes_back w src dst e ad c l hs he hd (fun j hj => h.2.2.2 ad rfl j hj)
theorem conv_bytes {P : Program} (src dst e : TypeId) (hs : P.underlying src = some .string) (hd : P.underlying dst = some (.slice e)) (he : P.underlying e = some (.int .u8)) (w : World) (s : ByteArray) :
    (convert src dst (.string s)).run P w = .ok (.slice (some ⟨w.heap.size, 0, none⟩) s.size (grownCap w s.size 0 e)) (Lib.bytesWorld w e s) := Lib.run_convert_string_bytes w src dst e s hs hd he
theorem bytes_RB (w : World) (e : TypeId) (l : List UInt8) (hl : l.length ≤ 140737488355328) (hc : l.length ≤ grownCap w l.length 0 e) : RB (Lib.bytesWorld w e (mk8 l)) (some ⟨w.heap.size, 0, none⟩) (grownCap w l.length 0 e) l :=
  ⟨hc, hl, (fun h => by cases h), fun ad he j hj => by
    simp only [Option.some.injEq] at he
    subst he
    rw [add_zero0, Lib.bytesWorld_cell w e (mk8 l) j hj]
    simp [mk8, hj]⟩

theorem RB_newf (w : World) (e : TypeId) (fr : Nat × Nat) (C : Array Value) (l : List UInt8) (h : C.toList = bc l) (hl : l.length ≤ 140737488355328) (c : Nat) (hc : l.length ≤ c) : RB (w.alloc (.cells C e fr)) (some ⟨w.heap.size, 0, none⟩) c l :=
  ⟨hc, hl, (fun he => by cases he), fun ad he j hj => by
    simp only [Option.some.injEq] at he
    subst he
    rw [add_zero0, cell_of_row _ _ j C e fr (World.alloc_heap_new w _), ← Array.getElem?_toList, h]
    simp [bc, hj]⟩
theorem RB_new (w : World) (e : TypeId) (C : Array Value) (l : List UInt8) (h : C.toList = bc l) (hl : l.length ≤ 140737488355328) (c : Nat) (hc : l.length ≤ c) : RB (w.alloc (.cells C e)) (some ⟨w.heap.size, 0, none⟩) c l :=
  ⟨hc, hl, (fun he => by cases he), fun ad he j hj => by
    simp only [Option.some.injEq] at he
    subst he
    rw [add_zero0, cell_of_row _ _ j C e (0, 0) (World.alloc_heap_new w _), ← Array.getElem?_toList, h]
    simp [bc, hj]⟩
theorem conv_new {P : Program} (w : World) (C : Array Value) (l : List UInt8) (n c : Nat) (src dst e : TypeId) (hs : P.underlying src = some (.slice e)) (he : P.underlying e = some (.int .u8)) (hd : P.underlying dst = some .string) (h : C.toList = bc l) (hn : n = l.length) (hl : l.length ≤ 140737488355328) :
    (convert src dst (.slice (some ⟨w.heap.size, 0, none⟩) n c)).run P (w.alloc (.cells C e)) = .ok (.string (mk8 l)) (w.alloc (.cells C e)) := by
  subst hn
  exact run_convert_bytes_back _ src dst e _ c l hs he hd (fun j hj => (RB_new w e C l h hl l.length (Nat.le_refl _)).2.2.2 _ rfl j hj)

end TG
