/- Words for slices of structs, flat in cells: what a slice reads as (Rd), a row of the call's own (Own); each kept over draws, new blocks and calls that only make memory. No condition. -/
import Derived.Test.YtgcnklnhambpjaaProg
import Derived.Below
import Derived.Laws.OwnMore
import Derived.Deep.Draws
import Derived.Maps.AppendAt
import Derived.WalkKit
import Derived.KernelRfl
import Derived.Lib.Hide
namespace Go.Proofs.Ytgcnklnhambpjaa
open Go.RowKit

structure Enc (α : Type) where
  enc : α → List Value
  k : Nat
  len : ∀ x, (enc x).length = k
  one : ∀ x, ∀ v ∈ enc x, v.oneCell' = true
  pos : 0 < k

variable {α : Type}
def Enc.flat (E : Enc α) (xs : List α) : List Value := xs.flatMap E.enc
theorem Enc.flat_length (E : Enc α) (xs : List α) : (E.flat xs).length = xs.length * E.k := by
  induction xs with
  | nil => simp [Enc.flat]
  | cons x xs ih => simp only [Enc.flat, List.flatMap_cons, List.length_append, List.length_cons, E.len] at ih ⊢; rw [ih, Nat.add_mul, Nat.one_mul, Nat.add_comm]
theorem Enc.flat_append (E : Enc α) (xs ys : List α) : E.flat (xs ++ ys) = E.flat xs ++ E.flat ys := by simp [Enc.flat]
theorem Enc.flat_cons (E : Enc α) (x : α) (ys : List α) : E.flat (x :: ys) = E.enc x ++ E.flat ys := by simp [Enc.flat]
theorem Enc.flat_one (E : Enc α) (x : α) : E.flat [x] = E.enc x := by simp [Enc.flat]
theorem Enc.flat_nil (E : Enc α) : E.flat [] = [] := rfl
theorem Enc.flat_take (E : Enc α) (xs : List α) (m : Nat) : E.flat (xs.take m) = (E.flat xs).take (m * E.k) := by
  induction xs generalizing m with
  | nil => simp [Enc.flat]
  | cons x xs ih =>
    cases m with
    | zero => simp [Enc.flat]
    | succ m =>
      rw [List.take_succ_cons, Enc.flat_cons, Enc.flat_cons, ih, Nat.add_mul, Nat.one_mul, List.take_append, E.len, show m * E.k + E.k - E.k = m * E.k by omega, List.take_of_length_le (l := E.enc x) (by rw [E.len]; omega)]
theorem Enc.flat_drop (E : Enc α) (xs : List α) (m : Nat) : E.flat (xs.drop m) = (E.flat xs).drop (m * E.k) := by
  induction xs generalizing m with
  | nil => simp [Enc.flat]
  | cons x xs ih =>
    cases m with
    | zero => simp [Enc.flat]
    | succ m =>
      rw [List.drop_succ_cons, Enc.flat_cons, ih, Nat.add_mul, Nat.one_mul, List.drop_append, E.len, show m * E.k + E.k - E.k = m * E.k by omega, show List.drop (m * E.k + E.k) (E.enc x) = [] from List.drop_eq_nil_of_le (by rw [E.len]; omega), List.nil_append]
theorem Enc.flat_one' (E : Enc α) (xs : List α) : ∀ u ∈ E.flat xs, u.oneCell' = true := fun u hu => by
  obtain ⟨x, _, hx⟩ := List.mem_flatMap.1 hu
  exact E.one x u hx
theorem Enc.flat_get (E : Enc α) (xs : List α) (i c : Nat) (hi : i < xs.length) (v : Value) (h : (E.enc xs[i])[c]? = some v) : (E.flat xs)[i * E.k + c]? = some v := by
  induction xs generalizing i with
  | nil => simp at hi
  | cons x xs ih =>
    rw [Enc.flat_cons]
    cases i with
    | zero =>
      have hc : c < (E.enc x).length := (List.getElem?_eq_some_iff.1 h).1
      rw [Nat.zero_mul, Nat.zero_add, List.getElem?_append_left hc]
      exact h
    | succ i =>
      rw [List.getElem?_append_right (by rw [E.len, Nat.add_mul, Nat.one_mul]; omega), E.len, show (i + 1) * E.k + c - E.k = i * E.k + c by rw [Nat.add_mul, Nat.one_mul]; omega]
      exact ih i (by simpa using hi) h

/-- A slice (its address A, nil let in) that reads as the list xs. -/
def Rd (E : Enc α) (w : World) (A : Option Addr) (xs : List α) : Prop :=
  xs.length ≤ 9223372036854775807 ∧ (0 < xs.length → ∃ ad, A = some ad ∧ ∀ j v, (E.flat xs)[j]? = some v → w.cell? (ad.add j) = some v)
/-- A row of elements (type e) in memory from block base on. -/
def Own (E : Enc α) (e : TypeId) (w : World) (base : Nat) (v : Value) (xs : List α) : Prop := w.ownsRow base e E.k v xs.length (E.flat xs)

section
variable {E : Enc α} {e : TypeId} {w w1 : World} {base : Nat} {A : Option Addr} {v : Value} {xs : List α}
theorem cell_below (h : Below w.heap.size w w1) {a : Addr} {u : Value} (hc : w.cell? a = some u) : w1.cell? a = some u := (h.cell (World.block_lt_of_cell? w a hc)).trans hc
theorem below_grown (h : Below w.heap.size w w1) (row : Option Nat) : w.grownBy w1 row := ⟨h.os, h.tape, h.output, h.size, fun i hi _ => h.block i hi⟩
theorem below_then {B : Nat} {w2 : World} (h : Below B w w1) (hB : B ≤ w1.heap.size) (k : Below w1.heap.size w1 w2) : Below B w w2 := h.trans (k.mono hB)
theorem below_drewN {B : Nat} {w W : World} (h : Below B w W) (n : Nat) : Below B w (W.drewN n) := ⟨h.os, h.tape, h.output, h.size, h.block⟩
theorem Rd.le (h : Rd E w A xs) : xs.length ≤ 9223372036854775807 := h.1
theorem Rd.below (h : Rd E w A xs) (hb : Below w.heap.size w w1) : Rd E w1 A xs :=
  ⟨h.1, fun hn => by
    obtain ⟨ad, ha, hc⟩ := h.2 hn
    exact ⟨ad, ha, fun j v hv => cell_below hb (hc j v hv)⟩⟩
theorem Rd.alloc (h : Rd E w A xs) (o : Obj) : Rd E (w.alloc o) A xs := h.below ((Below.refl _ _).alloc (Nat.le_refl _) o)
theorem Rd.drewN (h : Rd E w A xs) (n : Nat) : Rd E (w.drewN n) A xs := h
theorem Rd.drew (h : Rd E w A xs) : Rd E w.drew A xs := h
theorem Rd.nil (E : Enc α) (w : World) (A : Option Addr) : Rd E w A [] := ⟨by simp, fun h => absurd h (by simp)⟩
theorem Rd.at_ (h : Rd E w A xs) (i : Nat) (hi : i < xs.length) : ∃ ad, A = some ad ∧ ∀ c v, (E.enc xs[i])[c]? = some v → w.cell? (ad.add (i * E.k + c)) = some v := by
  obtain ⟨ad, ha, hc⟩ := h.2 (by omega)
  exact ⟨ad, ha, fun c v hv => hc _ _ (E.flat_get xs i c hi v hv)⟩
theorem addr_add_add (a : Addr) (i j : Nat) : (a.add i).add j = a.add (i + j) := by
  unfold Addr.add
  by_cases hi : i = 0 <;> by_cases hj : j = 0 <;> simp [hi, hj, Nat.add_assoc]
theorem addr_add_zero (a : Addr) : a.add 0 = a := rfl
theorem addr_add_pos (a : Addr) (n : Nat) (h : n ≠ 0) : a.add n = ⟨a.block, a.off + n, none⟩ := by simp [Addr.add, h]
theorem addr_plain (g j : Nat) : (⟨g, 0, none⟩ : Addr).add j = ⟨g, j, none⟩ := by unfold Addr.add; split <;> simp_all
/-- A cut of the first m. -/
theorem Rd.take (h : Rd E w A xs) (m : Nat) : Rd E w A (xs.take m) := by
  refine ⟨Nat.le_trans (by simp; omega) h.1, fun hn => ?_⟩
  obtain ⟨ad, ha, hc⟩ := h.2 (by simp at hn; omega)
  refine ⟨ad, ha, fun j v hv => hc j v ?_⟩
  rw [E.flat_take] at hv
  rw [List.getElem?_take] at hv
  split at hv
  · exact hv
  · cases hv
theorem Own.alloc (h : Own E e w base v xs) (o : Obj) : Own E e (w.alloc o) base v xs := World.ownsRow.alloc h o
theorem Own.drewN (h : Own E e w base v xs) (n : Nat) : Own E e (w.drewN n) base v xs := h
theorem Own.drew (h : Own E e w base v xs) : Own E e w.drew base v xs := h
theorem Own.grown {row : Option Nat} (h : Own E e w base v xs) (hg : w.grownBy w1 row) (hne : v.ownBlock = none ∨ v.ownBlock ≠ row) : Own E e w1 base v xs := World.ownsRow.kept h hg hne
theorem Own.below (h : Own E e w base v xs) (hb : Below w.heap.size w w1) : Own E e w1 base v xs := World.ownsRow.kept h (below_grown hb none) (by cases v.ownBlock <;> simp)
theorem Own.nil (E : Enc α) (e : TypeId) (w : World) (base : Nat) : Own E e w base (.slice none 0 0) [] := ⟨by simp [Enc.flat], .inl ⟨rfl, rfl⟩⟩
theorem Own.lower {base' : Nat} (h : Own E e w base v xs) (hb : base' ≤ base) : Own E e w base' v xs := by
  obtain ⟨h1, h2⟩ := h
  refine ⟨h1, ?_⟩
  rcases h2 with h2 | ⟨g, cap, cur, rfl, hg, r⟩
  · exact .inl h2
  · exact .inr ⟨g, cap, cur, rfl, by omega, r⟩
/-- What is owned, as a slice value, and as it is read. -/
theorem Own.rd (h : Own E e w base v xs) : ∃ A c, v = .slice A xs.length c ∧ xs.length ≤ c ∧ Rd E w A xs := by
  have hh := h
  obtain ⟨h1, h2⟩ := h
  rcases h2 with ⟨rfl, h0⟩ | ⟨g, cap, cur, rfl, hg, hh2, hn, hm, r⟩
  · exact ⟨none, 0, by rw [h0], by omega, by omega, fun hp => by omega⟩
  · exact ⟨_, cap, rfl, hn, by simp only [maxLen] at hm; omega, fun _ => ⟨_, rfl, World.ownsRow.cells hh rfl⟩⟩
theorem Own.le (h : Own E e w base v xs) : xs.length ≤ 9223372036854775807 := by
  obtain ⟨A, c, _, _, h⟩ := h.rd
  exact h.1
/-- A row that isn't empty, laid open. -/
theorem Own.open_ (h : Own E e w base v xs) (hn : 0 < xs.length) : ∃ g cap, v = .slice (some ⟨g, 0, none⟩) xs.length cap ∧ base ≤ g ∧ g < w.heap.size ∧ xs.length ≤ cap := by
  obtain ⟨h1, h2⟩ := h
  rcases h2 with ⟨rfl, h0⟩ | ⟨g, cap, cur, rfl, hg, hh2, hn', hm, r⟩
  · omega
  · exact ⟨g, cap, rfl, hg, (Array.getElem?_eq_some_iff.1 hh2).1, hn'⟩
theorem Own.block (h : Own E e w base v xs) : ∀ k, v.ownBlock = some k → base ≤ k ∧ k < w.heap.size := World.ownsRow.lt h
end

/-- A call that hands back a new row. -/
def Made (E : Enc α) (t : TypeId) (xs : List α) (w : World) (e : Ending) (w' : World) : Prop := ∃ v, e = .returned v ∧ Own E t w' w.heap.size v xs ∧ Below w.heap.size w w'
theorem ret_i {k : IntKind} {a b : Int} (h : a = b) : Ending.returned (.int k a) = .returned (.int k b) := by rw [h]
theorem ret_b {a b : Bool} (h : a = b) : Ending.returned (.bool a) = .returned (.bool b) := by rw [h]
theorem hid_of {p : Prop} (h : p) : Hid p := h
end Go.Proofs.Ytgcnklnhambpjaa
