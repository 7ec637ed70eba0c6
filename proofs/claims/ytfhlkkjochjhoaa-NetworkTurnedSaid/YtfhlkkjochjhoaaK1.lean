/- Joined texts of the seat: contracts and plain laws that the rows import. -/
import Derived.Test.YtfhlkkjochjhoaaProg
import Derived.Below
import Derived.Laws.OwnMore
import Derived.Deep.Draws
import Derived.Maps.AppendAt
import Derived.WalkKit
import Derived.KernelRfl
import Derived.Lib.Hide
import Derived.MapKept
import Derived.ChangeMaps4
import Derived.Maps.RangeRun
import Derived.Laws.Entries
import Derived.WideLaws
set_option linter.unusedVariables false
set_option linter.unusedSimpArgs false
/- Words for slices of structs, flat in cells: what a slice reads as (Rd), a row of the call's own (Own); each kept over draws, new blocks and calls that only make memory. No condition. -/
namespace Go.Proofs.Ytfhlkkjochjhoaa
open Go.RowKit

structure Enc (α : Type) where
  enc : α → List Value
  k : Nat
  len : ∀ x, (enc x).length = k
  one : ∀ x, ∀ v ∈ enc x, v.oneCell' = true
  pos : 0 < k

variable {α : Type}
def Enc.flat (E : Enc α) (xs : List α) : List Value := xs.flatMap E.enc
theorem Enc.flat_length (E : Enc α) (xs : List α) : (E.flat xs).length = xs.length * E.k := by
  induction xs with
  | nil => simp [Enc.flat]
  | cons x xs ih => simp only [Enc.flat, List.flatMap_cons, List.length_append, List.length_cons, E.len] at ih ⊢; rw [ih, Nat.add_mul, Nat.one_mul, Nat.add_comm]
theorem Enc.flat_append (E : Enc α) (xs ys : List α) : E.flat (xs ++ ys) = E.flat xs ++ E.flat ys := by simp [Enc.flat]
theorem Enc.flat_cons (E : Enc α) (x : α) (ys : List α) : E.flat (x :: ys) = E.enc x ++ E.flat ys := by simp [Enc.flat]
theorem Enc.flat_one (E : Enc α) (x : α) : E.flat [x] = E.enc x := by simp [Enc.flat]
theorem Enc.flat_nil (E : Enc α) : E.flat [] = [] := rfl
theorem Enc.flat_take (E : Enc α) (xs : List α) (m : Nat) : E.flat (xs.take m) = (E.flat xs).take (m * E.k) := by
  induction xs generalizing m with
  | nil => simp [Enc.flat]
  | cons x xs ih =>
    cases m with
    | zero => simp [Enc.flat]
    | succ m =>
      rw [List.take_succ_cons, Enc.flat_cons, Enc.flat_cons, ih, Nat.add_mul, Nat.one_mul, List.take_append, E.len, show m * E.k + E.k - E.k = m * E.k by omega, List.take_of_length_le (l := E.enc x) (by rw [E.len]; omega)]
theorem Enc.flat_drop (E : Enc α) (xs : List α) (m : Nat) : E.flat (xs.drop m) = (E.flat xs).drop (m * E.k) := by
  induction xs generalizing m with
  | nil => simp [Enc.flat]
  | cons x xs ih =>
    cases m with
    | zero => simp [Enc.flat]
    | succ m =>
      rw [List.drop_succ_cons, Enc.flat_cons, ih, Nat.add_mul, Nat.one_mul, List.drop_append, E.len, show m * E.k + E.k - E.k = m * E.k by omega, show List.drop (m * E.k + E.k) (E.enc x) = [] from List.drop_eq_nil_of_le (by rw [E.len]; omega), List.nil_append]
theorem Enc.flat_one' (E : Enc α) (xs : List α) : ∀ u ∈ E.flat xs, u.oneCell' = true := fun u hu => by
  obtain ⟨x, _, hx⟩ := List.mem_flatMap.1 hu
  exact E.one x u hx
theorem Enc.flat_get (E : Enc α) (xs : List α) (i c : Nat) (hi : i < xs.length) (v : Value) (h : (E.enc xs[i])[c]? = some v) : (E.flat xs)[i * E.k + c]? = some v := by
  induction xs generalizing i with
  | nil => simp at hi
  | cons x xs ih =>
    rw [Enc.flat_cons]
    cases i with
    | zero =>
      have hc : c < (E.enc x).length := (List.getElem?_eq_some_iff.1 h).1
      rw [Nat.zero_mul, Nat.zero_add, List.getElem?_append_left hc]
      exact h
    | succ i =>
      rw [List.getElem?_append_right (by rw [E.len, Nat.add_mul, Nat.one_mul]; omega), E.len, show (i + 1) * E.k + c - E.k = i * E.k + c by rw [Nat.add_mul, Nat.one_mul]; omega]
      exact ih i (by simpa using hi) h

/-- A slice (its address A, nil let in) that reads as the list xs. -/
def Rd (E : Enc α) (w : World) (A : Option Addr) (xs : List α) : Prop :=
  xs.length ≤ 9223372036854775807 ∧ (0 < xs.length → ∃ ad, A = some ad ∧ ∀ j v, (E.flat xs)[j]? = some v → w.cell? (ad.add j) = some v)
/-- A row of elements (type e) in memory from block base on. -/
def Own (E : Enc α) (e : TypeId) (w : World) (base : Nat) (v : Value) (xs : List α) : Prop := w.ownsRow base e E.k v xs.length (E.flat xs)

section
variable {E : Enc α} {e : TypeId} {w w1 : World} {base : Nat} {A : Option Addr} {v : Value} {xs : List α}
theorem cell_below (h : Below w.heap.size w w1) {a : Addr} {u : Value} (hc : w.cell? a = some u) : w1.cell? a = some u := (h.cell (World.block_lt_of_cell? w a hc)).trans hc
theorem below_grown (h : Below w.heap.size w w1) (row : Option Nat) : w.grownBy w1 row := ⟨h.os, h.tape, h.output, h.size, fun i hi _ => h.block i hi⟩
theorem below_then {B : Nat} {w2 : World} (h : Below B w w1) (hB : B ≤ w1.heap.size) (k : Below w1.heap.size w1 w2) : Below B w w2 := h.trans (k.mono hB)
theorem below_drewN {B : Nat} {w W : World} (h : Below B w W) (n : Nat) : Below B w (W.drewN n) := ⟨h.os, h.tape, h.output, h.size, h.block⟩
theorem Rd.le (h : Rd E w A xs) : xs.length ≤ 9223372036854775807 := h.1
theorem Rd.below (h : Rd E w A xs) (hb : Below w.heap.size w w1) : Rd E w1 A xs :=
  ⟨h.1, fun hn => by
    obtain ⟨ad, ha, hc⟩ := h.2 hn
    exact ⟨ad, ha, fun j v hv => cell_below hb (hc j v hv)⟩⟩
theorem Rd.alloc (h : Rd E w A xs) (o : Obj) : Rd E (w.alloc o) A xs := h.below ((Below.refl _ _).alloc (Nat.le_refl _) o)
theorem Rd.drewN (h : Rd E w A xs) (n : Nat) : Rd E (w.drewN n) A xs := h
theorem Rd.drew (h : Rd E w A xs) : Rd E w.drew A xs := h
theorem Rd.nil (E : Enc α) (w : World) (A : Option Addr) : Rd E w A [] := ⟨by simp, fun h => absurd h (by simp)⟩
theorem Rd.at_ (h : Rd E w A xs) (i : Nat) (hi : i < xs.length) : ∃ ad, A = some ad ∧ ∀ c v, (E.enc xs[i])[c]? = some v → w.cell? (ad.add (i * E.k + c)) = some v := by
  obtain ⟨ad, ha, hc⟩ := h.2 (by omega)
  exact ⟨ad, ha, fun c v hv => hc _ _ (E.flat_get xs i c hi v hv)⟩
theorem addr_add_add (a : Addr) (i j : Nat) : (a.add i).add j = a.add (i + j) := by
  unfold Addr.add
  by_cases hi : i = 0 <;> by_cases hj : j = 0 <;> simp [hi, hj, Nat.add_assoc]
theorem addr_add_zero (a : Addr) : a.add 0 = a := rfl
theorem addr_add_pos (a : Addr) (n : Nat) (h : n ≠ 0) : a.add n = ⟨a.block, a.off + n, none⟩ := by simp [Addr.add, h]
theorem addr_plain (g j : Nat) : (⟨g, 0, none⟩ : Addr).add j = ⟨g, j, none⟩ := by unfold Addr.add; split <;> simp_all
/-- A cut of the first m. -/
theorem Rd.take (h : Rd E w A xs) (m : Nat) : Rd E w A (xs.take m) := by
  refine ⟨Nat.le_trans (by simp; omega) h.1, fun hn => ?_⟩
  obtain ⟨ad, ha, hc⟩ := h.2 (by simp at hn; omega)
  refine ⟨ad, ha, fun j v hv => hc j v ?_⟩
  rw [E.flat_take] at hv
  rw [List.getElem?_take] at hv
  split at hv
  · exact hv
  · cases hv
theorem Own.alloc (h : Own E e w base v xs) (o : Obj) : Own E e (w.alloc o) base v xs := World.ownsRow.alloc h o
theorem Own.drewN (h : Own E e w base v xs) (n : Nat) : Own E e (w.drewN n) base v xs := h
theorem Own.drew (h : Own E e w base v xs) : Own E e w.drew base v xs := h
theorem Own.grown {row : Option Nat} (h : Own E e w base v xs) (hg : w.grownBy w1 row) (hne : v.ownBlock = none ∨ v.ownBlock ≠ row) : Own E e w1 base v xs := World.ownsRow.kept h hg hne
theorem Own.below (h : Own E e w base v xs) (hb : Below w.heap.size w w1) : Own E e w1 base v xs := World.ownsRow.kept h (below_grown hb none) (by cases v.ownBlock <;> simp)
theorem Own.nil (E : Enc α) (e : TypeId) (w : World) (base : Nat) : Own E e w base (.slice none 0 0) [] := ⟨by simp [Enc.flat], .inl ⟨rfl, rfl⟩⟩
theorem Own.lower {base' : Nat} (h : Own E e w base v xs) (hb : base' ≤ base) : Own E e w base' v xs := by
  obtain ⟨h1, h2⟩ := h
  refine ⟨h1, ?_⟩
  rcases h2 with h2 | ⟨g, cap, cur, rfl, hg, r⟩
  · exact .inl h2
  · exact .inr ⟨g, cap, cur, rfl, by omega, r⟩
/-- What is owned, as a slice value, and as it is read. -/
theorem Own.rd (h : Own E e w base v xs) : ∃ A c, v = .slice A xs.length c ∧ xs.length ≤ c ∧ Rd E w A xs := by
  have hh := h
  obtain ⟨h1, h2⟩ := h
  rcases h2 with ⟨rfl, h0⟩ | ⟨g, cap, cur, rfl, hg, hh2, hn, hm, r⟩
  · exact ⟨none, 0, by rw [h0], by omega, by omega, fun hp => by omega⟩
  · exact ⟨_, cap, rfl, hn, by simp only [maxLen] at hm; omega, fun _ => ⟨_, rfl, World.ownsRow.cells hh rfl⟩⟩
theorem Own.le (h : Own E e w base v xs) : xs.length ≤ 9223372036854775807 := by
  obtain ⟨A, c, _, _, h⟩ := h.rd
  exact h.1
/-- A row that isn't empty, laid open. -/
theorem Own.open_ (h : Own E e w base v xs) (hn : 0 < xs.length) : ∃ g cap, v = .slice (some ⟨g, 0, none⟩) xs.length cap ∧ base ≤ g ∧ g < w.heap.size ∧ xs.length ≤ cap := by
  obtain ⟨h1, h2⟩ := h
  rcases h2 with ⟨rfl, h0⟩ | ⟨g, cap, cur, rfl, hg, hh2, hn', hm, r⟩
  · omega
  · exact ⟨g, cap, rfl, hg, (Array.getElem?_eq_some_iff.1 hh2).1, hn'⟩
theorem Own.block (h : Own E e w base v xs) : ∀ k, v.ownBlock = some k → base ≤ k ∧ k < w.heap.size := World.ownsRow.lt h
end

/-- A call that hands back a new row. -/
def Made (E : Enc α) (t : TypeId) (xs : List α) (w : World) (e : Ending) (w' : World) : Prop := ∃ v, e = .returned v ∧ Own E t w' w.heap.size v xs ∧ Below w.heap.size w w'
theorem ret_i {k : IntKind} {a b : Int} (h : a = b) : Ending.returned (.int k a) = .returned (.int k b) := by rw [h]
theorem ret_b {a b : Bool} (h : a = b) : Ending.returned (.bool a) = .returned (.bool b) := by rw [h]
theorem hid_of {p : Prop} (h : p) : Hid p := h
end Go.Proofs.Ytfhlkkjochjhoaa
/- The structs of the document layer as lists of cells. -/
namespace Go.Proofs.Ytfhlkkjochjhoaa
open Go.RowKit

/-- api.Message -/
structure Msg where
  mv : Int
  kd : Int
  nu : Int
  dy : Int
  fr : Int
  tt : Int
  al : Int
  deriving DecidableEq, Inhabited
def Msg.cells (x : Msg) : List Value := [.int .i64 x.mv, .int .i64 x.kd, .int .i64 x.nu, .int .i64 x.dy, .int .i64 x.fr, .int .i64 x.tt, .int .i64 x.al]
def EMsg : Enc Msg := ⟨Msg.cells, 7, fun _ => rfl, fun x v h => by simp only [Msg.cells, List.mem_cons, List.not_mem_nil, or_false] at h; rcases h with rfl | rfl | rfl | rfl | rfl | rfl | rfl <;> rfl, by decide⟩
/-- As a value. -/
@[reducible] def Msg.v (x : Msg) : Value := .agg #[.int .i64 x.mv, .int .i64 x.kd, .int .i64 x.nu, .int .i64 x.dy, .int .i64 x.fr, .int .i64 x.tt, .int .i64 x.al]
theorem Msg.k_eq : EMsg.k = 7 := rfl
theorem Msg.at_ {w : World} {A : Option Addr} {xs : List Msg} (h : Rd EMsg w A xs) (i : Nat) (hi : i < xs.length) : ∃ ad, A = some ad ∧ w.cell? (ad.add (i * 7)) = some (.int .i64 xs[i].mv) ∧ w.cell? ⟨(ad.add (i * 7)).block, (ad.add (i * 7)).off + 1, none⟩ = some (.int .i64 xs[i].kd) ∧ w.cell? ⟨(ad.add (i * 7)).block, (ad.add (i * 7)).off + 2, none⟩ = some (.int .i64 xs[i].nu) ∧ w.cell? ⟨(ad.add (i * 7)).block, (ad.add (i * 7)).off + 3, none⟩ = some (.int .i64 xs[i].dy) ∧ w.cell? ⟨(ad.add (i * 7)).block, (ad.add (i * 7)).off + 4, none⟩ = some (.int .i64 xs[i].fr) ∧ w.cell? ⟨(ad.add (i * 7)).block, (ad.add (i * 7)).off + 5, none⟩ = some (.int .i64 xs[i].tt) ∧ w.cell? ⟨(ad.add (i * 7)).block, (ad.add (i * 7)).off + 6, none⟩ = some (.int .i64 xs[i].al) := by
  obtain ⟨ad, ha, hc⟩ := h.at_ i hi
  have hc' : ∀ c v, (Msg.cells xs[i])[c]? = some v → w.cell? (ad.add (i * 7 + c)) = some v := hc
  have g : ∀ c v, c ≠ 0 → (Msg.cells xs[i])[c]? = some v → w.cell? ⟨(ad.add (i * 7)).block, (ad.add (i * 7)).off + c, none⟩ = some v := fun c v h0 hv => by
    rw [← addr_add_pos _ c h0, addr_add_add]
    exact hc' c v hv
  exact ⟨ad, ha, hc' 0 _ rfl, g 1 _ (by decide) rfl, g 2 _ (by decide) rfl, g 3 _ (by decide) rfl, g 4 _ (by decide) rfl, g 5 _ (by decide) rfl, g 6 _ (by decide) rfl⟩

/-- api.Document -/
structure Doc where
  mv : Int
  st : Int
  fr : Int
  tt : Int
  se : Int
  re : Int
  ch : Int
  deriving DecidableEq, Inhabited
def Doc.cells (x : Doc) : List Value := [.int .i64 x.mv, .int .i64 x.st, .int .i64 x.fr, .int .i64 x.tt, .int .i64 x.se, .int .i64 x.re, .int .i64 x.ch]
def EDoc : Enc Doc := ⟨Doc.cells, 7, fun _ => rfl, fun x v h => by simp only [Doc.cells, List.mem_cons, List.not_mem_nil, or_false] at h; rcases h with rfl | rfl | rfl | rfl | rfl | rfl | rfl <;> rfl, by decide⟩
/-- As a value. -/
@[reducible] def Doc.v (x : Doc) : Value := .agg #[.int .i64 x.mv, .int .i64 x.st, .int .i64 x.fr, .int .i64 x.tt, .int .i64 x.se, .int .i64 x.re, .int .i64 x.ch]
theorem Doc.k_eq : EDoc.k = 7 := rfl
theorem Doc.at_ {w : World} {A : Option Addr} {xs : List Doc} (h : Rd EDoc w A xs) (i : Nat) (hi : i < xs.length) : ∃ ad, A = some ad ∧ w.cell? (ad.add (i * 7)) = some (.int .i64 xs[i].mv) ∧ w.cell? ⟨(ad.add (i * 7)).block, (ad.add (i * 7)).off + 1, none⟩ = some (.int .i64 xs[i].st) ∧ w.cell? ⟨(ad.add (i * 7)).block, (ad.add (i * 7)).off + 2, none⟩ = some (.int .i64 xs[i].fr) ∧ w.cell? ⟨(ad.add (i * 7)).block, (ad.add (i * 7)).off + 3, none⟩ = some (.int .i64 xs[i].tt) ∧ w.cell? ⟨(ad.add (i * 7)).block, (ad.add (i * 7)).off + 4, none⟩ = some (.int .i64 xs[i].se) ∧ w.cell? ⟨(ad.add (i * 7)).block, (ad.add (i * 7)).off + 5, none⟩ = some (.int .i64 xs[i].re) ∧ w.cell? ⟨(ad.add (i * 7)).block, (ad.add (i * 7)).off + 6, none⟩ = some (.int .i64 xs[i].ch) := by
  obtain ⟨ad, ha, hc⟩ := h.at_ i hi
  have hc' : ∀ c v, (Doc.cells xs[i])[c]? = some v → w.cell? (ad.add (i * 7 + c)) = some v := hc
  have g : ∀ c v, c ≠ 0 → (Doc.cells xs[i])[c]? = some v → w.cell? ⟨(ad.add (i * 7)).block, (ad.add (i * 7)).off + c, none⟩ = some v := fun c v h0 hv => by
    rw [← addr_add_pos _ c h0, addr_add_add]
    exact hc' c v hv
  exact ⟨ad, ha, hc' 0 _ rfl, g 1 _ (by decide) rfl, g 2 _ (by decide) rfl, g 3 _ (by decide) rfl, g 4 _ (by decide) rfl, g 5 _ (by decide) rfl, g 6 _ (by decide) rfl⟩
end Go.Proofs.Ytfhlkkjochjhoaa
/- Envelopes as lists of cells. -/
namespace Go.Proofs.Ytfhlkkjochjhoaa
open Go.RowKit
/-- api.Envelope -/
structure Env where
  fr : Int
  tt : Int
  nu : Int
  m : Msg
  deriving DecidableEq, Inhabited
def Env.cells (x : Env) : List Value := [.int .i64 x.fr, .int .i64 x.tt, .int .i64 x.nu, .int .i64 x.m.mv, .int .i64 x.m.kd, .int .i64 x.m.nu, .int .i64 x.m.dy, .int .i64 x.m.fr, .int .i64 x.m.tt, .int .i64 x.m.al]
def EEnv : Enc Env := ⟨Env.cells, 10, fun _ => rfl, fun x v h => by simp only [Env.cells, List.mem_cons, List.not_mem_nil, or_false] at h; rcases h with rfl | rfl | rfl | rfl | rfl | rfl | rfl | rfl | rfl | rfl <;> rfl, by decide⟩
/-- As a value. -/
@[reducible] def Env.v (x : Env) : Value := .agg #[.int .i64 x.fr, .int .i64 x.tt, .int .i64 x.nu, .int .i64 x.m.mv, .int .i64 x.m.kd, .int .i64 x.m.nu, .int .i64 x.m.dy, .int .i64 x.m.fr, .int .i64 x.m.tt, .int .i64 x.m.al]
theorem Env.at_ {w : World} {A : Option Addr} {xs : List Env} (h : Rd EEnv w A xs) (i : Nat) (hi : i < xs.length) : ∃ ad, A = some ad ∧ w.cell? (ad.add (i * 10)) = some (.int .i64 xs[i].fr) ∧ w.cell? ⟨(ad.add (i * 10)).block, (ad.add (i * 10)).off + 1, none⟩ = some (.int .i64 xs[i].tt) ∧ w.cell? ⟨(ad.add (i * 10)).block, (ad.add (i * 10)).off + 2, none⟩ = some (.int .i64 xs[i].nu) ∧ w.cell? ⟨(ad.add (i * 10)).block, (ad.add (i * 10)).off + 3, none⟩ = some (.int .i64 xs[i].m.mv) ∧ w.cell? ⟨(ad.add (i * 10)).block, (ad.add (i * 10)).off + 4, none⟩ = some (.int .i64 xs[i].m.kd) ∧ w.cell? ⟨(ad.add (i * 10)).block, (ad.add (i * 10)).off + 5, none⟩ = some (.int .i64 xs[i].m.nu) ∧ w.cell? ⟨(ad.add (i * 10)).block, (ad.add (i * 10)).off + 6, none⟩ = some (.int .i64 xs[i].m.dy) ∧ w.cell? ⟨(ad.add (i * 10)).block, (ad.add (i * 10)).off + 7, none⟩ = some (.int .i64 xs[i].m.fr) ∧ w.cell? ⟨(ad.add (i * 10)).block, (ad.add (i * 10)).off + 8, none⟩ = some (.int .i64 xs[i].m.tt) ∧ w.cell? ⟨(ad.add (i * 10)).block, (ad.add (i * 10)).off + 9, none⟩ = some (.int .i64 xs[i].m.al) := by
  obtain ⟨ad, ha, hc⟩ := h.at_ i hi
  have hc' : ∀ c v, (Env.cells xs[i])[c]? = some v → w.cell? (ad.add (i * 10 + c)) = some v := hc
  have g : ∀ c v, c ≠ 0 → (Env.cells xs[i])[c]? = some v → w.cell? ⟨(ad.add (i * 10)).block, (ad.add (i * 10)).off + c, none⟩ = some v := fun c v h0 hv => by
    rw [← addr_add_pos _ c h0, addr_add_add]
    exact hc' c v hv
  exact ⟨ad, ha, hc' 0 _ rfl, g 1 _ (by decide) rfl, g 2 _ (by decide) rfl, g 3 _ (by decide) rfl, g 4 _ (by decide) rfl, g 5 _ (by decide) rfl, g 6 _ (by decide) rfl, g 7 _ (by decide) rfl, g 8 _ (by decide) rfl, g 9 _ (by decide) rfl⟩
end Go.Proofs.Ytfhlkkjochjhoaa
/- A map in one block as a list of keys and values: made, looked up, written, opened entry by entry. -/
namespace Go.Proofs.Ytfhlkkjochjhoaa
open Go.RowKit
open Go.ChangeMaps (setBlock)
variable {κ ν : Type}
/-- What the map's operations ask of the keys' type. -/
structure KeyOK (P : Program) (kt : TypeId) (kv : κ → Value) : Prop where
  chk : ∀ (em : Bool) (x : κ) (w : World), (Instr.checkKey em 10000 kt (kv x)).run P w = .ok () w
  fnd : ∀ (x : κ) (es : List MapEntry) (w : World), (∀ e ∈ es, ∃ y, e.key = kv y) →
    ((Instr.findKey kt (kv x) es).run P w = .ok none w ∧ ∀ e ∈ es, e.key ≠ kv x) ∨ ∃ j e, (Instr.findKey kt (kv x) es).run P w = .ok (some (j, e.val)) w ∧ es[j]? = some e ∧ e.key = kv x
  stays : ∀ (x : κ) (w : World), (Instr.keyThatStays (kv x) (kv x)).run P w = .ok (kv x) w
  inj : ∀ x y, kv x = kv y → x = y

/-- Block b is a map with these keys and values, each key once. -/
def IsMap (kv : κ → Value) (vv : ν → Value) (w : World) (b : Nat) (m : List (κ × ν)) : Prop :=
  ∃ es clock, w.heap[b]? = some (.map es clock) ∧ es.toList.map (fun e => (e.key, e.val)) = m.map (fun p => (kv p.1, vv p.2)) ∧ (es.toList.map (·.born)).Nodup ∧ (∀ e ∈ es.toList, e.born < clock) ∧ (m.map (·.1)).Nodup
def mget [DecidableEq κ] (m : List (κ × ν)) (x : κ) : Option ν := (m.find? (fun p => decide (p.1 = x))).map (·.2)
def mput [DecidableEq κ] (m : List (κ × ν)) (x : κ) (v : ν) : List (κ × ν) := if (mget m x).isSome then m.map (fun p => if p.1 = x then (p.1, v) else p) else m ++ [(x, v)]

theorem getObj_map {P : Program} {w : World} {b : Nat} {es : Array MapEntry} {clock : Nat} (hb : w.heap[b]? = some (.map es clock)) : (getObj b).run P w = .ok (.map es clock) w := by simp [getObj, Sem.run, hb]
theorem setObj_map {P : Program} {w : World} {b : Nat} {es : Array MapEntry} {clock : Nat} (hb : w.heap[b]? = some (.map es clock)) (o : Obj) : (setObj b o).run P w = .ok () (setBlock w b o) := by simp [setObj, Sem.run, hb, setBlock]
section
variable {kv : κ → Value} {vv : ν → Value} {w w1 : World} {b : Nat} {m : List (κ × ν)} {P : Program} {kt vt t : TypeId}
theorem IsMap.made (kv : κ → Value) (vv : ν → Value) (w : World) : IsMap kv vv (w.alloc (.map #[] 0)) w.heap.size [] :=
  ⟨#[], 0, (MapKept.heap_alloc w _).1, rfl, by simp, by simp, by simp⟩
theorem IsMap.lt (h : IsMap kv vv w b m) : b < w.heap.size := by
  obtain ⟨es, clock, hb, _⟩ := h
  exact (Array.getElem?_eq_some_iff.1 hb).1
theorem IsMap.grown {row : Option Nat} (h : IsMap kv vv w b m) (hg : w.grownBy w1 row) (hne : some b ≠ row) : IsMap kv vv w1 b m := by
  have hlt := h.lt
  obtain ⟨es, clock, hb, r⟩ := h
  exact ⟨es, clock, (hg.block b hlt hne).trans hb, r⟩
theorem IsMap.below (h : IsMap kv vv w b m) (hb : Below w.heap.size w w1) : IsMap kv vv w1 b m := h.grown (below_grown hb none) (by simp)
theorem IsMap.alloc (h : IsMap kv vv w b m) (o : Obj) : IsMap kv vv (w.alloc o) b m := h.grown (World.grownBy_alloc w o none) (by simp)
theorem IsMap.drew (h : IsMap kv vv w b m) : IsMap kv vv w.drew b m := h
theorem IsMap.drewN (h : IsMap kv vv w b m) (n : Nat) : IsMap kv vv (w.drewN n) b m := h
theorem IsMap.cells (h : IsMap kv vv w b m) (a : Addr) (u : Value) : IsMap kv vv (w.setCell a u) b m := by
  obtain ⟨es, clock, hb, r⟩ := h
  refine ⟨es, clock, ?_, r⟩
  simp only [World.setCell, Array.getElem?_modify]
  split
  · rw [hb]; rfl
  · exact hb
theorem nodup_at {α : Type} {l : List α} (hn : l.Nodup) {i j : Nat} (hi : i < l.length) (hj : j < l.length) (h : l[i] = l[j]) : i = j := by
  rcases Nat.lt_trichotomy i j with hij | hij | hij
  · exact absurd h ((List.pairwise_iff_getElem.1 hn) i j hi hj hij)
  · exact hij
  · exact absurd h.symm ((List.pairwise_iff_getElem.1 hn) j i hj hi hij)
theorem keys_of {es : List MapEntry} {m : List (κ × ν)} (h : es.map (fun e => (e.key, e.val)) = m.map (fun p => (kv p.1, vv p.2))) : ∀ e ∈ es, ∃ y, e.key = kv y := by
  intro e he
  have : (e.key, e.val) ∈ es.map (fun e => (e.key, e.val)) := List.mem_map.2 ⟨e, he, rfl⟩
  rw [h] at this
  obtain ⟨p, _, hp⟩ := List.mem_map.1 this
  exact ⟨p.1, by injection hp with h1 _; exact h1.symm⟩
theorem mget_none [DecidableEq κ] {m : List (κ × ν)} {x : κ} (h : ∀ p ∈ m, p.1 ≠ x) : mget m x = none := by
  unfold mget
  rw [List.find?_eq_none.2 (fun p hp => by simpa using h p hp)]
  rfl
theorem mget_at [DecidableEq κ] {m : List (κ × ν)} {x : κ} (hn : (m.map (·.1)).Nodup) {j : Nat} {p : κ × ν} (hj : m[j]? = some p) (hp : p.1 = x) : mget m x = some p.2 := by
  unfold mget
  have : m.find? (fun p => decide (p.1 = x)) = some p := by
    obtain ⟨hlt, rfl⟩ := List.getElem?_eq_some_iff.1 hj
    rw [List.find?_eq_some_iff_getElem]
    refine ⟨by simpa using hp, j, hlt, rfl, fun i hi => ?_⟩
    have hne := (List.pairwise_iff_getElem.1 hn) i j (by simp; omega) (by simpa using hlt) hi
    simp only [List.getElem_map] at hne
    simp only [Bool.not_eq_true', decide_eq_false_iff_not]
    rw [← hp]; exact hne
  rw [this]; rfl
/-- Looking a key up: the world stands, the search tells what the list tells. -/
theorem IsMap.find [DecidableEq κ] (K : KeyOK P kt kv) (h : IsMap kv vv w b m) (x : κ) : ∃ es clock, w.heap[b]? = some (.map es clock) ∧ es.toList.map (fun e => (e.key, e.val)) = m.map (fun p => (kv p.1, vv p.2)) ∧ (es.toList.map (·.born)).Nodup ∧ (∀ e ∈ es.toList, e.born < clock) ∧
    ((mget m x = none ∧ (Instr.findKey kt (kv x) es.toList).run P w = .ok none w ∧ ∀ e ∈ es.toList, e.key ≠ kv x) ∨ ∃ j e v, mget m x = some v ∧ (Instr.findKey kt (kv x) es.toList).run P w = .ok (some (j, vv v)) w ∧ es.toList[j]? = some e ∧ e.key = kv x ∧ e.val = vv v) := by
  obtain ⟨es, clock, hb, he, hn, hc, hm⟩ := h
  refine ⟨es, clock, hb, he, hn, hc, ?_⟩
  rcases K.fnd x es.toList w (keys_of he) with ⟨h1, h2⟩ | ⟨j, e, h1, h2, h3⟩
  · refine .inl ⟨mget_none fun p hp e => ?_, h1, h2⟩
    have : (kv p.1, vv p.2) ∈ es.toList.map (fun e => (e.key, e.val)) := by rw [he]; exact List.mem_map.2 ⟨p, hp, rfl⟩
    obtain ⟨e', he', hp'⟩ := List.mem_map.1 this
    injection hp' with hp1 _
    exact h2 e' he' (by rw [hp1, e])
  · have hj : (es.toList.map (fun e => (e.key, e.val)))[j]? = some (e.key, e.val) := by rw [List.getElem?_map, h2]; rfl
    rw [he, List.getElem?_map] at hj
    cases hp : m[j]? with
    | none => rw [hp] at hj; cases hj
    | some p =>
      rw [hp] at hj
      simp only [Option.map_some, Option.some.injEq, Prod.mk.injEq] at hj
      have hx : p.1 = x := K.inj _ _ (by rw [hj.1, h3])
      exact .inr ⟨j, e, p.2, mget_at hm hp hx, by rw [h1, hj.2], h2, h3, hj.2.symm⟩
theorem IsMap.lookup [DecidableEq κ] (K : KeyOK P kt kv) (h : IsMap kv vv w b m) (ht : P.underlying t = some (.map kt vt)) {z : Value} (hz : (zeroValue vt).run P w = .ok z w) (x : κ) :
    (Instr.lookup t (.map (some b)) (kv x) false).run P w = .ok (match mget m x with | some v => vv v | none => z) w ∧
    (Instr.lookup t (.map (some b)) (kv x) true).run P w = .ok (.tuple #[(match mget m x with | some v => vv v | none => z), .bool (mget m x).isSome]) w := by
  obtain ⟨es, clock, hb, he, _, _, hf⟩ := h.find K x
  rcases hf with ⟨h0, h1, _⟩ | ⟨j, e, v, h0, h1, _⟩
  · simp [Instr.lookup, run_underlying ht, getObj_map hb, K.chk, h1, h0, hz]
  · simp [Instr.lookup, run_underlying ht, getObj_map hb, K.chk, h1, h0]
theorem findIdx_toList {α : Type} (p : α → Bool) (xs : Array α) : xs.toList.findIdx? p = xs.findIdx? p := by
  obtain ⟨l⟩ := xs
  simp
theorem grown_setBlock (w : World) (b : Nat) (o : Obj) : w.grownBy (setBlock w b o) (some b) :=
  ⟨rfl, rfl, rfl, by simp [setBlock], fun k _ hk => by simp only [setBlock]; rw [Array.getElem?_setIfInBounds, if_neg (fun e => hk (by rw [e]))]⟩
theorem heap_setBlock (w : World) (b : Nat) (o : Obj) (h : b < w.heap.size) : (setBlock w b o).heap[b]? = some o := by
  simp [setBlock, h]
theorem born_modify {es : List MapEntry} {j : Nat} {f : MapEntry → MapEntry} (hf : ∀ e, (f e).born = e.born) : (es.modify j f).map (·.born) = es.map (·.born) := by
  apply List.ext_getElem?
  intro i
  simp only [List.getElem?_map, List.getElem?_modify]
  cases es[i]? with
  | none => rfl
  | some e => simp only [Option.map_some]; split <;> simp [hf]
theorem mput_keys [DecidableEq κ] (m : List (κ × ν)) (x : κ) (v : ν) (hn : (m.map (·.1)).Nodup) : ((mput m x v).map (·.1)).Nodup := by
  unfold mput
  split
  · rw [List.map_map]
    have : ((fun p : κ × ν => p.1) ∘ fun p => if p.1 = x then (p.1, v) else p) = fun p : κ × ν => p.1 := by
      funext p; simp only [Function.comp]; split <;> rfl
    rw [this]; exact hn
  · rename_i h
    rw [List.map_append, List.nodup_append]
    refine ⟨hn, by simp, ?_⟩
    intro a ha c hc e
    simp only [List.map_cons, List.map_nil, List.mem_singleton] at hc
    obtain ⟨p, hp, rfl⟩ := List.mem_map.1 ha
    apply h
    obtain ⟨j, hj, rfl⟩ := List.getElem_of_mem hp
    rw [mget_at hn (List.getElem?_eq_getElem hj) (e.trans hc)]
    rfl
/-- What the list of entries is behind a store at the place that the search told. -/
theorem modify_put [DecidableEq κ] {es : List MapEntry} {m : List (κ × ν)} (he : es.map (fun e => (e.key, e.val)) = m.map (fun p => (kv p.1, vv p.2))) (hn : (m.map (·.1)).Nodup) {j : Nat} {e : MapEntry} {x : κ} (hj : es[j]? = some e) (hk : e.key = kv x) (hinj : ∀ x y, kv x = kv y → x = y) (v : ν) {f : MapEntry → MapEntry} (hf : ∀ e, e.key = kv x → (f e).key = kv x ∧ (f e).val = vv v) :
    (es.modify j f).map (fun e => (e.key, e.val)) = (mput m x v).map (fun p => (kv p.1, vv p.2)) := by
  have hp : ∃ p, m[j]? = some p ∧ p.1 = x := by
    have h1 : (es.map (fun e => (e.key, e.val)))[j]? = some (e.key, e.val) := by rw [List.getElem?_map, hj]; rfl
    rw [he, List.getElem?_map] at h1
    cases hp : m[j]? with
    | none => rw [hp] at h1; cases h1
    | some p =>
      rw [hp] at h1
      simp only [Option.map_some, Option.some.injEq, Prod.mk.injEq] at h1
      exact ⟨p, rfl, hinj _ _ (by rw [h1.1, hk])⟩
  obtain ⟨p, hp, hpx⟩ := hp
  have hs : (mget m x).isSome = true := by rw [mget_at hn hp hpx]; rfl
  unfold mput
  rw [if_pos hs]
  apply List.ext_getElem?
  intro i
  have hi : (es.map (fun e => (e.key, e.val)))[i]? = (m.map (fun p => (kv p.1, vv p.2)))[i]? := by rw [he]
  simp only [List.getElem?_map, List.getElem?_modify] at hi ⊢
  by_cases hij : j = i
  · subst hij
    rw [hj, hp]
    simp only [if_true, Option.map_some]
    rw [if_pos hpx]
    obtain ⟨h1, h2⟩ := hf e hk
    simp [h1, h2, hpx]
  · cases hes : es[i]? with
    | none =>
      rw [hes] at hi
      cases hmi : m[i]? with
      | none => simp
      | some q => rw [hmi] at hi; simp at hi
    | some e' =>
      rw [hes] at hi
      cases hmi : m[i]? with
      | none => rw [hmi] at hi; simp at hi
      | some q =>
        rw [hmi] at hi
        simp only [Option.map_some, hij, if_false] at hi ⊢
        have hq : q.1 ≠ x := by
          intro e
          obtain ⟨h1, h2⟩ := List.getElem?_eq_some_iff.1 hmi
          obtain ⟨h3, h4⟩ := List.getElem?_eq_some_iff.1 hp
          exact hij (nodup_at hn (i := j) (j := i) (by simpa using h3) (by simpa using h1) (by simp [h2, h4, e, hpx]))
        rw [if_neg hq]
        exact hi
theorem IsMap.update [DecidableEq κ] (K : KeyOK P kt kv) (h : IsMap kv vv w b m) (ht : P.underlying t = some (.map kt vt)) (x : κ) (v : ν) :
    ∃ w', (Instr.mapUpdate t (.map (some b)) (kv x) (vv v)).run P w = .ok () w' ∧ IsMap kv vv w' b (mput m x v) ∧ w.grownBy w' (some b) := by
  have hlt := h.lt
  have hm := h
  obtain ⟨_, _, _, _, _, _, hnod⟩ := hm
  obtain ⟨es, clock, hb, he, hn, hc, hf⟩ := h.find K x
  rcases hf with ⟨h0, h1, h2⟩ | ⟨j, e, v0, h0, h1, hj, hk, hv⟩
  · refine ⟨setBlock w b (.map (es.push { key := kv x, val := vv v, born := clock }) (clock + 1)), ?_, ⟨_, _, heap_setBlock _ _ _ hlt, ?_, ?_, ?_, mput_keys m x v hnod⟩, grown_setBlock _ _ _⟩
    · simp [Instr.mapUpdate, run_underlying ht, getObj_map hb, K.chk, h1, setObj_map hb]
    · unfold mput; rw [h0]; simp [he]
    · rw [Array.toList_push, List.map_append, List.nodup_append]
      refine ⟨hn, by simp, fun a ha c hc' e => ?_⟩
      simp only [List.map_cons, List.map_nil, List.mem_singleton] at hc'
      obtain ⟨e', he', rfl⟩ := List.mem_map.1 ha
      have := hc e' he'
      omega
    · intro e' he'
      rw [Array.toList_push] at he'
      rcases List.mem_append.1 he' with he' | he'
      · have := hc e' he'; omega
      · simp only [List.mem_singleton] at he'; rw [he']; simp
  · have hes : es[j]? = some e := by rw [← Array.getElem?_toList]; exact hj
    refine ⟨setBlock w b (.map (es.modify j fun e => { e with key := kv x, val := vv v }) clock), ?_, ⟨_, _, heap_setBlock _ _ _ hlt, ?_, ?_, ?_, mput_keys m x v hnod⟩, grown_setBlock _ _ _⟩
    · simp [Instr.mapUpdate, run_underlying ht, getObj_map hb, K.chk, h1, hes, hk, K.stays, setObj_map hb]
    · rw [Array.toList_modify]
      exact modify_put he hnod hj hk K.inj v (fun e _ => ⟨rfl, rfl⟩)
    · rw [Array.toList_modify, born_modify (f := fun e => { e with key := kv x, val := vv v }) (fun _ => rfl)]; exact hn
    · intro e' he'
      have : e'.born ∈ (es.modify j fun e => { e with key := kv x, val := vv v }).toList.map (·.born) := List.mem_map.2 ⟨e', he', rfl⟩
      rw [Array.toList_modify, born_modify (f := fun e => { e with key := kv x, val := vv v }) (fun _ => rfl)] at this
      obtain ⟨e2, h2, h3⟩ := List.mem_map.1 this
      have := hc e2 h2
      omega
/-- 'm[k] op= v': the entry's place, then what is stored there; the look-up tells the same before and between. -/
theorem IsMap.bump [DecidableEq κ] (K : KeyOK P kt kv) (h : IsMap kv vv w b m) (ht : P.underlying t = some (.map kt vt)) {zv : ν} (hz : ∀ w, (zeroValue vt).run P w = .ok (vv zv) w) (x : κ) :
    ∃ st w2, (Instr.mapEntry t (.map (some b)) (kv x)).run P w = .ok (.tuple #[vv ((mget m x).getD zv), .int .i64 st]) w2 ∧
      (Instr.lookup t (.map (some b)) (kv x) false).run P w = .ok (vv ((mget m x).getD zv)) w ∧ (Instr.lookup t (.map (some b)) (kv x) false).run P w2 = .ok (vv ((mget m x).getD zv)) w2 ∧ w.grownBy w2 (some b) ∧
      ∀ v, ∃ w3, (Instr.entryStore t (.map (some b)) (.int .i64 st) (vv v)).run P w2 = .ok () w3 ∧ IsMap kv vv w3 b (mput m x v) ∧ w.grownBy w3 (some b) := by
  have hlt := h.lt
  have hm := h
  obtain ⟨_, _, _, _, _, _, hnod⟩ := hm
  have hl := (h.lookup K ht (hz w) x).1
  obtain ⟨es, clock, hb, he, hn, hc, hf⟩ := h.find K x
  rcases hf with ⟨h0, h1, h2⟩ | ⟨j, e, v0, h0, h1, hj, hk, hv⟩
  · have hb2 := heap_setBlock w b (.map (es.push { key := kv x, val := vv zv, born := clock }) (clock + 1)) hlt
    have hN : IsMap kv vv (setBlock w b (.map (es.push { key := kv x, val := vv zv, born := clock }) (clock + 1))) b (mput m x zv) := by
      refine ⟨_, _, hb2, ?_, ?_, ?_, mput_keys m x zv hnod⟩
      · unfold mput; rw [h0]; simp [he]
      · rw [Array.toList_push, List.map_append, List.nodup_append]
        refine ⟨hn, by simp, fun a ha c hc' e => ?_⟩
        simp only [List.map_cons, List.map_nil, List.mem_singleton] at hc'
        obtain ⟨e', he', rfl⟩ := List.mem_map.1 ha
        have := hc e' he'
        omega
      · intro e' he'
        rw [Array.toList_push] at he'
        rcases List.mem_append.1 he' with he' | he'
        · have := hc e' he'; omega
        · simp only [List.mem_singleton] at he'; rw [he']; simp
    have hg : mget (mput m x zv) x = some zv := by
      unfold mput
      rw [h0]
      have hmem : (m ++ [(x, zv)])[m.length]? = some (x, zv) := by simp
      refine mget_at ?_ hmem rfl
      have := mput_keys m x zv hnod
      unfold mput at this
      rw [h0] at this
      exact this
    have hl2 := (hN.lookup K ht (hz _) x).1
    rw [hg] at hl2
    rw [h0] at hl
    refine ⟨clock, setBlock w b (.map (es.push { key := kv x, val := vv zv, born := clock }) (clock + 1)), ?_, ?_, ?_, grown_setBlock _ _ _, fun v => ?_⟩
    · simp [Instr.mapEntry, run_underlying ht, getObj_map hb, K.chk, h1, hz, setObj_map hb, h0, goInt]
    · rw [h0]; exact hl
    · rw [h0]; exact hl2
    · have hfi : (es.push { key := kv x, val := vv zv, born := clock }).findIdx? (fun e => (e.born : Int) == (clock : Int)) = some es.size := by
        rw [← findIdx_toList, Array.toList_push, List.findIdx?_append, List.findIdx?_eq_none_iff.2]
        · simp
        · intro y hy
          have := hc y hy
          simp only [beq_eq_false_iff_ne, ne_eq, Int.natCast_inj]
          omega
      refine ⟨setBlock (setBlock w b (.map (es.push { key := kv x, val := vv zv, born := clock }) (clock + 1))) b (.map ((es.push { key := kv x, val := vv zv, born := clock }).modify es.size fun e => { e with val := vv v }) (clock + 1)), ?_, ⟨_, _, heap_setBlock _ _ _ (by simpa [setBlock] using hlt), ?_, ?_, ?_, mput_keys m x v hnod⟩, World.grownBy.trans (grown_setBlock _ _ _) (grown_setBlock _ _ _)⟩
      · simp [Instr.entryStore, getObj_map hb2, setObj_map hb2, asInt, asIntOf, hfi]
      · rw [Array.toList_modify, Array.toList_push]
        unfold mput
        rw [h0]
        simp only [Option.isSome_none, Bool.false_eq_true, if_false, List.map_append, List.map_cons, List.map_nil]
        rw [← he, List.modify_eq_take_cons_drop (by simp)]
        simp
      · rw [Array.toList_modify, born_modify (f := fun e => { e with val := vv v }) (fun _ => rfl)]
        obtain ⟨es2, c2, hb3, _, hn2, _⟩ := hN
        rw [hb2] at hb3
        injection hb3 with hb3
        injection hb3 with hb3 _
        rw [hb3]; exact hn2
      · intro e' he'
        have h5 : e'.born ∈ ((es.push { key := kv x, val := vv zv, born := clock }).modify es.size fun e => { e with val := vv v }).toList.map (·.born) := List.mem_map.2 ⟨e', he', rfl⟩
        rw [Array.toList_modify, born_modify (f := fun e => { e with val := vv v }) (fun _ => rfl)] at h5
        obtain ⟨e2, h6, h7⟩ := List.mem_map.1 h5
        rw [Array.toList_push] at h6
        rcases List.mem_append.1 h6 with h6 | h6
        · have := hc e2 h6; omega
        · simp only [List.mem_singleton] at h6; rw [h6] at h7; simp only at h7; omega
  · have hes : es[j]? = some e := by rw [← Array.getElem?_toList]; exact hj
    have hes' := List.getElem?_eq_some_iff.1 hj
    have hid : (es.modify j fun e => { e with key := kv x }) = es := by
      apply Array.ext_getElem?
      intro i
      rw [Array.getElem?_modify]
      split
      · rename_i hji
        subst hji
        rw [hes]
        simp only [Option.map_some, Option.some.injEq]
        rw [← hk]
      · rfl
    have hw2 : setBlock w b (.map es clock) = w := by
      unfold setBlock
      congr 1
      apply Array.ext_getElem?
      intro i
      rw [Array.getElem?_setIfInBounds]
      split
      · rename_i hbi; subst hbi; exact hb.symm
      · rfl
    have hfi : es.findIdx? (fun y => (y.born : Int) == (e.born : Int)) = some j := by
      rw [← findIdx_toList, List.findIdx?_eq_some_iff_getElem]
      refine ⟨hes'.1, by rw [hes'.2]; simp, fun i hi => ?_⟩
      have hne := (List.pairwise_iff_getElem.1 hn) i j (by simp; have := hes'.1; simp at this; omega) (by simpa using hes'.1) hi
      simp only [List.getElem_map] at hne
      rw [hes'.2] at hne
      simp only [Bool.not_eq_true, beq_eq_false_iff_ne, ne_eq]
      intro h9
      exact hne (by exact_mod_cast h9)
    rw [h0] at hl
    refine ⟨e.born, w, ?_, ?_, ?_, World.grownBy.refl _ _, fun v => ?_⟩
    · rw [h0]
      simp [Instr.mapEntry, run_underlying ht, getObj_map hb, K.chk, h1, hes, hk, K.stays, setObj_map hb, hid, hw2, goInt]
    · rw [h0]; exact hl
    · rw [h0]; exact hl
    · refine ⟨setBlock w b (.map (es.modify j fun e => { e with val := vv v }) clock), ?_, ⟨_, _, heap_setBlock _ _ _ hlt, ?_, ?_, ?_, mput_keys m x v hnod⟩, grown_setBlock _ _ _⟩
      · simp [Instr.entryStore, getObj_map hb, setObj_map hb, asInt, asIntOf, hfi]
      · rw [Array.toList_modify]
        exact modify_put he hnod hj hk K.inj v (fun e he => ⟨he, rfl⟩)
      · rw [Array.toList_modify, born_modify (f := fun e => { e with val := vv v }) (fun _ => rfl)]; exact hn
      · intro e' he'
        have h5 : e'.born ∈ (es.modify j fun e => { e with val := vv v }).toList.map (·.born) := List.mem_map.2 ⟨e', he', rfl⟩
        rw [Array.toList_modify, born_modify (f := fun e => { e with val := vv v }) (fun _ => rfl)] at h5
        obtain ⟨e2, h6, h7⟩ := List.mem_map.1 h5
        have := hc e2 h6
        omega
/-- Block r is an iterator over the map in block b; idx: the places of the entries that have come. -/
def IterAt (kv : κ → Value) (vv : ν → Value) (w : World) (r b : Nat) (m : List (κ × ν)) (idx : List Nat) : Prop :=
  ∃ es clock seen, w.heap[r]? = some (.mapIter (some b) clock seen clock) ∧ w.heap[b]? = some (.map es clock) ∧ es.toList.map (fun e => (e.key, e.val)) = m.map (fun p => (kv p.1, vv p.2)) ∧ (es.toList.map (·.born)).Nodup ∧ (∀ e ∈ es.toList, e.born < clock) ∧
    idx.Nodup ∧ (∀ i ∈ idx, i < m.length) ∧ seen.toList.map some = idx.map (fun i => (es[i]?).map (·.born))
theorem IterAt.lt {r : Nat} {idx : List Nat} (h : IterAt kv vv w r b m idx) : r < w.heap.size ∧ b < w.heap.size := by
  obtain ⟨es, clock, seen, hr, hb, _⟩ := h
  exact ⟨(Array.getElem?_eq_some_iff.1 hr).1, (Array.getElem?_eq_some_iff.1 hb).1⟩
theorem IterAt.grown {r : Nat} {idx : List Nat} {row : Option Nat} (h : IterAt kv vv w r b m idx) (hg : w.grownBy w1 row) (hr : some r ≠ row) (hb : some b ≠ row) : IterAt kv vv w1 r b m idx := by
  obtain ⟨h1, h2⟩ := h.lt
  obtain ⟨es, clock, seen, hr', hb', r⟩ := h
  exact ⟨es, clock, seen, (hg.block _ h1 hr).trans hr', (hg.block _ h2 hb).trans hb', r⟩
theorem IterAt.drewN {r : Nat} {idx : List Nat} (h : IterAt kv vv w r b m idx) (n : Nat) : IterAt kv vv (w.drewN n) r b m idx := h
/-- 'range': a new iterator; none of the entries has come. -/
theorem IsMap.range (h : IsMap kv vv w b m) (ht : P.underlying t = some (.map kt vt)) :
    ∃ o, (Instr.range t (.map (some b))).run P w = .ok (.pointer (some ⟨w.heap.size, 0, none⟩)) (w.alloc o) ∧ IterAt kv vv (w.alloc o) w.heap.size b m [] := by
  have hlt := h.lt
  obtain ⟨es, clock, hb, he, hn, hc, hm⟩ := h
  refine ⟨.mapIter (some b) clock #[] clock, ?_, es, clock, #[], (MapKept.heap_alloc w _).1, (Below.heap_alloc w _ b hlt).trans hb, he, hn, hc, by simp, by simp, by simp⟩

  simp [Instr.range, run_underlying ht, getObj_map hb]
theorem size_eq {es : Array MapEntry} {m : List (κ × ν)} (he : es.toList.map (fun e => (e.key, e.val)) = m.map (fun p => (kv p.1, vv p.2))) : es.size = m.length := by
  have := congrArg List.length he
  simpa using this
/-- A step of the range: nothing is left, and all have come; or one that hasn't come yet. -/
theorem IterAt.next {r : Nat} {idx : List Nat} (h : IterAt kv vv w r b m idx) (hrb : r ≠ b) :
    ((∀ ty, (Instr.next (.pointer (some ⟨r, 0, none⟩)) false ty).run P w = .ok (.tuple #[.bool false]) w) ∧ ∀ i, i < m.length → i ∈ idx) ∨
    ∃ i p w', m[i]? = some p ∧ i ∉ idx ∧ (∀ ty, (Instr.next (.pointer (some ⟨r, 0, none⟩)) false ty).run P w = .ok (.tuple #[.bool true, kv p.1, vv p.2]) w') ∧ IterAt kv vv w' r b m (idx ++ [i]) ∧ w.grownBy w' (some r) ∧
      (Instr.entry (.pointer (some ⟨r, 0, none⟩))).run P w' = .ok (.tuple #[kv p.1, vv p.2]) w' ∧ ∀ n, (Instr.entry (.pointer (some ⟨r, 0, none⟩))).run P (w'.drewN n) = .ok (.tuple #[kv p.1, vv p.2]) (w'.drewN n) := by
  obtain ⟨hr', hb'⟩ := h.lt
  obtain ⟨es, clock, seen, hr, hb, he, hn, hc, hi, hil, hs⟩ := h
  have hsz := size_eq he
  -- an entry has come just where its place stands in idx
  have hin : ∀ (i : Nat) (e : MapEntry), es[i]? = some e → (seen.contains e.born = true ↔ i ∈ idx) := by
    intro i e hie
    rw [Array.contains_iff_mem, ← Array.mem_toList_iff]
    have h1 : e.born ∈ seen.toList ↔ some e.born ∈ seen.toList.map some := by simp
    rw [h1, hs]
    constructor
    · intro h2
      obtain ⟨k, hk, h3⟩ := List.mem_map.1 h2
      have hkl := hil k hk
      rw [Array.getElem?_eq_getElem (show k < es.size by omega)] at h3
      simp only [Option.map_some, Option.some.injEq] at h3
      obtain ⟨hi1, hi2⟩ := Array.getElem?_eq_some_iff.1 hie
      have : k = i := nodup_at hn (i := k) (j := i) (by simp; omega) (by simpa using hi1) (by simp [h3, hi2])
      rwa [← this]
    · intro h2
      exact List.mem_map.2 ⟨i, h2, by rw [hie]; rfl⟩
  rcases (fun ty => run_next_at (P := P) w ty r b clock clock seen es clock hr hb hc (Nat.le_refl _)) 0 with ⟨h0, hrun⟩ | ⟨e, heL, w1, hw1, hrun⟩
  · refine .inl ⟨fun ty => hrun, fun i hi => ?_⟩
    have hes : es[i]? = some es[i] := Array.getElem?_eq_getElem (by omega)
    rcases hcc : seen.contains es[i].born with _ | _
    · exfalso
      have : es[i] ∈ leftOf es seen := by unfold leftOf; rw [Array.mem_filter]; exact ⟨Array.getElem_mem _, by rw [hcc]; rfl⟩
      rw [Array.eq_empty_of_size_eq_zero h0] at this
      simp at this
    · exact (hin i _ hes).1 hcc
  · unfold leftOf at heL
    rw [Array.mem_toList_iff, Array.mem_filter] at heL
    obtain ⟨hem, hns⟩ := heL
    obtain ⟨i, hilt, hie⟩ := Array.getElem_of_mem hem
    have hes : es[i]? = some e := by rw [Array.getElem?_eq_getElem hilt, hie]
    have hm : m[i]? = some m[i] := List.getElem?_eq_getElem (by omega)
    have hkv : e.key = kv m[i].1 ∧ e.val = vv m[i].2 := by
      have h1 : (es.toList.map (fun e => (e.key, e.val)))[i]? = some (e.key, e.val) := by rw [List.getElem?_map, Array.getElem?_toList, hes]; rfl
      rw [he, List.getElem?_map, hm] at h1
      simp only [Option.map_some, Option.some.injEq, Prod.mk.injEq] at h1
      exact ⟨h1.1.symm, h1.2.symm⟩
    have hnot : i ∉ idx := fun h => by
      have := (hin i e hes).2 h
      rw [this] at hns
      simp at hns
    have hh1 : w1.heap = w.heap := by rcases hw1 with rfl | rfl <;> rfl
    have hr2 : (setBlock w1 r (.mapIter (some b) clock (seen.push e.born) clock)).heap[r]? = some (.mapIter (some b) clock (seen.push e.born) clock) := heap_setBlock _ _ _ (by rw [hh1]; exact hr')
    have hb2 : (setBlock w1 r (.mapIter (some b) clock (seen.push e.born) clock)).heap[b]? = some (.map es clock) := by
      simp only [setBlock]
      rw [Array.getElem?_setIfInBounds, if_neg hrb, hh1]
      exact hb
    refine .inr ⟨i, m[i], setBlock w1 r (.mapIter (some b) clock (seen.push e.born) clock), hm, hnot, fun ty => ?_, ⟨es, clock, seen.push e.born, hr2, hb2, he, hn, hc, ?_, ?_, ?_⟩, ?_, ?_, fun n => ?_⟩
    · rw [← hkv.1, ← hkv.2]; exact hrun
    · rw [List.nodup_append]
      exact ⟨hi, by simp, fun a ha c hc' e' => by simp only [List.mem_singleton] at hc'; subst hc'; subst e'; exact hnot ha⟩
    · intro k hk
      rcases List.mem_append.1 hk with hk | hk
      · exact hil k hk
      · simp only [List.mem_singleton] at hk; subst hk; omega
    · rw [Array.toList_push, List.map_append, List.map_append, hs]
      simp [hes]
    · refine World.grownBy.trans (b := w1) ?_ (grown_setBlock _ _ _)
      rcases hw1 with rfl | rfl
      · exact World.grownBy.refl _ _
      · exact ⟨rfl, rfl, rfl, Nat.le_refl _, fun _ _ _ => rfl⟩
    · rw [← hkv.1, ← hkv.2]
      exact run_entry_at _ r b clock seen es clock e hr2 hb2 (by simpa using hem) hn
    · rw [← hkv.1, ← hkv.2]
      exact run_entry_at _ r b clock seen es clock e hr2 hb2 (by simpa using hem) hn
theorem nodup_le : ∀ (n : Nat) (l : List Nat), l.Nodup → (∀ x ∈ l, x < n) → l.length ≤ n
  | 0, l, _, h => by
    cases l with
    | nil => simp
    | cons x l => exact absurd (h x (by simp)) (by omega)
  | n + 1, l, hn, h => by
    have h1 := nodup_le n (l.erase n) (hn.erase n) (fun x hx => by
      have h2 := h x (List.mem_of_mem_erase hx)
      have h3 : x ≠ n := fun e => by subst e; exact (List.Nodup.not_mem_erase hn) hx
      omega)
    rw [List.length_erase] at h1
    split at h1 <;> omega
theorem IterAt.len_lt {r : Nat} {idx : List Nat} (h : IterAt kv vv w r b m idx) {i : Nat} (hi : i < m.length) (hni : i ∉ idx) : idx.length < m.length := by
  obtain ⟨es, clock, seen, _, _, _, _, _, hn, hl, _⟩ := h
  have := nodup_le m.length (i :: idx) (List.nodup_cons.2 ⟨hni, hn⟩) (fun x hx => by rcases List.mem_cons.1 hx with rfl | hx; exact hi; exact hl x hx)
  simp only [List.length_cons] at this
  omega
end
end Go.Proofs.Ytfhlkkjochjhoaa
