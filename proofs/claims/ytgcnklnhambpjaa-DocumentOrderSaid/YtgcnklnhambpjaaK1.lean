/- Joined texts of the seat: contracts and plain laws that the rows import. -/
import Derived.Test.YtgcnklnhambpjaaProg
import Derived.Below
import Derived.Laws.OwnMore
import Derived.Deep.Draws
import Derived.Maps.AppendAt
import Derived.WalkKit
import Derived.KernelRfl
import Derived.Lib.Hide
import Derived.Deep.LoopGhost
import Derived.Deep.QuietTactic
import Derived.BigQuiet
import Derived.Shelf.Abstract
import Derived.Outline
import Derived.StillTailTactics
import Derived.RegionTactic
import Derived.Sort.Grow
import Derived.Laws.CopyRow
import Derived.Lib.SliceRun
set_option linter.unusedVariables false
set_option linter.unusedSimpArgs false
/- Words for slices of structs, flat in cells: what a slice reads as (Rd), a row of the call's own (Own); each kept over draws, new blocks and calls that only make memory. No condition. -/
namespace Go.Proofs.Ytgcnklnhambpjaa
open Go.RowKit

structure Enc (α : Type) where
  enc : α → List Value
  k : Nat
  len : ∀ x, (enc x).length = k
  one : ∀ x, ∀ v ∈ enc x, v.oneCell' = true
  pos : 0 < k

variable {α : Type}
def Enc.flat (E : Enc α) (xs : List α) : List Value := xs.flatMap E.enc
theorem Enc.flat_length (E : Enc α) (xs : List α) : (E.flat xs).length = xs.length * E.k := by
  induction xs with
  | nil => simp [Enc.flat]
  | cons x xs ih => simp only [Enc.flat, List.flatMap_cons, List.length_append, List.length_cons, E.len] at ih ⊢; rw [ih, Nat.add_mul, Nat.one_mul, Nat.add_comm]
theorem Enc.flat_append (E : Enc α) (xs ys : List α) : E.flat (xs ++ ys) = E.flat xs ++ E.flat ys := by simp [Enc.flat]
theorem Enc.flat_cons (E : Enc α) (x : α) (ys : List α) : E.flat (x :: ys) = E.enc x ++ E.flat ys := by simp [Enc.flat]
theorem Enc.flat_one (E : Enc α) (x : α) : E.flat [x] = E.enc x := by simp [Enc.flat]
theorem Enc.flat_nil (E : Enc α) : E.flat [] = [] := rfl
theorem Enc.flat_take (E : Enc α) (xs : List α) (m : Nat) : E.flat (xs.take m) = (E.flat xs).take (m * E.k) := by
  induction xs generalizing m with
  | nil => simp [Enc.flat]
  | cons x xs ih =>
    cases m with
    | zero => simp [Enc.flat]
    | succ m =>
      rw [List.take_succ_cons, Enc.flat_cons, Enc.flat_cons, ih, Nat.add_mul, Nat.one_mul, List.take_append, E.len, show m * E.k + E.k - E.k = m * E.k by omega, List.take_of_length_le (l := E.enc x) (by rw [E.len]; omega)]
theorem Enc.flat_drop (E : Enc α) (xs : List α) (m : Nat) : E.flat (xs.drop m) = (E.flat xs).drop (m * E.k) := by
  induction xs generalizing m with
  | nil => simp [Enc.flat]
  | cons x xs ih =>
    cases m with
    | zero => simp [Enc.flat]
    | succ m =>
      rw [List.drop_succ_cons, Enc.flat_cons, ih, Nat.add_mul, Nat.one_mul, List.drop_append, E.len, show m * E.k + E.k - E.k = m * E.k by omega, show List.drop (m * E.k + E.k) (E.enc x) = [] from List.drop_eq_nil_of_le (by rw [E.len]; omega), List.nil_append]
theorem Enc.flat_one' (E : Enc α) (xs : List α) : ∀ u ∈ E.flat xs, u.oneCell' = true := fun u hu => by
  obtain ⟨x, _, hx⟩ := List.mem_flatMap.1 hu
  exact E.one x u hx
theorem Enc.flat_get (E : Enc α) (xs : List α) (i c : Nat) (hi : i < xs.length) (v : Value) (h : (E.enc xs[i])[c]? = some v) : (E.flat xs)[i * E.k + c]? = some v := by
  induction xs generalizing i with
  | nil => simp at hi
  | cons x xs ih =>
    rw [Enc.flat_cons]
    cases i with
    | zero =>
      have hc : c < (E.enc x).length := (List.getElem?_eq_some_iff.1 h).1
      rw [Nat.zero_mul, Nat.zero_add, List.getElem?_append_left hc]
      exact h
    | succ i =>
      rw [List.getElem?_append_right (by rw [E.len, Nat.add_mul, Nat.one_mul]; omega), E.len, show (i + 1) * E.k + c - E.k = i * E.k + c by rw [Nat.add_mul, Nat.one_mul]; omega]
      exact ih i (by simpa using hi) h

/-- A slice (its address A, nil let in) that reads as the list xs. -/
def Rd (E : Enc α) (w : World) (A : Option Addr) (xs : List α) : Prop :=
  xs.length ≤ 9223372036854775807 ∧ (0 < xs.length → ∃ ad, A = some ad ∧ ∀ j v, (E.flat xs)[j]? = some v → w.cell? (ad.add j) = some v)
/-- A row of elements (type e) in memory from block base on. -/
def Own (E : Enc α) (e : TypeId) (w : World) (base : Nat) (v : Value) (xs : List α) : Prop := w.ownsRow base e E.k v xs.length (E.flat xs)

section
variable {E : Enc α} {e : TypeId} {w w1 : World} {base : Nat} {A : Option Addr} {v : Value} {xs : List α}
theorem cell_below (h : Below w.heap.size w w1) {a : Addr} {u : Value} (hc : w.cell? a = some u) : w1.cell? a = some u := (h.cell (World.block_lt_of_cell? w a hc)).trans hc
theorem below_grown (h : Below w.heap.size w w1) (row : Option Nat) : w.grownBy w1 row := ⟨h.os, h.tape, h.output, h.size, fun i hi _ => h.block i hi⟩
theorem below_then {B : Nat} {w2 : World} (h : Below B w w1) (hB : B ≤ w1.heap.size) (k : Below w1.heap.size w1 w2) : Below B w w2 := h.trans (k.mono hB)
theorem below_drewN {B : Nat} {w W : World} (h : Below B w W) (n : Nat) : Below B w (W.drewN n) := ⟨h.os, h.tape, h.output, h.size, h.block⟩
theorem Rd.le (h : Rd E w A xs) : xs.length ≤ 9223372036854775807 := h.1
theorem Rd.below (h : Rd E w A xs) (hb : Below w.heap.size w w1) : Rd E w1 A xs :=
  ⟨h.1, fun hn => by
    obtain ⟨ad, ha, hc⟩ := h.2 hn
    exact ⟨ad, ha, fun j v hv => cell_below hb (hc j v hv)⟩⟩
theorem Rd.alloc (h : Rd E w A xs) (o : Obj) : Rd E (w.alloc o) A xs := h.below ((Below.refl _ _).alloc (Nat.le_refl _) o)
theorem Rd.drewN (h : Rd E w A xs) (n : Nat) : Rd E (w.drewN n) A xs := h
theorem Rd.drew (h : Rd E w A xs) : Rd E w.drew A xs := h
theorem Rd.nil (E : Enc α) (w : World) (A : Option Addr) : Rd E w A [] := ⟨by simp, fun h => absurd h (by simp)⟩
theorem Rd.at_ (h : Rd E w A xs) (i : Nat) (hi : i < xs.length) : ∃ ad, A = some ad ∧ ∀ c v, (E.enc xs[i])[c]? = some v → w.cell? (ad.add (i * E.k + c)) = some v := by
  obtain ⟨ad, ha, hc⟩ := h.2 (by omega)
  exact ⟨ad, ha, fun c v hv => hc _ _ (E.flat_get xs i c hi v hv)⟩
theorem addr_add_add (a : Addr) (i j : Nat) : (a.add i).add j = a.add (i + j) := by
  unfold Addr.add
  by_cases hi : i = 0 <;> by_cases hj : j = 0 <;> simp [hi, hj, Nat.add_assoc]
theorem addr_add_zero (a : Addr) : a.add 0 = a := rfl
theorem addr_add_pos (a : Addr) (n : Nat) (h : n ≠ 0) : a.add n = ⟨a.block, a.off + n, none⟩ := by simp [Addr.add, h]
theorem addr_plain (g j : Nat) : (⟨g, 0, none⟩ : Addr).add j = ⟨g, j, none⟩ := by unfold Addr.add; split <;> simp_all
/-- A cut of the first m. -/
theorem Rd.take (h : Rd E w A xs) (m : Nat) : Rd E w A (xs.take m) := by
  refine ⟨Nat.le_trans (by simp; omega) h.1, fun hn => ?_⟩
  obtain ⟨ad, ha, hc⟩ := h.2 (by simp at hn; omega)
  refine ⟨ad, ha, fun j v hv => hc j v ?_⟩
  rw [E.flat_take] at hv
  rw [List.getElem?_take] at hv
  split at hv
  · exact hv
  · cases hv
theorem Own.alloc (h : Own E e w base v xs) (o : Obj) : Own E e (w.alloc o) base v xs := World.ownsRow.alloc h o
theorem Own.drewN (h : Own E e w base v xs) (n : Nat) : Own E e (w.drewN n) base v xs := h
theorem Own.drew (h : Own E e w base v xs) : Own E e w.drew base v xs := h
theorem Own.grown {row : Option Nat} (h : Own E e w base v xs) (hg : w.grownBy w1 row) (hne : v.ownBlock = none ∨ v.ownBlock ≠ row) : Own E e w1 base v xs := World.ownsRow.kept h hg hne
theorem Own.below (h : Own E e w base v xs) (hb : Below w.heap.size w w1) : Own E e w1 base v xs := World.ownsRow.kept h (below_grown hb none) (by cases v.ownBlock <;> simp)
theorem Own.nil (E : Enc α) (e : TypeId) (w : World) (base : Nat) : Own E e w base (.slice none 0 0) [] := ⟨by simp [Enc.flat], .inl ⟨rfl, rfl⟩⟩
theorem Own.lower {base' : Nat} (h : Own E e w base v xs) (hb : base' ≤ base) : Own E e w base' v xs := by
  obtain ⟨h1, h2⟩ := h
  refine ⟨h1, ?_⟩
  rcases h2 with h2 | ⟨g, cap, cur, rfl, hg, r⟩
  · exact .inl h2
  · exact .inr ⟨g, cap, cur, rfl, by omega, r⟩
/-- What is owned, as a slice value, and as it is read. -/
theorem Own.rd (h : Own E e w base v xs) : ∃ A c, v = .slice A xs.length c ∧ xs.length ≤ c ∧ Rd E w A xs := by
  have hh := h
  obtain ⟨h1, h2⟩ := h
  rcases h2 with ⟨rfl, h0⟩ | ⟨g, cap, cur, rfl, hg, hh2, hn, hm, r⟩
  · exact ⟨none, 0, by rw [h0], by omega, by omega, fun hp => by omega⟩
  · exact ⟨_, cap, rfl, hn, by simp only [maxLen] at hm; omega, fun _ => ⟨_, rfl, World.ownsRow.cells hh rfl⟩⟩
theorem Own.le (h : Own E e w base v xs) : xs.length ≤ 9223372036854775807 := by
  obtain ⟨A, c, _, _, h⟩ := h.rd
  exact h.1
/-- A row that isn't empty, laid open. -/
theorem Own.open_ (h : Own E e w base v xs) (hn : 0 < xs.length) : ∃ g cap, v = .slice (some ⟨g, 0, none⟩) xs.length cap ∧ base ≤ g ∧ g < w.heap.size ∧ xs.length ≤ cap := by
  obtain ⟨h1, h2⟩ := h
  rcases h2 with ⟨rfl, h0⟩ | ⟨g, cap, cur, rfl, hg, hh2, hn', hm, r⟩
  · omega
  · exact ⟨g, cap, rfl, hg, (Array.getElem?_eq_some_iff.1 hh2).1, hn'⟩
theorem Own.block (h : Own E e w base v xs) : ∀ k, v.ownBlock = some k → base ≤ k ∧ k < w.heap.size := World.ownsRow.lt h
end

/-- A call that hands back a new row. -/
def Made (E : Enc α) (t : TypeId) (xs : List α) (w : World) (e : Ending) (w' : World) : Prop := ∃ v, e = .returned v ∧ Own E t w' w.heap.size v xs ∧ Below w.heap.size w w'
theorem ret_i {k : IntKind} {a b : Int} (h : a = b) : Ending.returned (.int k a) = .returned (.int k b) := by rw [h]
theorem ret_b {a b : Bool} (h : a = b) : Ending.returned (.bool a) = .returned (.bool b) := by rw [h]
theorem hid_of {p : Prop} (h : p) : Hid p := h
end Go.Proofs.Ytgcnklnhambpjaa
/- The structs of the document layer as lists of cells. -/
namespace Go.Proofs.Ytgcnklnhambpjaa
open Go.RowKit

/-- api.Message -/
structure Msg where
  mv : Int
  kd : Int
  nu : Int
  dy : Int
  fr : Int
  tt : Int
  al : Int
  deriving DecidableEq, Inhabited
def Msg.cells (x : Msg) : List Value := [.int .i64 x.mv, .int .i64 x.kd, .int .i64 x.nu, .int .i64 x.dy, .int .i64 x.fr, .int .i64 x.tt, .int .i64 x.al]
def EMsg : Enc Msg := ⟨Msg.cells, 7, fun _ => rfl, fun x v h => by simp only [Msg.cells, List.mem_cons, List.not_mem_nil, or_false] at h; rcases h with rfl | rfl | rfl | rfl | rfl | rfl | rfl <;> rfl, by decide⟩
/-- As a value. -/
@[reducible] def Msg.v (x : Msg) : Value := .agg #[.int .i64 x.mv, .int .i64 x.kd, .int .i64 x.nu, .int .i64 x.dy, .int .i64 x.fr, .int .i64 x.tt, .int .i64 x.al]
theorem Msg.k_eq : EMsg.k = 7 := rfl
theorem Msg.at_ {w : World} {A : Option Addr} {xs : List Msg} (h : Rd EMsg w A xs) (i : Nat) (hi : i < xs.length) : ∃ ad, A = some ad ∧ w.cell? (ad.add (i * 7)) = some (.int .i64 xs[i].mv) ∧ w.cell? ⟨(ad.add (i * 7)).block, (ad.add (i * 7)).off + 1, none⟩ = some (.int .i64 xs[i].kd) ∧ w.cell? ⟨(ad.add (i * 7)).block, (ad.add (i * 7)).off + 2, none⟩ = some (.int .i64 xs[i].nu) ∧ w.cell? ⟨(ad.add (i * 7)).block, (ad.add (i * 7)).off + 3, none⟩ = some (.int .i64 xs[i].dy) ∧ w.cell? ⟨(ad.add (i * 7)).block, (ad.add (i * 7)).off + 4, none⟩ = some (.int .i64 xs[i].fr) ∧ w.cell? ⟨(ad.add (i * 7)).block, (ad.add (i * 7)).off + 5, none⟩ = some (.int .i64 xs[i].tt) ∧ w.cell? ⟨(ad.add (i * 7)).block, (ad.add (i * 7)).off + 6, none⟩ = some (.int .i64 xs[i].al) := by
  obtain ⟨ad, ha, hc⟩ := h.at_ i hi
  have hc' : ∀ c v, (Msg.cells xs[i])[c]? = some v → w.cell? (ad.add (i * 7 + c)) = some v := hc
  have g : ∀ c v, c ≠ 0 → (Msg.cells xs[i])[c]? = some v → w.cell? ⟨(ad.add (i * 7)).block, (ad.add (i * 7)).off + c, none⟩ = some v := fun c v h0 hv => by
    rw [← addr_add_pos _ c h0, addr_add_add]
    exact hc' c v hv
  exact ⟨ad, ha, hc' 0 _ rfl, g 1 _ (by decide) rfl, g 2 _ (by decide) rfl, g 3 _ (by decide) rfl, g 4 _ (by decide) rfl, g 5 _ (by decide) rfl, g 6 _ (by decide) rfl⟩

/-- api.Document -/
structure Doc where
  mv : Int
  st : Int
  fr : Int
  tt : Int
  se : Int
  re : Int
  ch : Int
  deriving DecidableEq, Inhabited
def Doc.cells (x : Doc) : List Value := [.int .i64 x.mv, .int .i64 x.st, .int .i64 x.fr, .int .i64 x.tt, .int .i64 x.se, .int .i64 x.re, .int .i64 x.ch]
def EDoc : Enc Doc := ⟨Doc.cells, 7, fun _ => rfl, fun x v h => by simp only [Doc.cells, List.mem_cons, List.not_mem_nil, or_false] at h; rcases h with rfl | rfl | rfl | rfl | rfl | rfl | rfl <;> rfl, by decide⟩
/-- As a value. -/
@[reducible] def Doc.v (x : Doc) : Value := .agg #[.int .i64 x.mv, .int .i64 x.st, .int .i64 x.fr, .int .i64 x.tt, .int .i64 x.se, .int .i64 x.re, .int .i64 x.ch]
theorem Doc.k_eq : EDoc.k = 7 := rfl
theorem Doc.at_ {w : World} {A : Option Addr} {xs : List Doc} (h : Rd EDoc w A xs) (i : Nat) (hi : i < xs.length) : ∃ ad, A = some ad ∧ w.cell? (ad.add (i * 7)) = some (.int .i64 xs[i].mv) ∧ w.cell? ⟨(ad.add (i * 7)).block, (ad.add (i * 7)).off + 1, none⟩ = some (.int .i64 xs[i].st) ∧ w.cell? ⟨(ad.add (i * 7)).block, (ad.add (i * 7)).off + 2, none⟩ = some (.int .i64 xs[i].fr) ∧ w.cell? ⟨(ad.add (i * 7)).block, (ad.add (i * 7)).off + 3, none⟩ = some (.int .i64 xs[i].tt) ∧ w.cell? ⟨(ad.add (i * 7)).block, (ad.add (i * 7)).off + 4, none⟩ = some (.int .i64 xs[i].se) ∧ w.cell? ⟨(ad.add (i * 7)).block, (ad.add (i * 7)).off + 5, none⟩ = some (.int .i64 xs[i].re) ∧ w.cell? ⟨(ad.add (i * 7)).block, (ad.add (i * 7)).off + 6, none⟩ = some (.int .i64 xs[i].ch) := by
  obtain ⟨ad, ha, hc⟩ := h.at_ i hi
  have hc' : ∀ c v, (Doc.cells xs[i])[c]? = some v → w.cell? (ad.add (i * 7 + c)) = some v := hc
  have g : ∀ c v, c ≠ 0 → (Doc.cells xs[i])[c]? = some v → w.cell? ⟨(ad.add (i * 7)).block, (ad.add (i * 7)).off + c, none⟩ = some v := fun c v h0 hv => by
    rw [← addr_add_pos _ c h0, addr_add_add]
    exact hc' c v hv
  exact ⟨ad, ha, hc' 0 _ rfl, g 1 _ (by decide) rfl, g 2 _ (by decide) rfl, g 3 _ (by decide) rfl, g 4 _ (by decide) rfl, g 5 _ (by decide) rfl, g 6 _ (by decide) rfl⟩
end Go.Proofs.Ytgcnklnhambpjaa
/- slices.IndexFunc and slices.ContainsFunc over messages, whatever predicate they are handed that only makes memory. -/
namespace Go.Proofs.Ytgcnklnhambpjaa
open Go.RowKit

variable {α : Type}
def fidx (p : α → Bool) (xs : List α) : Int := match xs.findIdx? p with | some i => (i : Int) | none => -1
theorem fidx_hit (p : α → Bool) (xs : List α) (k : Nat) (hk : k < xs.length) (hp : p xs[k] = true) (hb : ∀ j (hj : j < k), p (xs[j]'(by omega)) = false) : fidx p xs = k := by
  unfold fidx
  rw [List.findIdx?_eq_some_iff_getElem.2 ⟨hk, hp, fun j hj => by simp [hb j hj]⟩]
theorem fidx_miss (p : α → Bool) (xs : List α) (hb : ∀ j (hj : j < xs.length), p xs[j] = false) : fidx p xs = -1 := by
  unfold fidx
  rw [List.findIdx?_eq_none_iff.2 (fun x hx => by obtain ⟨i, hi, rfl⟩ := List.getElem_of_mem hx; exact hb i hi)]
theorem fidx_any (p : α → Bool) (xs : List α) : decide (0 ≤ fidx p xs) = xs.any p := by
  unfold fidx
  cases h : xs.findIdx? p with
  | none =>
    have h' := List.findIdx?_eq_none_iff.1 h
    simp only [show ¬ (0 : Int) ≤ -1 by omega, decide_false]
    symm; rw [List.any_eq_false]; intro x hx; simp [h' x hx]
  | some i =>
    obtain ⟨hi, hp, _⟩ := List.findIdx?_eq_some_iff_getElem.1 h
    simp only [Int.natCast_nonneg, decide_true]
    symm; rw [List.any_eq_true]; exact ⟨_, List.getElem_mem hi, hp⟩

set_option maxHeartbeats 1000000 in
theorem indexFuncM (xs : List Msg) (p : Msg → Bool) (g : Nat) (cb : Array Value) (A : Option Addr) (c : Nat) (w : World) (hR : Rd EMsg w A xs)
    (eg : ∀ args w, (callFunc g args).run Try.prog w = .ok (.enter g args) w)
    (hp : ∀ (x : Msg) (W : World), Below w.heap.size w W → Calls Try.prog g (#[x.v] ++ cb) W fun e W' => e = .returned (.bool (p x)) ∧ Below W.heap.size W W') :
    Calls Try.prog 51 #[.slice A xs.length c, .func (.func g) #[] cb] w fun e w' => e = .returned (.int .i64 (fidx p xs)) ∧ Below w.heap.size w w' := by
  have hle := hR.le
  go_enter Try.func51, Try.ntmps51
  go_wp2
  go_loopg [5, 8] xs.length (fun gg _ s8 wr => ∃ k : Nat, k ≤ xs.length ∧ xs.length - k ≤ gg ∧ s8 = .int .i64 k ∧ Hid (Below w.heap.size w wr) ∧ Hid (∀ j (_ : j < k) (hj : j < xs.length), p xs[j] = false))
  case atStart => exact ⟨0, Nat.zero_le _, by omega, rfl, Below.refl _ _, fun j hj => absurd hj (Nat.not_lt_zero _)⟩
  case round =>
    obtain ⟨k, hk, hg, rfl, BW, HA⟩ := hrel
    by_cases hlt : k < xs.length
    · obtain ⟨ad, rfl, c0, c1, c2, c3, c4, c5, c6⟩ := Msg.at_ (hR.below BW.out) k hlt
      have hcall := hp xs[k] _ BW.out
      have HX : Hid (Rd EMsg w (some ad) xs) := hR
      clear hR hp
      generalize hy : xs[k] = y at *
      have HY : Hid (xs[k] = y) := hy
      clear hy
      cases hq : p y with
      | true =>
        rw [hq] at hcall
        go_wp2_with (go_at_fn g; refine hcall.mono ?_; rintro e w' ⟨rfl, hb'⟩)
        go_ret
        refine ⟨?_, below_then BW.out BW.out.size hb'⟩
        rw [fidx_hit p xs k hlt (by rw [HY.out]; exact hq) (fun j hj => HA.out j hj (by omega))]
        rfl
      | false =>
        rw [hq] at hcall
        go_wp2_with (go_at_fn g; refine hcall.mono ?_; rintro e w' ⟨rfl, hb'⟩)
        go_roundg (xs.length - (k + 1))
        case measure => omega
        case rel =>
          refine ⟨k + 1, by omega, by omega, by go_num, below_then BW.out BW.out.size hb', (show Hid _ from fun j hj hj' => ?_)⟩
          by_cases e : j = k
          · subst e
            rw [HY.out]; exact hq
          · exact HA.out j (by omega) hj'
    · have : k = xs.length := by omega
      subst this
      go_wp2
      go_ret
      refine ⟨?_, BW.out⟩
      rw [fidx_miss p xs (fun j hj => HA.out j hj hj)]
      rfl

set_option maxHeartbeats 1000000 in
theorem containsFuncM (xs : List Msg) (p : Msg → Bool) (g : Nat) (cb : Array Value) (A : Option Addr) (c : Nat) (w : World) (hR : Rd EMsg w A xs)
    (eg : ∀ args w, (callFunc g args).run Try.prog w = .ok (.enter g args) w)
    (hp : ∀ (x : Msg) (W : World), Below w.heap.size w W → Calls Try.prog g (#[x.v] ++ cb) W fun e W' => e = .returned (.bool (p x)) ∧ Below W.heap.size W W') :
    Calls Try.prog 37 #[.slice A xs.length c, .func (.func g) #[] cb] w fun e w' => e = .returned (.bool (xs.any p)) ∧ Below w.heap.size w w' := by
  rw [← fidx_any]
  have hcon := indexFuncM xs p g cb A c w hR eg hp
  clear hR hp eg
  generalize fidx p xs = r at hcon ⊢
  go_enter Try.func37, Try.ntmps37
  go_wp2_with (go_at_call 51; refine hcon.mono ?_; rintro e w' ⟨rfl, hb'⟩)
  go_ret
  exact ⟨rfl, hb'⟩
end Go.Proofs.Ytgcnklnhambpjaa
/- compare of messages, and cmp.Or, cmp.Compare at int. -/
namespace Go.Proofs.Ytgcnklnhambpjaa
open Go.RowKit

def cmpI (x y : Int) : Int := if x < y then -1 else if y < x then 1 else 0
set_option maxHeartbeats 1000000 in
theorem isNaN_any (n : Int) (w : World) : Calls Try.prog 71 #[.int .i64 n] w fun e w' => e = .returned (.bool false) ∧ w = w' := by
  go_enter Try.func71, Try.ntmps71
  go_wp2
  go_ret
  exact ⟨by simp, rfl⟩
set_option maxHeartbeats 1000000 in
theorem compareI_any (x y : Int) (w : World) : Calls Try.prog 58 #[.int .i64 x, .int .i64 y] w fun e w' => e = .returned (.int .i64 (cmpI x y)) ∧ w = w' := by
  go_enter Try.func58, Try.ntmps58
  go_wp2_with (go_at_call 71; refine (isNaN_any _ _).mono ?_; rintro e w' ⟨rfl, rfl⟩)
  all_goals (go_ret; refine ⟨ret_i ?_, rfl⟩; simp only [cmpI]; (repeat (first | rw [if_pos (by omega)] | rw [if_neg (by omega)])))

def EI : Enc Int := ⟨fun x => [.int .i64 x], 1, fun _ => rfl, fun x v h => by simp only [List.mem_cons, List.not_mem_nil, or_false] at h; rw [h]; rfl, by decide⟩
theorem I.at_ {w : World} {A : Option Addr} {xs : List Int} (h : Rd EI w A xs) (i : Nat) (hi : i < xs.length) : ∃ ad, A = some ad ∧ w.cell? (ad.add i) = some (.int .i64 xs[i]) := by
  obtain ⟨ad, ha, hc⟩ := h.at_ i hi
  exact ⟨ad, ha, by simpa [EI] using hc 0 _ rfl⟩
/-- The first that is not 0. -/
def orI (l : List Int) : Int := match l.find? (fun x => x != 0) with | some x => x | none => 0
theorem orI_hit (l : List Int) (k : Nat) (hk : k < l.length) (hp : l[k] ≠ 0) (hb : ∀ j (hj : j < k), l[j]'(by omega) = 0) : orI l = l[k] := by
  induction l generalizing k with
  | nil => simp at hk
  | cons x l ih =>
    unfold orI
    cases k with
    | zero => rw [List.find?_cons_of_pos (by simpa using hp)]; rfl
    | succ k =>
      have h0 : x = 0 := hb 0 (by omega)
      rw [List.find?_cons_of_neg (by simp [h0])]
      exact ih k (by simpa using hk) hp (fun j hj => hb (j + 1) (by omega))
theorem orI_miss (l : List Int) (hb : ∀ j (hj : j < l.length), l[j] = 0) : orI l = 0 := by
  unfold orI
  rw [List.find?_eq_none.2 (fun x hx => by obtain ⟨i, hi, rfl⟩ := List.getElem_of_mem hx; simp [hb i hi])]
set_option maxHeartbeats 1000000 in
theorem or_any (xs : List Int) (A : Option Addr) (c : Nat) (w : World) (hR : Rd EI w A xs) : Calls Try.prog 57 #[.slice A xs.length c] w fun e w' => e = .returned (.int .i64 (orI xs)) ∧ w = w' := by
  have hle := hR.le
  go_enter Try.func57, Try.ntmps57
  go_wp2
  go_loopg [5, 8] xs.length (fun gg _ s8 wr => ∃ k : Nat, k ≤ xs.length ∧ xs.length - k ≤ gg ∧ s8 = .int .i64 k ∧ w = wr ∧ Hid (∀ j (_ : j < k) (hj : j < xs.length), xs[j] = 0))
  case atStart => exact ⟨0, Nat.zero_le _, by omega, rfl, rfl, fun j hj => absurd hj (Nat.not_lt_zero _)⟩
  case round =>
    obtain ⟨k, hk, hg, rfl, rfl, HA⟩ := hrel
    by_cases hlt : k < xs.length
    · obtain ⟨ad, rfl, c0⟩ := I.at_ hR k hlt
      have HX : Hid (Rd EI w (some ad) xs) := hR
      clear hR
      generalize hy : xs[k] = y at *
      have HY : Hid (xs[k] = y) := hy
      clear hy
      by_cases h0 : y = 0
      · subst h0
        go_wp2
        go_roundg (xs.length - (k + 1))
        case measure => omega
        case rel =>
          refine ⟨k + 1, by omega, by omega, by go_num, rfl, (show Hid _ from fun j hj hj' => ?_)⟩
          by_cases e : j = k
          · subst e
            exact HY.out
          · exact HA.out j (by omega) hj'
      · have h1 : (y != 0) = true := by simpa using h0
        have H0 : Hid (y ≠ 0) := h0
        clear h0
        go_wp2
        go_ret
        refine ⟨?_, rfl⟩
        rw [orI_hit xs k hlt (by rw [HY.out]; exact H0.out) (fun j hj => HA.out j hj (by omega)), HY.out]
        rfl
    · have : k = xs.length := by omega
      subst this
      go_wp2
      go_ret
      refine ⟨?_, rfl⟩
      rw [orI_miss xs (fun j hj => HA.out j hj hj)]
      rfl
end Go.Proofs.Ytgcnklnhambpjaa
/- compare of messages. -/
namespace Go.Proofs.Ytgcnklnhambpjaa
open Go.RowKit
def cmpM (x y : Msg) : Int := orI [cmpI x.mv y.mv, cmpI x.kd y.kd, cmpI x.nu y.nu, cmpI x.dy y.dy, cmpI x.fr y.fr, cmpI x.tt y.tt, cmpI x.al y.al]
theorem EI_flat (xs : List Int) : EI.flat xs = xs.map (fun x => Value.int .i64 x) := by
  show xs.flatMap (fun x => [Value.int .i64 x]) = _
  induction xs with
  | nil => rfl
  | cons x xs ih => rw [List.flatMap_cons, ih]; rfl
theorem blk_reads {w : World} {b : Nat} {cs : Array Value} {t : TypeId} {fr : Nat × Nat} (h : w.heap[b]? = some (.cells cs t fr)) (j : Nat) : w.cell? ⟨b, j, none⟩ = cs[j]? := by
  simp [World.cell?, h]
theorem rd_lit (w : World) (xs : List Int) (cs : Array Value) (t : TypeId) (hcs : cs = (xs.map (fun x => Value.int .i64 x)).toArray) (hl : xs.length ≤ 9223372036854775807) : Rd EI (w.alloc (.cells cs t)) (some ⟨w.heap.size, 0, none⟩) xs := by
  refine ⟨hl, fun _ => ⟨_, rfl, fun j v hv => ?_⟩⟩
  rw [EI_flat] at hv
  rw [addr_plain, blk_reads (heap_alloc_new w _), hcs]
  simpa using hv
theorem cmp_world (w W1 : World) (o1 o2 o3 : Obj) (h : (w.alloc o1).alloc o2 = W1) : ∃ q os, (W1.alloc o3).drew = Sort.grow (w.drewN q) os := by
  subst h
  exact ⟨1, #[o1, o2, o3], by simp only [Sort.alloc_eq_grow, Sort.grow_grow]; rfl⟩
set_option maxHeartbeats 4000000 in
set_option maxRecDepth 100000 in
theorem compareM_any (x y : Msg) (w : World) : Calls Try.prog 40 #[x.v, y.v] w fun e w' => e = .returned (.int .i64 (cmpM x y)) ∧ ∃ q os, w' = Sort.grow (w.drewN q) os := by
  have e58 := fun a b W => compareI_any a b W
  go_enter Try.func40, Try.ntmps40
  go_wp2
  generalize hW : (w.alloc _).alloc _ = W1
  have b0 : W1.heap[w.heap.size]? = some (.cells x.cells.toArray 23 (0, 0)) := by rw [← hW]; exact (Below.heap_alloc _ _ _ (by simp)).trans (heap_alloc_new w _)
  have b1 : W1.heap[w.heap.size + 1]? = some (.cells y.cells.toArray 23 (0, 0)) := by
    rw [← hW]
    have h1 : (w.alloc (.cells x.cells.toArray 23)).heap.size = w.heap.size + 1 := by simp
    rw [← h1]
    exact heap_alloc_new _ _
  have hx0 : W1.drew.cell? ⟨w.heap.size, 0, none⟩ = some (.int .i64 x.mv) := (blk_reads (w := W1.drew) b0 0).trans rfl
  have hx1 : W1.drew.cell? ⟨w.heap.size, 1, none⟩ = some (.int .i64 x.kd) := (blk_reads (w := W1.drew) b0 1).trans rfl
  have hx2 : W1.drew.cell? ⟨w.heap.size, 2, none⟩ = some (.int .i64 x.nu) := (blk_reads (w := W1.drew) b0 2).trans rfl
  have hx3 : W1.drew.cell? ⟨w.heap.size, 3, none⟩ = some (.int .i64 x.dy) := (blk_reads (w := W1.drew) b0 3).trans rfl
  have hx4 : W1.drew.cell? ⟨w.heap.size, 4, none⟩ = some (.int .i64 x.fr) := (blk_reads (w := W1.drew) b0 4).trans rfl
  have hx5 : W1.drew.cell? ⟨w.heap.size, 5, none⟩ = some (.int .i64 x.tt) := (blk_reads (w := W1.drew) b0 5).trans rfl
  have hx6 : W1.drew.cell? ⟨w.heap.size, 6, none⟩ = some (.int .i64 x.al) := (blk_reads (w := W1.drew) b0 6).trans rfl
  have hy0 : W1.drew.cell? ⟨w.heap.size + 1, 0, none⟩ = some (.int .i64 y.mv) := (blk_reads (w := W1.drew) b1 0).trans rfl
  have hy1 : W1.drew.cell? ⟨w.heap.size + 1, 1, none⟩ = some (.int .i64 y.kd) := (blk_reads (w := W1.drew) b1 1).trans rfl
  have hy2 : W1.drew.cell? ⟨w.heap.size + 1, 2, none⟩ = some (.int .i64 y.nu) := (blk_reads (w := W1.drew) b1 2).trans rfl
  have hy3 : W1.drew.cell? ⟨w.heap.size + 1, 3, none⟩ = some (.int .i64 y.dy) := (blk_reads (w := W1.drew) b1 3).trans rfl
  have hy4 : W1.drew.cell? ⟨w.heap.size + 1, 4, none⟩ = some (.int .i64 y.fr) := (blk_reads (w := W1.drew) b1 4).trans rfl
  have hy5 : W1.drew.cell? ⟨w.heap.size + 1, 5, none⟩ = some (.int .i64 y.tt) := (blk_reads (w := W1.drew) b1 5).trans rfl
  have hy6 : W1.drew.cell? ⟨w.heap.size + 1, 6, none⟩ = some (.int .i64 y.al) := (blk_reads (w := W1.drew) b1 6).trans rfl
  have HW := hid_of hW
  clear hW b0 b1
  refine wp_region_still_tail 35 (by kernel_rfl) (by kernel_rfl) ?_
  simp only [List.take_succ_cons, List.take_zero, List.drop_succ_cons, List.drop_zero]
  repeat (first | still_step | still_call ((e58 _ _ _).mono fun _ _ h => ⟨h.1, h.2.symm⟩))
  refine wpStill_nil ?_
  clear hx0 hx1 hx2 hx3 hx4 hx5 hx6 hy0 hy1 hy2 hy3 hy4 hy5 hy6 e58
  go_wp2_with (go_at_call 57; (refine (or_any [cmpI x.mv y.mv, cmpI x.kd y.kd, cmpI x.nu y.nu, cmpI x.dy y.dy, cmpI x.fr y.fr, cmpI x.tt y.tt, cmpI x.al y.al] _ _ _ (rd_lit _ _ _ _ rfl (by simp)).drew).mono ?_; rintro e w' ⟨rfl, rfl⟩))
  go_ret
  exact ⟨ret_i rfl, cmp_world _ _ _ _ _ HW.out⟩
end Go.Proofs.Ytgcnklnhambpjaa
/- A row in one block that is written in place, and what slices.Compact leaves of a list. -/
namespace Go.Proofs.Ytgcnklnhambpjaa
open Go.RowKit
variable {α : Type}
/-- Block g is a row of room for cap elements; the first of them are xs. -/
def Row (E : Enc α) (t : TypeId) (w : World) (g cap : Nat) (xs : List α) : Prop :=
  ∃ cur, w.heap[g]? = some (.cells cur t (0, 0)) ∧ cur.size = cap * E.k ∧ cap ≤ maxLen ∧ xs.length ≤ cap ∧ cur.toList.take (xs.length * E.k) = E.flat xs
section
variable {E : Enc α} {t : TypeId} {w w1 : World} {base g cap : Nat} {xs : List α}
theorem Own.row {n : Nat} (h : Own E t w base (.slice (some ⟨g, 0, none⟩) n cap) xs) : Row E t w g cap xs ∧ base ≤ g ∧ n = xs.length := by
  obtain ⟨h1, h2⟩ := h
  rcases h2 with ⟨h0, _⟩ | ⟨g', cap', cur, h', hb, hg, hnc, hcm, hcs, htake⟩
  · cases h0
  · simp only [Value.slice.injEq, Option.some.injEq, Addr.mk.injEq, and_true] at h'
    obtain ⟨rfl, rfl, rfl⟩ := h'
    exact ⟨⟨cur, hg, hcs, hcm, hnc, htake⟩, hb, rfl⟩
theorem Row.own (h : Row E t w g cap xs) (hb : base ≤ g) : Own E t w base (.slice (some ⟨g, 0, none⟩) xs.length cap) xs := by
  obtain ⟨cur, hg, hcs, hcm, hnc, htake⟩ := h
  exact ⟨E.flat_length xs, .inr ⟨g, cap, cur, rfl, hb, hg, hnc, hcm, hcs, htake⟩⟩
theorem Row.lt (h : Row E t w g cap xs) : g < w.heap.size := by
  obtain ⟨cur, hg, _⟩ := h
  exact (Array.getElem?_eq_some_iff.1 hg).1
theorem Row.le (h : Row E t w g cap xs) : xs.length ≤ cap := by obtain ⟨cur, hg, hcs, hcm, hnc, htake⟩ := h; exact hnc
theorem Row.cap_le (h : Row E t w g cap xs) : cap ≤ 9223372036854775807 := by obtain ⟨cur, hg, hcs, hcm, hnc, htake⟩ := h; simp only [maxLen] at hcm; omega
theorem Row.drewN (h : Row E t w g cap xs) (n : Nat) : Row E t (w.drewN n) g cap xs := h
theorem Row.drew (h : Row E t w g cap xs) : Row E t w.drew g cap xs := h
theorem Row.rd (h : Row E t w g cap xs) : Rd E w (some ⟨g, 0, none⟩) xs := by
  have hb := h.lt
  obtain ⟨A, c, hv, _, hr⟩ := (h.own (Nat.zero_le g)).rd
  injection hv with hv
  subst hv
  exact hr
theorem Row.grown {row : Option Nat} (h : Row E t w g cap xs) (hg : w.grownBy w1 row) (hne : some g ≠ row) : Row E t w1 g cap xs := by
  have hlt := h.lt
  obtain ⟨cur, hc, r⟩ := h
  exact ⟨cur, (hg.block g hlt hne).trans hc, r⟩
theorem Row.below (h : Row E t w g cap xs) (hb : Below w.heap.size w w1) : Row E t w1 g cap xs := h.grown (below_grown hb none) (by simp)
theorem Row.frozen (h : Row E t w g cap xs) (j : Nat) : w.frozen? ⟨g, j, none⟩ = false := by
  obtain ⟨cur, hc, r⟩ := h
  simp [World.frozen?, hc]
/-- Any cell of the row is there. -/
theorem Row.cell (h : Row E t w g cap xs) (j : Nat) (hj : j < cap * E.k) : ∃ v, w.cell? ⟨g, j, none⟩ = some v := by
  obtain ⟨cur, hc, hs, r⟩ := h
  exact ⟨cur[j]'(by omega), by simp [World.cell?, hc, show j < cur.size by omega]⟩
theorem Row.take (h : Row E t w g cap xs) (m : Nat) : Row E t w g cap (xs.take m) := by
  obtain ⟨cur, hg, hcs, hcm, hnc, htake⟩ := h
  refine ⟨cur, hg, hcs, hcm, Nat.le_trans (by simp; omega) hnc, ?_⟩
  rw [E.flat_take, ← htake, List.take_take, List.length_take]
  congr 1
  rcases Nat.le_total m xs.length with hm | hm
  · rw [Nat.min_eq_left hm]
    exact (Nat.min_eq_left (Nat.mul_le_mul_right _ hm)).symm
  · rw [Nat.min_eq_right hm]
    exact (Nat.min_eq_right (Nat.mul_le_mul_right _ hm)).symm
end
theorem flat_set (E : Enc α) (xs : List α) (i : Nat) (hi : i < xs.length) (x : α) : E.flat (xs.set i x) = (E.flat xs).take (i * E.k) ++ E.enc x ++ (E.flat xs).drop (i * E.k + E.k) := by
  rw [List.set_eq_take_append_cons_drop, if_pos hi, E.flat_append, E.flat_cons, E.flat_take, E.flat_drop, Nat.add_mul, Nat.one_mul, List.append_assoc]
/-- Cells set one behind the other. -/
def setAll : List Value → Nat → List Value → List Value
  | l, _, [] => l
  | l, i, v :: vs => setAll (l.set i v) (i + 1) vs
theorem setAll_eq (vs : List Value) : ∀ (l : List Value) (i : Nat), i + vs.length ≤ l.length → setAll l i vs = l.take i ++ vs ++ l.drop (i + vs.length) := by
  induction vs with
  | nil => intro l i _; simp [setAll]
  | cons v vs ih =>
    intro l i h
    simp only [List.length_cons] at h
    rw [setAll, ih _ _ (by simp; omega)]
    have h1 : (l.set i v).take (i + 1) = l.take i ++ [v] := by
      rw [List.set_eq_take_append_cons_drop, if_pos (by omega), List.take_append, List.take_of_length_le (by simp; omega)]
      simp [Nat.min_eq_left (show i ≤ l.length by omega), show i + 1 - i = 1 by omega]
    have h2 : (l.set i v).drop (i + 1 + vs.length) = l.drop (i + (v :: vs).length) := by
      rw [List.drop_set_of_lt (by omega)]
      congr 1; simp; omega
    rw [h1, h2]; simp
/-- The world behind stores of cells one behind the other. -/
def setCellsAt (w : World) (g : Nat) : Nat → List Value → World
  | _, [] => w
  | i, v :: vs => setCellsAt (w.setCell ⟨g, i, none⟩ v) g (i + 1) vs
theorem setCellsAt_heap (vs : List Value) : ∀ (w : World) (g i : Nat) (cur : Array Value) (t : TypeId), w.heap[g]? = some (.cells cur t (0, 0)) →
    (setCellsAt w g i vs).heap[g]? = some (.cells (setAll cur.toList i vs).toArray t (0, 0)) ∧ w.grownBy (setCellsAt w g i vs) (some g) := by
  induction vs with
  | nil => intro w g i cur t h; exact ⟨by simpa [setCellsAt, setAll] using h, World.grownBy.refl _ _⟩
  | cons v vs ih =>
    intro w g i cur t h
    have h1 : (w.setCell ⟨g, i, none⟩ v).heap[g]? = some (.cells (cur.setIfInBounds i v) t (0, 0)) := heap_setCell_same w g i cur t v h
    obtain ⟨h2, h3⟩ := ih (w.setCell ⟨g, i, none⟩ v) g (i + 1) (cur.setIfInBounds i v) t h1
    refine ⟨by rw [setCellsAt, h2, setAll, Array.toList_setIfInBounds], World.grownBy.trans (b := w.setCell ⟨g, i, none⟩ v) ⟨rfl, rfl, rfl, by simp, fun k _ hk => heap_setCell_other w ⟨g, i, none⟩ k v (fun e => hk (by simp [e]))⟩ h3⟩
/-- An element of the row written, cell by cell. -/
theorem Row.set {E : Enc α} {t : TypeId} {w : World} {g cap : Nat} {xs : List α} (h : Row E t w g cap xs) (i : Nat) (hi : i < xs.length) (x : α) :
    Row E t (setCellsAt w g (i * E.k) (E.enc x)) g cap (xs.set i x) ∧ w.grownBy (setCellsAt w g (i * E.k) (E.enc x)) (some g) := by
  obtain ⟨cur, hg, hcs, hcm, hnc, htake⟩ := h
  obtain ⟨h1, h2⟩ := setCellsAt_heap (E.enc x) w g (i * E.k) cur t hg
  have hb : i * E.k + E.k ≤ xs.length * E.k := by have := Nat.mul_le_mul_right E.k (show i + 1 ≤ xs.length from hi); rwa [Nat.add_mul, Nat.one_mul] at this
  have hb2 : xs.length * E.k ≤ cap * E.k := Nat.mul_le_mul_right _ hnc
  have hs : setAll cur.toList (i * E.k) (E.enc x) = cur.toList.take (i * E.k) ++ E.enc x ++ cur.toList.drop (i * E.k + E.k) := by
    rw [setAll_eq _ _ _ (by rw [E.len, Array.length_toList]; omega), E.len]
  refine ⟨⟨_, h1, ?_, hcm, by simpa using hnc, ?_⟩, h2⟩
  · rw [hs]; simp [E.len]; omega
  · rw [hs, flat_set E xs i hi x, ← htake, List.length_set]
    simp only [List.take_append, List.length_append, List.length_take, Array.length_toList, E.len]
    rw [List.take_take, Nat.min_eq_right (by omega : i * E.k ≤ xs.length * E.k), List.take_take, Nat.min_eq_left (by omega : i * E.k ≤ xs.length * E.k), Nat.min_eq_left (by omega : i * E.k ≤ cur.size), List.take_of_length_le (l := E.enc x) (by rw [E.len]; omega), List.drop_take]
/-- Cells of the row written at place o on. -/
theorem Row.setRow {E : Enc α} {t : TypeId} {w : World} {g cap : Nat} {xs : List α} (h : Row E t w g cap xs) (m : Nat) (vs : List Value) (hm : m * E.k + vs.length ≤ cap * E.k) (h1 : ∀ v ∈ vs, v.oneCell' = true) (P : Program) :
    ∃ w', (storeCells ⟨g, m * E.k, none⟩ vs 0).run P w = .ok () w' ∧ Row E t w' g cap (xs.take m) ∧ w.grownBy w' (some g) ∧ ∃ cur cur', w.heap[g]? = some (.cells cur t (0, 0)) ∧ w'.heap[g]? = some (.cells cur' t (0, 0)) ∧ cur.size = cap * E.k ∧ cur'.toList = cur.toList.take (m * E.k) ++ vs ++ cur.toList.drop (m * E.k + vs.length) := by
  have ht := h.take m
  obtain ⟨cur, hg, hcs, hcm, hnc, htake⟩ := ht
  have hr := run_storeCells_at (P := P) g (m * E.k) t vs 0 cur w hg (by omega) h1
  simp only [Nat.add_zero] at hr
  refine ⟨_, hr, ⟨_, setRow_heap w g cur _ t _ hg, ?_, hcm, hnc, ?_⟩, ⟨rfl, rfl, rfl, ?_, ?_⟩, cur, _, hg, setRow_heap w g cur _ t _ hg, hcs, by simp⟩
  · simp; omega
  · have hle : (xs.take m).length * E.k ≤ m * E.k := Nat.mul_le_mul_right _ (by simp; omega)
    rw [← htake]
    simp only [List.append_assoc]
    have hl2 : (cur.toList.take (m * E.k)).length = m * E.k := by rw [List.length_take, Array.length_toList]; omega
    rw [List.take_append_of_le_length (by rw [hl2]; exact hle), List.take_take, Nat.min_eq_left hle]
  · simp [World.setRow]
  · intro k hk hne
    simp only [World.setRow]
    rw [Array.getElem?_modify, if_neg (fun e => hne (by rw [e]))]
/-- clear(s[m:]) leaves the first m. -/
theorem Row.clear {E : Enc α} {t : TypeId} {w : World} {g cap : Nat} {xs : List α} (h : Row E t w g cap xs) (m n c : Nat) {P : Program} {T : TypeId} {z : Value} (hT : P.underlying T = some (.slice t)) (hv : ∀ w, (zeroValue t).run P w = .ok z w) (hz : z.cells.size = E.k) (hz1 : ∀ v ∈ z.cells, v.oneCell' = true) (hn : 0 < n) (hm : m + n ≤ cap) :
    ∃ w', (∀ ty, (Builtin.clear_ #[T] ty #[.slice (some ⟨g, m * E.k, none⟩) n c]).run P w = .ok (.tuple #[]) w') ∧ Row E t w' g cap (xs.take m) ∧ w.grownBy w' (some g) := by
  have hlen : (Builtin.zeroCells z.cells n).toList.length = n * E.k := by simp [Builtin.zeroCells, hz]
  have hb : m * E.k + n * E.k ≤ cap * E.k := by rw [← Nat.add_mul]; exact Nat.mul_le_mul_right _ hm
  have h1 : ∀ v ∈ (Builtin.zeroCells z.cells n).toList, v.oneCell' = true := by
    intro v hv'
    simp only [Builtin.zeroCells, Array.toList_map, List.mem_map, Array.mem_toList_iff, Array.mem_range] at hv'
    obtain ⟨i, _, rfl⟩ := hv'
    have hi : i % z.cells.size < z.cells.size := Nat.mod_lt _ (by rw [hz]; exact E.pos)
    rw [getElem!_pos z.cells (i % z.cells.size) hi]
    exact hz1 _ (Array.getElem_mem hi)
  obtain ⟨w', hr, hrow, hg, _⟩ := h.setRow m (Builtin.zeroCells z.cells n).toList (by rw [hlen]; exact hb) h1 P
  refine ⟨w', fun ty => ?_, hrow, hg⟩
  obtain ⟨q, rfl⟩ : ∃ q, n = q + 1 := ⟨n - 1, by omega⟩
  simp [Builtin.clear_, run_underlying hT, hv, hr]
end Go.Proofs.Ytgcnklnhambpjaa
