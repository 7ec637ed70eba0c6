/- A row in one block that is written in place, and what slices.Compact leaves of a list. -/
import Derived.Test.YtgcnklnhambpjaaB
import Derived.Laws.CopyRow
import Derived.Lib.SliceRun
namespace Go.Proofs.Ytgcnklnhambpjaa
open Go.RowKit
variable {α : Type}
/-- Block g is a row of room for cap elements; the first of them are xs. -/
def Row (E : Enc α) (t : TypeId) (w : World) (g cap : Nat) (xs : List α) : Prop :=
  ∃ cur, w.heap[g]? = some (.cells cur t (0, 0)) ∧ cur.size = cap * E.k ∧ cap ≤ maxLen ∧ xs.length ≤ cap ∧ cur.toList.take (xs.length * E.k) = E.flat xs
section
variable {E : Enc α} {t : TypeId} {w w1 : World} {base g cap : Nat} {xs : List α}
theorem Own.row {n : Nat} (h : Own E t w base (.slice (some ⟨g, 0, none⟩) n cap) xs) : Row E t w g cap xs ∧ base ≤ g ∧ n = xs.length := by
  obtain ⟨h1, h2⟩ := h
  rcases h2 with ⟨h0, _⟩ | ⟨g', cap', cur, h', hb, hg, hnc, hcm, hcs, htake⟩
  · cases h0
  · simp only [Value.slice.injEq, Option.some.injEq, Addr.mk.injEq, and_true] at h'
    obtain ⟨rfl, rfl, rfl⟩ := h'
    exact ⟨⟨cur, hg, hcs, hcm, hnc, htake⟩, hb, rfl⟩
theorem Row.own (h : Row E t w g cap xs) (hb : base ≤ g) : Own E t w base (.slice (some ⟨g, 0, none⟩) xs.length cap) xs := by
  obtain ⟨cur, hg, hcs, hcm, hnc, htake⟩ := h
  exact ⟨E.flat_length xs, .inr ⟨g, cap, cur, rfl, hb, hg, hnc, hcm, hcs, htake⟩⟩
theorem Row.lt (h : Row E t w g cap xs) : g < w.heap.size := by
  obtain ⟨cur, hg, _⟩ := h
  exact (Array.getElem?_eq_some_iff.1 hg).1
theorem Row.le (h : Row E t w g cap xs) : xs.length ≤ cap := by obtain ⟨cur, hg, hcs, hcm, hnc, htake⟩ := h; exact hnc
theorem Row.cap_le (h : Row E t w g cap xs) : cap ≤ 9223372036854775807 := by obtain ⟨cur, hg, hcs, hcm, hnc, htake⟩ := h; simp only [maxLen] at hcm; omega
theorem Row.drewN (h : Row E t w g cap xs) (n : Nat) : Row E t (w.drewN n) g cap xs := h
theorem Row.drew (h : Row E t w g cap xs) : Row E t w.drew g cap xs := h
theorem Row.rd (h : Row E t w g cap xs) : Rd E w (some ⟨g, 0, none⟩) xs := by
  have hb := h.lt
  obtain ⟨A, c, hv, _, hr⟩ := (h.own (Nat.zero_le g)).rd
  injection hv with hv
  subst hv
  exact hr
theorem Row.grown {row : Option Nat} (h : Row E t w g cap xs) (hg : w.grownBy w1 row) (hne : some g ≠ row) : Row E t w1 g cap xs := by
  have hlt := h.lt
  obtain ⟨cur, hc, r⟩ := h
  exact ⟨cur, (hg.block g hlt hne).trans hc, r⟩
theorem Row.below (h : Row E t w g cap xs) (hb : Below w.heap.size w w1) : Row E t w1 g cap xs := h.grown (below_grown hb none) (by simp)
theorem Row.frozen (h : Row E t w g cap xs) (j : Nat) : w.frozen? ⟨g, j, none⟩ = false := by
  obtain ⟨cur, hc, r⟩ := h
  simp [World.frozen?, hc]
/-- Any cell of the row is there. -/
theorem Row.cell (h : Row E t w g cap xs) (j : Nat) (hj : j < cap * E.k) : ∃ v, w.cell? ⟨g, j, none⟩ = some v := by
  obtain ⟨cur, hc, hs, r⟩ := h
  exact ⟨cur[j]'(by omega), by simp [World.cell?, hc, show j < cur.size by omega]⟩
theorem Row.take (h : Row E t w g cap xs) (m : Nat) : Row E t w g cap (xs.take m) := by
  obtain ⟨cur, hg, hcs, hcm, hnc, htake⟩ := h
  refine ⟨cur, hg, hcs, hcm, Nat.le_trans (by simp; omega) hnc, ?_⟩
  rw [E.flat_take, ← htake, List.take_take, List.length_take]
  congr 1
  rcases Nat.le_total m xs.length with hm | hm
  · rw [Nat.min_eq_left hm]
    exact (Nat.min_eq_left (Nat.mul_le_mul_right _ hm)).symm
  · rw [Nat.min_eq_right hm]
    exact (Nat.min_eq_right (Nat.mul_le_mul_right _ hm)).symm
end
theorem flat_set (E : Enc α) (xs : List α) (i : Nat) (hi : i < xs.length) (x : α) : E.flat (xs.set i x) = (E.flat xs).take (i * E.k) ++ E.enc x ++ (E.flat xs).drop (i * E.k + E.k) := by
  rw [List.set_eq_take_append_cons_drop, if_pos hi, E.flat_append, E.flat_cons, E.flat_take, E.flat_drop, Nat.add_mul, Nat.one_mul, List.append_assoc]
/-- Cells set one behind the other. -/
def setAll : List Value → Nat → List Value → List Value
  | l, _, [] => l
  | l, i, v :: vs => setAll (l.set i v) (i + 1) vs
theorem setAll_eq (vs : List Value) : ∀ (l : List Value) (i : Nat), i + vs.length ≤ l.length → setAll l i vs = l.take i ++ vs ++ l.drop (i + vs.length) := by
  induction vs with
  | nil => intro l i _; simp [setAll]
  | cons v vs ih =>
    intro l i h
    simp only [List.length_cons] at h
    rw [setAll, ih _ _ (by simp; omega)]
    have h1 : (l.set i v).take (i + 1) = l.take i ++ [v] := by
      rw [List.set_eq_take_append_cons_drop, if_pos (by omega), List.take_append, List.take_of_length_le (by simp; omega)]
      simp [Nat.min_eq_left (show i ≤ l.length by omega), show i + 1 - i = 1 by omega]
    have h2 : (l.set i v).drop (i + 1 + vs.length) = l.drop (i + (v :: vs).length) := by
      rw [List.drop_set_of_lt (by omega)]
      congr 1; simp; omega
    rw [h1, h2]; simp
/-- The world behind stores of cells one behind the other. -/
def setCellsAt (w : World) (g : Nat) : Nat → List Value → World
  | _, [] => w
  | i, v :: vs => setCellsAt (w.setCell ⟨g, i, none⟩ v) g (i + 1) vs
theorem setCellsAt_heap (vs : List Value) : ∀ (w : World) (g i : Nat) (cur : Array Value) (t : TypeId), w.heap[g]? = some (.cells cur t (0, 0)) →
    (setCellsAt w g i vs).heap[g]? = some (.cells (setAll cur.toList i vs).toArray t (0, 0)) ∧ w.grownBy (setCellsAt w g i vs) (some g) := by
  induction vs with
  | nil => intro w g i cur t h; exact ⟨by simpa [setCellsAt, setAll] using h, World.grownBy.refl _ _⟩
  | cons v vs ih =>
    intro w g i cur t h
    have h1 : (w.setCell ⟨g, i, none⟩ v).heap[g]? = some (.cells (cur.setIfInBounds i v) t (0, 0)) := heap_setCell_same w g i cur t v h
    obtain ⟨h2, h3⟩ := ih (w.setCell ⟨g, i, none⟩ v) g (i + 1) (cur.setIfInBounds i v) t h1
    refine ⟨by rw [setCellsAt, h2, setAll, Array.toList_setIfInBounds], World.grownBy.trans (b := w.setCell ⟨g, i, none⟩ v) ⟨rfl, rfl, rfl, by simp, fun k _ hk => heap_setCell_other w ⟨g, i, none⟩ k v (fun e => hk (by simp [e]))⟩ h3⟩
/-- An element of the row written, cell by cell. -/
theorem Row.set {E : Enc α} {t : TypeId} {w : World} {g cap : Nat} {xs : List α} (h : Row E t w g cap xs) (i : Nat) (hi : i < xs.length) (x : α) :
    Row E t (setCellsAt w g (i * E.k) (E.enc x)) g cap (xs.set i x) ∧ w.grownBy (setCellsAt w g (i * E.k) (E.enc x)) (some g) := by
  obtain ⟨cur, hg, hcs, hcm, hnc, htake⟩ := h
  obtain ⟨h1, h2⟩ := setCellsAt_heap (E.enc x) w g (i * E.k) cur t hg
  have hb : i * E.k + E.k ≤ xs.length * E.k := by have := Nat.mul_le_mul_right E.k (show i + 1 ≤ xs.length from hi); rwa [Nat.add_mul, Nat.one_mul] at this
  have hb2 : xs.length * E.k ≤ cap * E.k := Nat.mul_le_mul_right _ hnc
  have hs : setAll cur.toList (i * E.k) (E.enc x) = cur.toList.take (i * E.k) ++ E.enc x ++ cur.toList.drop (i * E.k + E.k) := by
    rw [setAll_eq _ _ _ (by rw [E.len, Array.length_toList]; omega), E.len]
  refine ⟨⟨_, h1, ?_, hcm, by simpa using hnc, ?_⟩, h2⟩
  · rw [hs]; simp [E.len]; omega
  · rw [hs, flat_set E xs i hi x, ← htake, List.length_set]
    simp only [List.take_append, List.length_append, List.length_take, Array.length_toList, E.len]
    rw [List.take_take, Nat.min_eq_right (by omega : i * E.k ≤ xs.length * E.k), List.take_take, Nat.min_eq_left (by omega : i * E.k ≤ xs.length * E.k), Nat.min_eq_left (by omega : i * E.k ≤ cur.size), List.take_of_length_le (l := E.enc x) (by rw [E.len]; omega), List.drop_take]
/-- Cells of the row written at place o on. -/
theorem Row.setRow {E : Enc α} {t : TypeId} {w : World} {g cap : Nat} {xs : List α} (h : Row E t w g cap xs) (m : Nat) (vs : List Value) (hm : m * E.k + vs.length ≤ cap * E.k) (h1 : ∀ v ∈ vs, v.oneCell' = true) (P : Program) :
    ∃ w', (storeCells ⟨g, m * E.k, none⟩ vs 0).run P w = .ok () w' ∧ Row E t w' g cap (xs.take m) ∧ w.grownBy w' (some g) ∧ ∃ cur cur', w.heap[g]? = some (.cells cur t (0, 0)) ∧ w'.heap[g]? = some (.cells cur' t (0, 0)) ∧ cur.size = cap * E.k ∧ cur'.toList = cur.toList.take (m * E.k) ++ vs ++ cur.toList.drop (m * E.k + vs.length) := by
  have ht := h.take m
  obtain ⟨cur, hg, hcs, hcm, hnc, htake⟩ := ht
  have hr := run_storeCells_at (P := P) g (m * E.k) t vs 0 cur w hg (by omega) h1
  simp only [Nat.add_zero] at hr
  refine ⟨_, hr, ⟨_, setRow_heap w g cur _ t _ hg, ?_, hcm, hnc, ?_⟩, ⟨rfl, rfl, rfl, ?_, ?_⟩, cur, _, hg, setRow_heap w g cur _ t _ hg, hcs, by simp⟩
  · simp; omega
  · have hle : (xs.take m).length * E.k ≤ m * E.k := Nat.mul_le_mul_right _ (by simp; omega)
    rw [← htake]
    simp only [List.append_assoc]
    have hl2 : (cur.toList.take (m * E.k)).length = m * E.k := by rw [List.length_take, Array.length_toList]; omega
    rw [List.take_append_of_le_length (by rw [hl2]; exact hle), List.take_take, Nat.min_eq_left hle]
  · simp [World.setRow]
  · intro k hk hne
    simp only [World.setRow]
    rw [Array.getElem?_modify, if_neg (fun e => hne (by rw [e]))]
/-- clear(s[m:]) leaves the first m. -/
theorem Row.clear {E : Enc α} {t : TypeId} {w : World} {g cap : Nat} {xs : List α} (h : Row E t w g cap xs) (m n c : Nat) {P : Program} {T : TypeId} {z : Value} (hT : P.underlying T = some (.slice t)) (hv : ∀ w, (zeroValue t).run P w = .ok z w) (hz : z.cells.size = E.k) (hz1 : ∀ v ∈ z.cells, v.oneCell' = true) (hn : 0 < n) (hm : m + n ≤ cap) :
    ∃ w', (∀ ty, (Builtin.clear_ #[T] ty #[.slice (some ⟨g, m * E.k, none⟩) n c]).run P w = .ok (.tuple #[]) w') ∧ Row E t w' g cap (xs.take m) ∧ w.grownBy w' (some g) := by
  have hlen : (Builtin.zeroCells z.cells n).toList.length = n * E.k := by simp [Builtin.zeroCells, hz]
  have hb : m * E.k + n * E.k ≤ cap * E.k := by rw [← Nat.add_mul]; exact Nat.mul_le_mul_right _ hm
  have h1 : ∀ v ∈ (Builtin.zeroCells z.cells n).toList, v.oneCell' = true := by
    intro v hv'
    simp only [Builtin.zeroCells, Array.toList_map, List.mem_map, Array.mem_toList_iff, Array.mem_range] at hv'
    obtain ⟨i, _, rfl⟩ := hv'
    have hi : i % z.cells.size < z.cells.size := Nat.mod_lt _ (by rw [hz]; exact E.pos)
    rw [getElem!_pos z.cells (i % z.cells.size) hi]
    exact hz1 _ (Array.getElem_mem hi)
  obtain ⟨w', hr, hrow, hg, _⟩ := h.setRow m (Builtin.zeroCells z.cells n).toList (by rw [hlen]; exact hb) h1 P
  refine ⟨w', fun ty => ?_, hrow, hg⟩
  obtain ⟨q, rfl⟩ : ∃ q, n = q + 1 := ⟨n - 1, by omega⟩
  simp [Builtin.clear_, run_underlying hT, hv, hr]
end Go.Proofs.Ytgcnklnhambpjaa
