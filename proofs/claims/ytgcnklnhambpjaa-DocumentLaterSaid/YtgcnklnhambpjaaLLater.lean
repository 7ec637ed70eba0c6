/- DocumentLater returns true. -/
import Derived.Test.YtgcnklnhambpjaaAwake
import Derived.Test.YtgcnklnhambpjaaRLat
import Derived.Deep.RegionHeld3
namespace Go.Proofs.Ytgcnklnhambpjaa
open Go.RowKit
theorem below_next {w w1 w2 : World} (h : Below w.heap.size w w1) (k : Below w1.heap.size w1 w2) : Below w.heap.size w w2 := below_then h h.size k
theorem keepS {w W W' : World} {a0 a1 a2 a3 a4 a5 a6 b0 b1 b2 b3 b4 b5 b6 : Int} (h : Below w.heap.size w W ∧ W.cell? ⟨w.heap.size, 0, none⟩ = some (.int .i64 a0) ∧ W.cell? ⟨w.heap.size, 1, none⟩ = some (.int .i64 a1) ∧ W.cell? ⟨w.heap.size, 2, none⟩ = some (.int .i64 a2) ∧ W.cell? ⟨w.heap.size, 3, none⟩ = some (.int .i64 a3) ∧ W.cell? ⟨w.heap.size, 4, none⟩ = some (.int .i64 a4) ∧ W.cell? ⟨w.heap.size, 5, none⟩ = some (.int .i64 a5) ∧ W.cell? ⟨w.heap.size, 6, none⟩ = some (.int .i64 a6) ∧ W.cell? ⟨w.heap.size + 1, 0, none⟩ = some (.int .i64 b0) ∧ W.cell? ⟨w.heap.size + 1, 1, none⟩ = some (.int .i64 b1) ∧ W.cell? ⟨w.heap.size + 1, 2, none⟩ = some (.int .i64 b2) ∧ W.cell? ⟨w.heap.size + 1, 3, none⟩ = some (.int .i64 b3) ∧ W.cell? ⟨w.heap.size + 1, 4, none⟩ = some (.int .i64 b4) ∧ W.cell? ⟨w.heap.size + 1, 5, none⟩ = some (.int .i64 b5) ∧ W.cell? ⟨w.heap.size + 1, 6, none⟩ = some (.int .i64 b6)) (k : Below W.heap.size W W') : Below w.heap.size w W' ∧ W'.cell? ⟨w.heap.size, 0, none⟩ = some (.int .i64 a0) ∧ W'.cell? ⟨w.heap.size, 1, none⟩ = some (.int .i64 a1) ∧ W'.cell? ⟨w.heap.size, 2, none⟩ = some (.int .i64 a2) ∧ W'.cell? ⟨w.heap.size, 3, none⟩ = some (.int .i64 a3) ∧ W'.cell? ⟨w.heap.size, 4, none⟩ = some (.int .i64 a4) ∧ W'.cell? ⟨w.heap.size, 5, none⟩ = some (.int .i64 a5) ∧ W'.cell? ⟨w.heap.size, 6, none⟩ = some (.int .i64 a6) ∧ W'.cell? ⟨w.heap.size + 1, 0, none⟩ = some (.int .i64 b0) ∧ W'.cell? ⟨w.heap.size + 1, 1, none⟩ = some (.int .i64 b1) ∧ W'.cell? ⟨w.heap.size + 1, 2, none⟩ = some (.int .i64 b2) ∧ W'.cell? ⟨w.heap.size + 1, 3, none⟩ = some (.int .i64 b3) ∧ W'.cell? ⟨w.heap.size + 1, 4, none⟩ = some (.int .i64 b4) ∧ W'.cell? ⟨w.heap.size + 1, 5, none⟩ = some (.int .i64 b5) ∧ W'.cell? ⟨w.heap.size + 1, 6, none⟩ = some (.int .i64 b6) := by
  obtain ⟨h0, h1, h2, h3, h4, h5, h6, h7, h8, h9, h10, h11, h12, h13, h14⟩ := h
  exact ⟨below_next h0 k, cell_below k h1, cell_below k h2, cell_below k h3, cell_below k h4, cell_below k h5, cell_below k h6, cell_below k h7, cell_below k h8, cell_below k h9, cell_below k h10, cell_below k h11, cell_below k h12, cell_below k h13, cell_below k h14⟩
theorem laterB_refl (a : Doc) : laterB a a = true := by simp [laterB]
set_option maxHeartbeats 8000000 in
set_option maxRecDepth 100000 in
theorem llater_any (a b : Doc) (w : World) : Calls Try.prog 5 #[a.v, b.v] w (LatPost true w) := by
  have h1 := fun W => later_any a b W
  have h2 := fun W => rlater_any a b W
  have h3 := fun W => later_any a a W
  rw [laterB_refl] at h3
  generalize laterB a b = r at h1 h2
  unfold LatPost at *
  obtain ⟨a0, a1, a2, a3, a4, a5, a6⟩ := a
  obtain ⟨b0, b1, b2, b3, b4, b5, b6⟩ := b
  dsimp only [Doc.v] at h1 h2 h3
  have hrr : r = false ∨ r = true := by cases r <;> simp
  rcases hrr with rfl | rfl
  all_goals (
    go_enter Try.func5, Try.ntmps5
    go_wp2_with fail
    refine (awake_any _).mono ?_
    rintro e w1 ⟨rfl, hb⟩
    have hA : w1.heap[w.heap.size]? = some (.cells #[.int .i64 a0, .int .i64 a1, .int .i64 a2, .int .i64 a3, .int .i64 a4, .int .i64 a5, .int .i64 a6] 35 (0, 0)) := (hb.block _ (by simp; omega)).trans (blkA (blkN w _))
    have hB : w1.heap[w.heap.size + 1]? = some (.cells #[.int .i64 b0, .int .i64 b1, .int .i64 b2, .int .i64 b3, .int .i64 b4, .int .i64 b5, .int .i64 b6] 35 (0, 0)) := by
      refine (hb.block _ (by simp)).trans ?_
      rw [← World.size_alloc w (.cells #[.int .i64 a0, .int .i64 a1, .int .i64 a2, .int .i64 a3, .int .i64 a4, .int .i64 a5, .int .i64 a6] 35)]
      exact blkN _ _
    have hbw : Below w.heap.size w w1 := below_then (((Below.refl _ _).alloc (Nat.le_refl _) _).alloc (by simp) _) (by simp; omega) hb
    have p0 := (blk_cell hA 0).trans (show _ = some (.int .i64 a0) from rfl)
    have p1 := (blk_cell hA 1).trans (show _ = some (.int .i64 a1) from rfl)
    have p2 := (blk_cell hA 2).trans (show _ = some (.int .i64 a2) from rfl)
    have p3 := (blk_cell hA 3).trans (show _ = some (.int .i64 a3) from rfl)
    have p4 := (blk_cell hA 4).trans (show _ = some (.int .i64 a4) from rfl)
    have p5 := (blk_cell hA 5).trans (show _ = some (.int .i64 a5) from rfl)
    have p6 := (blk_cell hA 6).trans (show _ = some (.int .i64 a6) from rfl)
    have q0 := (blk_cell hB 0).trans (show _ = some (.int .i64 b0) from rfl)
    have q1 := (blk_cell hB 1).trans (show _ = some (.int .i64 b1) from rfl)
    have q2 := (blk_cell hB 2).trans (show _ = some (.int .i64 b2) from rfl)
    have q3 := (blk_cell hB 3).trans (show _ = some (.int .i64 b3) from rfl)
    have q4 := (blk_cell hB 4).trans (show _ = some (.int .i64 b4) from rfl)
    have q5 := (blk_cell hB 5).trans (show _ = some (.int .i64 b5) from rfl)
    have q6 := (blk_cell hB 6).trans (show _ = some (.int .i64 b6) from rfl)
    have HS0 := hid_of (show _ ∧ _ ∧ _ ∧ _ ∧ _ ∧ _ ∧ _ ∧ _ ∧ _ ∧ _ ∧ _ ∧ _ ∧ _ ∧ _ ∧ _ from ⟨(below_drewN hbw 1 : Below w.heap.size w w1.drew), (p0 : w1.drew.cell? _ = _), (p1 : w1.drew.cell? _ = _), (p2 : w1.drew.cell? _ = _), (p3 : w1.drew.cell? _ = _), (p4 : w1.drew.cell? _ = _), (p5 : w1.drew.cell? _ = _), (p6 : w1.drew.cell? _ = _), (q0 : w1.drew.cell? _ = _), (q1 : w1.drew.cell? _ = _), (q2 : w1.drew.cell? _ = _), (q3 : w1.drew.cell? _ = _), (q4 : w1.drew.cell? _ = _), (q5 : w1.drew.cell? _ = _), (q6 : w1.drew.cell? _ = _)⟩)
    clear hA hB hb hbw p0 p1 p2 p3 p4 p5 p6 q0 q1 q2 q3 q4 q5 q6
    go_wp2_with fail
    go_region_held3 (fun w' => Below w.heap.size w w' ∧ w'.cell? ⟨w.heap.size, 0, none⟩ = some (.int .i64 a0) ∧ w'.cell? ⟨w.heap.size, 1, none⟩ = some (.int .i64 a1) ∧ w'.cell? ⟨w.heap.size, 2, none⟩ = some (.int .i64 a2) ∧ w'.cell? ⟨w.heap.size, 3, none⟩ = some (.int .i64 a3) ∧ w'.cell? ⟨w.heap.size, 4, none⟩ = some (.int .i64 a4) ∧ w'.cell? ⟨w.heap.size, 5, none⟩ = some (.int .i64 a5) ∧ w'.cell? ⟨w.heap.size, 6, none⟩ = some (.int .i64 a6) ∧ w'.cell? ⟨w.heap.size + 1, 0, none⟩ = some (.int .i64 b0) ∧ w'.cell? ⟨w.heap.size + 1, 1, none⟩ = some (.int .i64 b1) ∧ w'.cell? ⟨w.heap.size + 1, 2, none⟩ = some (.int .i64 b2) ∧ w'.cell? ⟨w.heap.size + 1, 3, none⟩ = some (.int .i64 b3) ∧ w'.cell? ⟨w.heap.size + 1, 4, none⟩ = some (.int .i64 b4) ∧ w'.cell? ⟨w.heap.size + 1, 5, none⟩ = some (.int .i64 b5) ∧ w'.cell? ⟨w.heap.size + 1, 6, none⟩ = some (.int .i64 b6))
      (first
        | exact HS0.out
        | exact keepS (by assumption) hbk)
      (first
        | (go_at_call 25; with_reducible (refine (h1 _).mono ?_); rintro e w' ⟨rfl, hbk⟩)
        | (go_at_call 25; with_reducible (refine (h3 _).mono ?_); rintro e w' ⟨rfl, hbk⟩)
        | (go_at_call 26; with_reducible (refine (h2 _).mono ?_); rintro e w' ⟨rfl, hbk⟩))
    go_wp2
    go_ret
    refine ⟨rfl, ?_⟩
    go_split_ands
    with_reducible assumption)
end Go.Proofs.Ytgcnklnhambpjaa
