/- The reference's less: it is document.compare's order. -/
import Derived.Test.YtgcnklnhambpjaaRFew
import Derived.Test.YtgcnklnhambpjaaSortM
namespace Go.Proofs.Ytgcnklnhambpjaa
open Go.RowKit
def lessB (a b : Msg) : Bool := decide (cmpM a b < 0)
def Msg.key (a : Msg) : Nat → Int
  | 0 => a.mv | 1 => a.kd | 2 => a.nu | 3 => a.dy | 4 => a.fr | 5 => a.tt | _ => a.al
set_option maxHeartbeats 8000000 in
set_option maxRecDepth 100000 in
theorem rless_any (a b : Msg) (w : World) : Calls Try.prog 59 #[a.v, b.v] w fun e w' => e = .returned (.bool (lessB a b)) ∧ Below w.heap.size w w' := by
  have hg : (lessB a b = true) ↔ _ := (decide_eq_true_iff (p := cmpM a b < 0)).trans (cmpM_neg a b)
  generalize lessB a b = r at hg ⊢
  have HG := hid_of hg
  clear hg
  obtain ⟨a0, a1, a2, a3, a4, a5, a6⟩ := a
  obtain ⟨b0, b1, b2, b3, b4, b5, b6⟩ := b
  go_enter Try.func59, Try.ntmps59
  go_upto_region 3 with (fail)
  refine nameW (fun W hW => ?_)
  have hx : W.heap[w.heap.size + 1 + 1]? = some (.cells #[.int .i64 a0, .int .i64 a1, .int .i64 a2, .int .i64 a3, .int .i64 a4, .int .i64 a5, .int .i64 a6] 3 (0, 0)) := by
    rw [hW]
    refine blkA ?_
    have := blkN ((w.alloc (.cells #[.int .i64 a0, .int .i64 a1, .int .i64 a2, .int .i64 a3, .int .i64 a4, .int .i64 a5, .int .i64 a6] 23)).alloc (.cells #[.int .i64 b0, .int .i64 b1, .int .i64 b2, .int .i64 b3, .int .i64 b4, .int .i64 b5, .int .i64 b6] 23)) (.cells #[.int .i64 a0, .int .i64 a1, .int .i64 a2, .int .i64 a3, .int .i64 a4, .int .i64 a5, .int .i64 a6] 3)
    rw [World.size_alloc, World.size_alloc] at this
    exact this
  have hy : W.heap[w.heap.size + 1 + 1 + 1]? = some (.cells #[.int .i64 b0, .int .i64 b1, .int .i64 b2, .int .i64 b3, .int .i64 b4, .int .i64 b5, .int .i64 b6] 3 (0, 0)) := by
    rw [hW]
    have := blkN (((w.alloc (.cells #[.int .i64 a0, .int .i64 a1, .int .i64 a2, .int .i64 a3, .int .i64 a4, .int .i64 a5, .int .i64 a6] 23)).alloc (.cells #[.int .i64 b0, .int .i64 b1, .int .i64 b2, .int .i64 b3, .int .i64 b4, .int .i64 b5, .int .i64 b6] 23)).alloc (.cells #[.int .i64 a0, .int .i64 a1, .int .i64 a2, .int .i64 a3, .int .i64 a4, .int .i64 a5, .int .i64 a6] 3)) (.cells #[.int .i64 b0, .int .i64 b1, .int .i64 b2, .int .i64 b3, .int .i64 b4, .int .i64 b5, .int .i64 b6] 3)
    rw [World.size_alloc, World.size_alloc, World.size_alloc] at this
    exact this
  have hb : Below w.heap.size w W := by rw [hW]; exact ((((Below.refl _ _).alloc (Nat.le_refl _) _).alloc (by simp) _).alloc (by simp; omega) _).alloc (by simp; omega) _
  clear hW
  have x0 := (blk_cell hx 0).trans (show _ = some (.int .i64 a0) from rfl)
  have y0 := (blk_cell hy 0).trans (show _ = some (.int .i64 b0) from rfl)
  have x1 := (blk_cell hx 1).trans (show _ = some (.int .i64 a1) from rfl)
  have y1 := (blk_cell hy 1).trans (show _ = some (.int .i64 b1) from rfl)
  have x2 := (blk_cell hx 2).trans (show _ = some (.int .i64 a2) from rfl)
  have y2 := (blk_cell hy 2).trans (show _ = some (.int .i64 b2) from rfl)
  have x3 := (blk_cell hx 3).trans (show _ = some (.int .i64 a3) from rfl)
  have y3 := (blk_cell hy 3).trans (show _ = some (.int .i64 b3) from rfl)
  have x4 := (blk_cell hx 4).trans (show _ = some (.int .i64 a4) from rfl)
  have y4 := (blk_cell hy 4).trans (show _ = some (.int .i64 b4) from rfl)
  have x5 := (blk_cell hx 5).trans (show _ = some (.int .i64 a5) from rfl)
  have y5 := (blk_cell hy 5).trans (show _ = some (.int .i64 b5) from rfl)
  have x6 := (blk_cell hx 6).trans (show _ = some (.int .i64 a6) from rfl)
  have y6 := (blk_cell hy 6).trans (show _ = some (.int .i64 b6) from rfl)
  have HB := hid_of hb
  clear hx hy hb
  go_wp2_with fail
  go_loopg [7] 7 (fun gg s7 wr => ∃ k q : Nat, k ≤ 7 ∧ 7 - k ≤ gg ∧ s7 = .int .i64 k ∧ wr = W.drewN q ∧ Hid (∀ j, j < k → (Msg.mk a0 a1 a2 a3 a4 a5 a6).key j = (Msg.mk b0 b1 b2 b3 b4 b5 b6).key j))
  case atStart => exact ⟨0, 0, by omega, by omega, rfl, rfl, fun j h => absurd h (by omega)⟩
  case round =>
    obtain ⟨k, q, hk, hgg, rfl, rfl, HE⟩ := hrel
    have hc : k = 0 ∨ k = 1 ∨ k = 2 ∨ k = 3 ∨ k = 4 ∨ k = 5 ∨ k = 6 ∨ k = 7 := by omega
    rcases hc with rfl | rfl | rfl | rfl | rfl | rfl | rfl | rfl
    · by_cases hn : a0 = b0
      · have HN := hid_of hn
        have hn1 : (a0 != b0) = false := by simpa using hn
        clear hn
        go_wp2_with fail
        go_quiet (fail)
        go_wp2_with fail
        go_roundg (7 - 1)
        case measure => omega
        case rel =>
          refine ⟨1, q + nq, by omega, Nat.le_refl _, by go_num, by first | rfl | simp, (show Hid _ from fun i hi => ?_)⟩
          by_cases e : i = 0
          · subst e; exact HN.out
          · exact HE.out i (by omega)
      · have hn1 : (a0 != b0) = true := by simpa using hn
        have HN := hid_of hn
        clear hn
        go_wp2_with fail
        go_quiet (fail)
        go_wp2_with fail
        go_quiet (fail)
        go_wp2_with fail
        go_ret
        refine ⟨ret_b ?_, by repeat (first | exact HB.out | apply below_drewN)⟩
        have hg := HG.out
        have hn := HN.out
        rw [Bool.eq_iff_iff, hg]
        simp only [decide_eq_true_eq]
        omega
    · by_cases hn : a1 = b1
      · have HN := hid_of hn
        have hn1 : (a1 != b1) = false := by simpa using hn
        clear hn
        go_wp2_with fail
        go_quiet (fail)
        go_wp2_with fail
        go_roundg (7 - 2)
        case measure => omega
        case rel =>
          refine ⟨2, q + nq, by omega, Nat.le_refl _, by go_num, by first | rfl | simp, (show Hid _ from fun i hi => ?_)⟩
          by_cases e : i = 1
          · subst e; exact HN.out
          · exact HE.out i (by omega)
      · have hn1 : (a1 != b1) = true := by simpa using hn
        have HN := hid_of hn
        clear hn
        go_wp2_with fail
        go_quiet (fail)
        go_wp2_with fail
        go_quiet (fail)
        go_wp2_with fail
        go_ret
        refine ⟨ret_b ?_, by repeat (first | exact HB.out | apply below_drewN)⟩
        have hg := HG.out
        have hn := HN.out
        have q0 : a0 = b0 := HE.out 0 (by decide)
        rw [Bool.eq_iff_iff, hg]
        simp only [decide_eq_true_eq]
        omega
    · by_cases hn : a2 = b2
      · have HN := hid_of hn
        have hn1 : (a2 != b2) = false := by simpa using hn
        clear hn
        go_wp2_with fail
        go_quiet (fail)
        go_wp2_with fail
        go_roundg (7 - 3)
        case measure => omega
        case rel =>
          refine ⟨3, q + nq, by omega, Nat.le_refl _, by go_num, by first | rfl | simp, (show Hid _ from fun i hi => ?_)⟩
          by_cases e : i = 2
          · subst e; exact HN.out
          · exact HE.out i (by omega)
      · have hn1 : (a2 != b2) = true := by simpa using hn
        have HN := hid_of hn
        clear hn
        go_wp2_with fail
        go_quiet (fail)
        go_wp2_with fail
        go_quiet (fail)
        go_wp2_with fail
        go_ret
        refine ⟨ret_b ?_, by repeat (first | exact HB.out | apply below_drewN)⟩
        have hg := HG.out
        have hn := HN.out
        have q0 : a0 = b0 := HE.out 0 (by decide)
        have q1 : a1 = b1 := HE.out 1 (by decide)
        rw [Bool.eq_iff_iff, hg]
        simp only [decide_eq_true_eq]
        omega
    · by_cases hn : a3 = b3
      · have HN := hid_of hn
        have hn1 : (a3 != b3) = false := by simpa using hn
        clear hn
        go_wp2_with fail
        go_quiet (fail)
        go_wp2_with fail
        go_roundg (7 - 4)
        case measure => omega
        case rel =>
          refine ⟨4, q + nq, by omega, Nat.le_refl _, by go_num, by first | rfl | simp, (show Hid _ from fun i hi => ?_)⟩
          by_cases e : i = 3
          · subst e; exact HN.out
          · exact HE.out i (by omega)
      · have hn1 : (a3 != b3) = true := by simpa using hn
        have HN := hid_of hn
        clear hn
        go_wp2_with fail
        go_quiet (fail)
        go_wp2_with fail
        go_quiet (fail)
        go_wp2_with fail
        go_ret
        refine ⟨ret_b ?_, by repeat (first | exact HB.out | apply below_drewN)⟩
        have hg := HG.out
        have hn := HN.out
        have q0 : a0 = b0 := HE.out 0 (by decide)
        have q1 : a1 = b1 := HE.out 1 (by decide)
        have q2 : a2 = b2 := HE.out 2 (by decide)
        rw [Bool.eq_iff_iff, hg]
        simp only [decide_eq_true_eq]
        omega
    · by_cases hn : a4 = b4
      · have HN := hid_of hn
        have hn1 : (a4 != b4) = false := by simpa using hn
        clear hn
        go_wp2_with fail
        go_quiet (fail)
        go_wp2_with fail
        go_roundg (7 - 5)
        case measure => omega
        case rel =>
          refine ⟨5, q + nq, by omega, Nat.le_refl _, by go_num, by first | rfl | simp, (show Hid _ from fun i hi => ?_)⟩
          by_cases e : i = 4
          · subst e; exact HN.out
          · exact HE.out i (by omega)
      · have hn1 : (a4 != b4) = true := by simpa using hn
        have HN := hid_of hn
        clear hn
        go_wp2_with fail
        go_quiet (fail)
        go_wp2_with fail
        go_quiet (fail)
        go_wp2_with fail
        go_ret
        refine ⟨ret_b ?_, by repeat (first | exact HB.out | apply below_drewN)⟩
        have hg := HG.out
        have hn := HN.out
        have q0 : a0 = b0 := HE.out 0 (by decide)
        have q1 : a1 = b1 := HE.out 1 (by decide)
        have q2 : a2 = b2 := HE.out 2 (by decide)
        have q3 : a3 = b3 := HE.out 3 (by decide)
        rw [Bool.eq_iff_iff, hg]
        simp only [decide_eq_true_eq]
        omega
    · by_cases hn : a5 = b5
      · have HN := hid_of hn
        have hn1 : (a5 != b5) = false := by simpa using hn
        clear hn
        go_wp2_with fail
        go_quiet (fail)
        go_wp2_with fail
        go_roundg (7 - 6)
        case measure => omega
        case rel =>
          refine ⟨6, q + nq, by omega, Nat.le_refl _, by go_num, by first | rfl | simp, (show Hid _ from fun i hi => ?_)⟩
          by_cases e : i = 5
          · subst e; exact HN.out
          · exact HE.out i (by omega)
      · have hn1 : (a5 != b5) = true := by simpa using hn
        have HN := hid_of hn
        clear hn
        go_wp2_with fail
        go_quiet (fail)
        go_wp2_with fail
        go_quiet (fail)
        go_wp2_with fail
        go_ret
        refine ⟨ret_b ?_, by repeat (first | exact HB.out | apply below_drewN)⟩
        have hg := HG.out
        have hn := HN.out
        have q0 : a0 = b0 := HE.out 0 (by decide)
        have q1 : a1 = b1 := HE.out 1 (by decide)
        have q2 : a2 = b2 := HE.out 2 (by decide)
        have q3 : a3 = b3 := HE.out 3 (by decide)
        have q4 : a4 = b4 := HE.out 4 (by decide)
        rw [Bool.eq_iff_iff, hg]
        simp only [decide_eq_true_eq]
        omega
    · by_cases hn : a6 = b6
      · have HN := hid_of hn
        have hn1 : (a6 != b6) = false := by simpa using hn
        clear hn
        go_wp2_with fail
        go_quiet (fail)
        go_wp2_with fail
        go_roundg (7 - 7)
        case measure => omega
        case rel =>
          refine ⟨7, q + nq, by omega, Nat.le_refl _, by go_num, by first | rfl | simp, (show Hid _ from fun i hi => ?_)⟩
          by_cases e : i = 6
          · subst e; exact HN.out
          · exact HE.out i (by omega)
      · have hn1 : (a6 != b6) = true := by simpa using hn
        have HN := hid_of hn
        clear hn
        go_wp2_with fail
        go_quiet (fail)
        go_wp2_with fail
        go_quiet (fail)
        go_wp2_with fail
        go_ret
        refine ⟨ret_b ?_, by repeat (first | exact HB.out | apply below_drewN)⟩
        have hg := HG.out
        have hn := HN.out
        have q0 : a0 = b0 := HE.out 0 (by decide)
        have q1 : a1 = b1 := HE.out 1 (by decide)
        have q2 : a2 = b2 := HE.out 2 (by decide)
        have q3 : a3 = b3 := HE.out 3 (by decide)
        have q4 : a4 = b4 := HE.out 4 (by decide)
        have q5 : a5 = b5 := HE.out 5 (by decide)
        rw [Bool.eq_iff_iff, hg]
        simp only [decide_eq_true_eq]
        omega
    · go_wp2_with fail
      go_ret
      refine ⟨ret_b ?_, by repeat (first | exact HB.out | apply below_drewN)⟩
      have hg := HG.out
      have q0 : a0 = b0 := HE.out 0 (by decide)
      have q1 : a1 = b1 := HE.out 1 (by decide)
      have q2 : a2 = b2 := HE.out 2 (by decide)
      have q3 : a3 = b3 := HE.out 3 (by decide)
      have q4 : a4 = b4 := HE.out 4 (by decide)
      have q5 : a5 = b5 := HE.out 5 (by decide)
      have q6 : a6 = b6 := HE.out 6 (by decide)
      cases r with
      | false => rfl
      | true => exact absurd (hg.1 rfl) (by intro h; (try dsimp only at h); omega)
end Go.Proofs.Ytgcnklnhambpjaa
