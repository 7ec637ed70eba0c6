/- compare of messages. -/
import Derived.Test.YtgcnklnhambpjaaCmp
import Derived.Sort.Grow
import Derived.StillTailTactics
namespace Go.Proofs.Ytgcnklnhambpjaa
open Go.RowKit
def cmpM (x y : Msg) : Int := orI [cmpI x.mv y.mv, cmpI x.kd y.kd, cmpI x.nu y.nu, cmpI x.dy y.dy, cmpI x.fr y.fr, cmpI x.tt y.tt, cmpI x.al y.al]
theorem EI_flat (xs : List Int) : EI.flat xs = xs.map (fun x => Value.int .i64 x) := by
  show xs.flatMap (fun x => [Value.int .i64 x]) = _
  induction xs with
  | nil => rfl
  | cons x xs ih => rw [List.flatMap_cons, ih]; rfl
theorem blk_reads {w : World} {b : Nat} {cs : Array Value} {t : TypeId} {fr : Nat × Nat} (h : w.heap[b]? = some (.cells cs t fr)) (j : Nat) : w.cell? ⟨b, j, none⟩ = cs[j]? := by
  simp [World.cell?, h]
theorem rd_lit (w : World) (xs : List Int) (cs : Array Value) (t : TypeId) (hcs : cs = (xs.map (fun x => Value.int .i64 x)).toArray) (hl : xs.length ≤ 9223372036854775807) : Rd EI (w.alloc (.cells cs t)) (some ⟨w.heap.size, 0, none⟩) xs := by
  refine ⟨hl, fun _ => ⟨_, rfl, fun j v hv => ?_⟩⟩
  rw [EI_flat] at hv
  rw [addr_plain, blk_reads (heap_alloc_new w _), hcs]
  simpa using hv
theorem cmp_world (w W1 : World) (o1 o2 o3 : Obj) (h : (w.alloc o1).alloc o2 = W1) : ∃ q os, (W1.alloc o3).drew = Sort.grow (w.drewN q) os := by
  subst h
  exact ⟨1, #[o1, o2, o3], by simp only [Sort.alloc_eq_grow, Sort.grow_grow]; rfl⟩
set_option maxHeartbeats 4000000 in
set_option maxRecDepth 100000 in
theorem compareM_any (x y : Msg) (w : World) : Calls Try.prog 40 #[x.v, y.v] w fun e w' => e = .returned (.int .i64 (cmpM x y)) ∧ ∃ q os, w' = Sort.grow (w.drewN q) os := by
  have e58 := fun a b W => compareI_any a b W
  go_enter Try.func40, Try.ntmps40
  go_wp2
  generalize hW : (w.alloc _).alloc _ = W1
  have b0 : W1.heap[w.heap.size]? = some (.cells x.cells.toArray 23 (0, 0)) := by rw [← hW]; exact (Below.heap_alloc _ _ _ (by simp)).trans (heap_alloc_new w _)
  have b1 : W1.heap[w.heap.size + 1]? = some (.cells y.cells.toArray 23 (0, 0)) := by
    rw [← hW]
    have h1 : (w.alloc (.cells x.cells.toArray 23)).heap.size = w.heap.size + 1 := by simp
    rw [← h1]
    exact heap_alloc_new _ _
  have hx0 : W1.drew.cell? ⟨w.heap.size, 0, none⟩ = some (.int .i64 x.mv) := (blk_reads (w := W1.drew) b0 0).trans rfl
  have hx1 : W1.drew.cell? ⟨w.heap.size, 1, none⟩ = some (.int .i64 x.kd) := (blk_reads (w := W1.drew) b0 1).trans rfl
  have hx2 : W1.drew.cell? ⟨w.heap.size, 2, none⟩ = some (.int .i64 x.nu) := (blk_reads (w := W1.drew) b0 2).trans rfl
  have hx3 : W1.drew.cell? ⟨w.heap.size, 3, none⟩ = some (.int .i64 x.dy) := (blk_reads (w := W1.drew) b0 3).trans rfl
  have hx4 : W1.drew.cell? ⟨w.heap.size, 4, none⟩ = some (.int .i64 x.fr) := (blk_reads (w := W1.drew) b0 4).trans rfl
  have hx5 : W1.drew.cell? ⟨w.heap.size, 5, none⟩ = some (.int .i64 x.tt) := (blk_reads (w := W1.drew) b0 5).trans rfl
  have hx6 : W1.drew.cell? ⟨w.heap.size, 6, none⟩ = some (.int .i64 x.al) := (blk_reads (w := W1.drew) b0 6).trans rfl
  have hy0 : W1.drew.cell? ⟨w.heap.size + 1, 0, none⟩ = some (.int .i64 y.mv) := (blk_reads (w := W1.drew) b1 0).trans rfl
  have hy1 : W1.drew.cell? ⟨w.heap.size + 1, 1, none⟩ = some (.int .i64 y.kd) := (blk_reads (w := W1.drew) b1 1).trans rfl
  have hy2 : W1.drew.cell? ⟨w.heap.size + 1, 2, none⟩ = some (.int .i64 y.nu) := (blk_reads (w := W1.drew) b1 2).trans rfl
  have hy3 : W1.drew.cell? ⟨w.heap.size + 1, 3, none⟩ = some (.int .i64 y.dy) := (blk_reads (w := W1.drew) b1 3).trans rfl
  have hy4 : W1.drew.cell? ⟨w.heap.size + 1, 4, none⟩ = some (.int .i64 y.fr) := (blk_reads (w := W1.drew) b1 4).trans rfl
  have hy5 : W1.drew.cell? ⟨w.heap.size + 1, 5, none⟩ = some (.int .i64 y.tt) := (blk_reads (w := W1.drew) b1 5).trans rfl
  have hy6 : W1.drew.cell? ⟨w.heap.size + 1, 6, none⟩ = some (.int .i64 y.al) := (blk_reads (w := W1.drew) b1 6).trans rfl
  have HW := hid_of hW
  clear hW b0 b1
  refine wp_region_still_tail 35 (by kernel_rfl) (by kernel_rfl) ?_
  simp only [List.take_succ_cons, List.take_zero, List.drop_succ_cons, List.drop_zero]
  repeat (first | still_step | still_call ((e58 _ _ _).mono fun _ _ h => ⟨h.1, h.2.symm⟩))
  refine wpStill_nil ?_
  clear hx0 hx1 hx2 hx3 hx4 hx5 hx6 hy0 hy1 hy2 hy3 hy4 hy5 hy6 e58
  go_wp2_with (go_at_call 57; (refine (or_any [cmpI x.mv y.mv, cmpI x.kd y.kd, cmpI x.nu y.nu, cmpI x.dy y.dy, cmpI x.fr y.fr, cmpI x.tt y.tt, cmpI x.al y.al] _ _ _ (rd_lit _ _ _ _ rfl (by simp)).drew).mono ?_; rintro e w' ⟨rfl, rfl⟩))
  go_ret
  exact ⟨ret_i rfl, cmp_world _ _ _ _ _ HW.out⟩
end Go.Proofs.Ytgcnklnhambpjaa
