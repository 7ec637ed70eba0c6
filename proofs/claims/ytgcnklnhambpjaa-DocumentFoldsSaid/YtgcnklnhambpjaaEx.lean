/- The example of the law package. -/
import Derived.Test.YtgcnklnhambpjaaOfT
import Derived.Test.YtgcnklnhambpjaaOpenW
import Derived.Test.YtgcnklnhambpjaaLatW
namespace Go.Proofs.Ytgcnklnhambpjaa
open Go.RowKit
def exL : List Msg := [⟨5, 1, 0, 1, 1, 2, 100⟩, ⟨5, 2, 1, 2, 0, 3, 0⟩, ⟨5, 3, 0, 4, 0, 0, 98⟩]
set_option maxHeartbeats 4000000 in
set_option maxRecDepth 100000 in
theorem ex_any (w : World) : Calls Try.prog 36 #[] w fun e w' => e = .returned (.slice (some ⟨w.heap.size, 0, none⟩) 3 3) ∧ Own EMsg 23 w' w.heap.size (.slice (some ⟨w.heap.size, 0, none⟩) 3 3) exL ∧ Rd EMsg w' (some ⟨w.heap.size, 0, none⟩) exL ∧ Below w.heap.size w w' := by
  go_enter Try.func36, Try.ntmps36
  go_wp2
  go_ret
  have hO : Own EMsg 23 (w.alloc (.cells #[.int .i64 5, .int .i64 1, .int .i64 0, .int .i64 1, .int .i64 1, .int .i64 2, .int .i64 100, .int .i64 5, .int .i64 2, .int .i64 1, .int .i64 2, .int .i64 0, .int .i64 3, .int .i64 0, .int .i64 5, .int .i64 3, .int .i64 0, .int .i64 4, .int .i64 0, .int .i64 0, .int .i64 98] 23)) w.heap.size (.slice (some ⟨w.heap.size, 0, none⟩) 3 3) exL :=
    ⟨rfl, .inr ⟨_, 3, _, rfl, Nat.le_refl _, blkN _ _, by decide, by decide, by decide, by rfl⟩⟩
  refine ⟨rfl, hO, ?_, (Below.refl _ _).alloc (Nat.le_refl _) _⟩
  obtain ⟨A, c, hv, _, hR⟩ := hO.rd
  injection hv with h1 h2 h3
  rw [h1]; exact hR
end Go.Proofs.Ytgcnklnhambpjaa
