/- What Start returns is the error of Normal. -/
import Derived.Test.YtgcnklnhambpjaaRStart
import Derived.Test.YtgcnklnhambpjaaNormU
namespace Go.Proofs.Ytgcnklnhambpjaa
open Go.RowKit
theorem start_norm (l : List Msg) : startR l = (normR l).2 := by
  unfold startR normR
  split
  · rfl
  · split <;> rfl
theorem normR_fst (l : List Msg) (h : (normR l).2 = 0) : normR l = (normL l, 0) := by
  unfold normR at *
  split
  · rename_i h1; rw [if_pos h1] at h; simp at h
  · rename_i h1
    rw [if_neg h1] at h
    split
    · rename_i h2; rw [if_pos h2] at h; simp at h
    · rfl
end Go.Proofs.Ytgcnklnhambpjaa
