/- The keys of the counts of a movement's messages. -/
import Derived.Test.YtgcnklnhambpjaaKeys
namespace Go.Proofs.Ytgcnklnhambpjaa
open Go.RowKit
theorem eqPart (d : Nat) (w : World) (x y : Int × Int) :
    (Op.equalIn (d + 2) 78 (.agg #[.int .i64 x.1, .int .i64 x.2]) (.agg #[.int .i64 y.1, .int .i64 y.2])).run Try.prog w = .ok (decide (x = y)) w := by
  have e : decide (x = y) = (x.1 == y.1 && x.2 == y.2) := by
    obtain ⟨a0, a1⟩ := x
    obtain ⟨b0, b1⟩ := y
    rw [Bool.eq_iff_iff]
    simp
  rw [e]
  refine eqAgg_of Try.underlying78 (by kernel_rfl) ?_
  refine eqFields_cons (by rfl) (by go_simp; rfl) (by go_simp; rfl) (by go_simp) ?_
  exact eqFields_last (by rfl) (by go_simp; rfl) (by go_simp; rfl) (by go_simp)
theorem checkPart (em : Bool) (x : Int × Int) (w : World) : (Instr.checkKey em 10000 78 (pairV x)).run Try.prog w = .ok () w := by
  have h := fun y => checkKey_int Try.underlying3 em 9998 y w
  unfold pairV
  show (Instr.checkKey em (9999 + 1) _ _).run _ _ = _
  rw [Instr.checkKey]
  go_simp
theorem keyPart : KeyOK Try.prog 78 pairV :=
  keyPair Try.underlying78 checkPart (fun x y w => eqPart 9998 w x y)
end Go.Proofs.Ytgcnklnhambpjaa
