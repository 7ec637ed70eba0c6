/- document.node and document.Check: what they return for every message. -/
import Derived.Test.YtgcnklnhambpjaaCmp
import Derived.BigRegion
import Derived.BigQuiet
import Derived.RegionTactic
namespace Go.Proofs.Ytgcnklnhambpjaa
open Go.RowKit
def nodeB (n : Int) : Bool := decide (1 ≤ n ∧ n ≤ 99)
set_option maxHeartbeats 1000000 in
theorem node_any (n : Int) (w : World) : Calls Try.prog 44 #[.int .i64 n] w fun e w' => e = .returned (.bool (nodeB n)) ∧ w = w' := by
  go_enter Try.func44, Try.ntmps44
  go_wp2
  all_goals (go_ret; refine ⟨ret_b ?_, rfl⟩; simp [nodeB]; try omega)
/-- The error of a message. -/
def chkM (m : Msg) : Int :=
  if m.mv < 1 ∨ m.mv > 1073741824 ∨ m.kd < 1 ∨ m.kd > 5 ∨ m.dy < 0 ∨ m.dy > 100000 then 2
  else if m.kd = 1 then (if m.nu = 0 ∧ nodeB m.fr = true ∧ nodeB m.tt = true ∧ m.fr ≠ m.tt ∧ 1 ≤ m.al ∧ m.al ≤ 10737418240000 then 0 else 1)
  else if m.kd = 2 then (if 1 ≤ m.nu ∧ m.nu ≤ 64 ∧ m.fr = 0 ∧ nodeB m.tt = true ∧ m.al = 0 then 0 else 1)
  else if m.kd = 3 then (if m.nu = 0 ∧ m.fr = 0 ∧ m.tt = 0 ∧ 0 ≤ m.al ∧ m.al ≤ 10737418240000 then 0 else 1)
  else (if m.nu = 0 ∧ m.fr = 0 ∧ m.tt = 0 ∧ m.al = 0 then 0 else 1)

end Go.Proofs.Ytgcnklnhambpjaa
