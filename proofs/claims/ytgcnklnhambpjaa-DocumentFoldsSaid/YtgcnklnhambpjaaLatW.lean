/- document.Later: what it returns for every two documents. -/
import Derived.Test.YtgcnklnhambpjaaOfW
import Derived.Test.YtgcnklnhambpjaaEq
namespace Go.Proofs.Ytgcnklnhambpjaa
open Go.RowKit
theorem eqStg (d : Nat) (w : World) (x1 x2 y1 y2 : Int) :
    (Op.equalIn (d + 2) 80 (.agg #[.int .i64 x1, .int .i64 x2]) (.agg #[.int .i64 y1, .int .i64 y2])).run Try.prog w = .ok (decide (x1 = y1 ∧ x2 = y2)) w := by
  have e : decide (x1 = y1 ∧ x2 = y2) = (x1 == y1 && x2 == y2) := by
    rw [Bool.eq_iff_iff]
    simp
  rw [e]
  refine eqAgg_of Try.underlying80 (by kernel_rfl) ?_
  iterate 1 refine eqFields_cons (by rfl) (by go_simp; rfl) (by go_simp; rfl) (by go_simp) ?_
  exact eqFields_last (by rfl) (by go_simp; rfl) (by go_simp; rfl) (by go_simp)
def goB (s t r q : Int) : Bool := if s = 1 then decide (1 ≤ t ∧ t ≤ 4) else if s = 3 ∧ t = 3 then true else if s = 3 ∧ t = 4 then decide (q = 0) else if (s = 2 ∧ t = 2) ∨ (s = 2 ∧ t = 4) ∨ (s = 4 ∧ t = 4) then decide (r = q) else false
def goesB (a b : Doc) : Bool := goB a.st b.st a.re b.re
def laterB (a b : Doc) : Bool := if a.mv ≠ b.mv then false else if a = b ∨ a.st = 0 ∨ b.st = 5 then true else decide (a.fr = b.fr ∧ a.se = b.se ∧ (a.ch < b.ch ∨ b.ch = a.ch ∧ a.tt = b.tt)) && goesB a b
def LatPost (r : Bool) (w : World) (e : Ending) (w' : World) : Prop := e = .returned (.bool r) ∧ Below w.heap.size w w'
attribute [local go_sem high] eqStg eqDoc
theorem and_true_of {P : Prop} [Decidable P] (b : Bool) (h : P) : (decide P && b) = b := by simp [h]
set_option maxHeartbeats 8000000 in
set_option maxRecDepth 100000 in
theorem goes_any (a b : Doc) (w : World) : Calls Try.prog 50 #[a.v, b.v] w (LatPost (goesB a b) w) := by
  have hg : goesB a b = goesB a b := rfl
  conv at hg => rhs; unfold goesB goB
  generalize goesB a b = r at hg ⊢
  have HG := hid_of hg
  clear hg
  unfold LatPost
  go_enter Try.func50, Try.ntmps50
  go_wp2
  all_goals go_ret
  all_goals refine ⟨ret_b ?_, by repeat (first | exact Below.refl _ _ | apply Below.drew | refine Below.alloc ?_ (by simp <;> omega) _)⟩
  all_goals rw [HG.out]
  all_goals clear HG
  all_goals (repeat' split)
  all_goals first | rfl | (exfalso; omega) | (simp; omega) | (simp_all; done) | (exfalso; simp_all; done) | (exfalso; simp_all; omega)
set_option maxHeartbeats 8000000 in
set_option maxRecDepth 100000 in
theorem later_any (a b : Doc) (w : World) : Calls Try.prog 25 #[a.v, b.v] w (LatPost (laterB a b) w) := by
  have hg : laterB a b = laterB a b := rfl
  conv at hg => rhs; unfold laterB goesB goB
  generalize laterB a b = r at hg ⊢
  have HG := hid_of hg
  clear hg
  unfold LatPost
  go_enter Try.func25, Try.ntmps25
  go_wp2
  all_goals (first | go_big_region | skip)
  all_goals go_ret
  all_goals refine ⟨ret_b ?_, by repeat (first | exact Below.refl _ _ | apply Below.drew | refine Below.alloc ?_ (by simp <;> omega) _)⟩
  all_goals rw [HG.out]
  all_goals clear HG
  all_goals first | (simp_all; done) | (simp_all; omega) | (repeat' split) 
  all_goals first | rfl | (exfalso; omega) | (simp; omega) | (simp_all; done) | (exfalso; simp_all; done) | (exfalso; simp_all; omega) | skip
  all_goals (rw [and_true_of]; first | omega | rfl | (simp; done) | (simp; omega) | skip)
  all_goals first | omega | rfl | (simp; done) | (simp; omega)
end Go.Proofs.Ytgcnklnhambpjaa
