/- The reference of Later: it returns what document.Later returns. -/
import Derived.Test.YtgcnklnhambpjaaLatW
namespace Go.Proofs.Ytgcnklnhambpjaa
open Go.RowKit
attribute [local go_sem high] eqDoc
set_option maxHeartbeats 8000000 in
set_option maxRecDepth 100000 in
theorem rlater_any (a b : Doc) (w : World) : Calls Try.prog 26 #[a.v, b.v] w (LatPost (laterB a b) w) := by
  have hg : laterB a b = laterB a b := rfl
  conv at hg => rhs; unfold laterB goesB goB
  generalize laterB a b = r at hg ⊢
  have HG := hid_of hg
  clear hg
  unfold LatPost
  go_enter Try.func26, Try.ntmps26
  go_wp2
  all_goals (first | go_big_region | skip)
  all_goals go_ret
  all_goals refine ⟨ret_b ?_, by repeat (first | exact Below.refl _ _ | apply Below.drew | refine Below.alloc ?_ (by simp <;> omega) _)⟩
  all_goals rw [HG.out]
  all_goals clear HG
  all_goals first | (simp_all; done) | (simp_all; omega) | (repeat' split)
  all_goals first | rfl | (exfalso; omega) | (simp; omega) | (simp_all; done) | (exfalso; simp_all; done) | (exfalso; simp_all; omega) | skip
  all_goals (rw [and_true_of]; first | omega | rfl | (simp; done) | (simp; omega) | skip)
  all_goals (try simp only [bne_eq_false_iff_eq] at *)
  all_goals first | omega | rfl | (simp; done) | (simp; omega)
end Go.Proofs.Ytgcnklnhambpjaa
