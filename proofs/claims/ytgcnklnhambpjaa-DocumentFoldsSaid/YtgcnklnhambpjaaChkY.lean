/- document.Check: what it returns for every message. -/
import Derived.Test.YtgcnklnhambpjaaChkX
namespace Go.Proofs.Ytgcnklnhambpjaa
open Go.RowKit
theorem chk_k1 (m : Msg) (h : ¬ (m.mv < 1 ∨ m.mv > 1073741824 ∨ m.kd < 1 ∨ m.kd > 5 ∨ m.dy < 0 ∨ m.dy > 100000)) (hk : m.kd = 1) : chkM m = (if m.nu = 0 ∧ nodeB m.fr = true ∧ nodeB m.tt = true ∧ m.fr ≠ m.tt ∧ 1 ≤ m.al ∧ m.al ≤ 10737418240000 then 0 else 1) := by
  unfold chkM; rw [if_neg h, if_pos hk]
set_option maxHeartbeats 8000000 in
set_option maxRecDepth 100000 in
theorem check_k1 (m : Msg) (w : World) (h : ¬ (m.mv < 1 ∨ m.mv > 1073741824 ∨ m.kd < 1 ∨ m.kd > 5 ∨ m.dy < 0 ∨ m.dy > 100000)) (hk : m.kd = 1) : Calls Try.prog 15 #[m.v] w (ChkPost m w) := by
  unfold ChkPost
  have hc0 := chk_k1 m h hk
  generalize chkM m = r at hc0 ⊢
  have HC := hid_of hc0
  clear hc0
  obtain ⟨a0, a1, a2, a3, a4, a5, a6⟩ := m
  dsimp only at h hk
  subst hk
  have h0 : 1 ≤ a0 := by omega
  have h1 : a0 ≤ 1073741824 := by omega
  have h4 : 0 ≤ a3 := by omega
  have h5 : a3 ≤ 100000 := by omega
  clear h
  go_enter Try.func15, Try.ntmps15
  go_wp2
  go_big_region
  all_goals go_wp2_with (go_at_call 44; refine (node_any _ _).mono ?_; rintro e w' ⟨rfl, rfl⟩)
  all_goals go_ret
  all_goals refine ⟨ret_i ?_, by repeat (first | exact Below.refl _ _ | apply Below.drew | refine Below.alloc ?_ (by simp) _)⟩
  all_goals rw [HC.out]
  all_goals (split <;> rename_i hq <;> first | rfl | (exfalso; omega) | (exfalso; simp_all; done) | (exfalso; simp_all <;> omega))

theorem chk_k2 (m : Msg) (h : ¬ (m.mv < 1 ∨ m.mv > 1073741824 ∨ m.kd < 1 ∨ m.kd > 5 ∨ m.dy < 0 ∨ m.dy > 100000)) (hk : m.kd = 2) : chkM m = (if 1 ≤ m.nu ∧ m.nu ≤ 64 ∧ m.fr = 0 ∧ nodeB m.tt = true ∧ m.al = 0 then 0 else 1) := by
  unfold chkM; rw [if_neg h, if_neg (by omega), if_pos hk]
set_option maxHeartbeats 8000000 in
set_option maxRecDepth 100000 in
theorem check_k2 (m : Msg) (w : World) (h : ¬ (m.mv < 1 ∨ m.mv > 1073741824 ∨ m.kd < 1 ∨ m.kd > 5 ∨ m.dy < 0 ∨ m.dy > 100000)) (hk : m.kd = 2) : Calls Try.prog 15 #[m.v] w (ChkPost m w) := by
  unfold ChkPost
  have hc0 := chk_k2 m h hk
  generalize chkM m = r at hc0 ⊢
  have HC := hid_of hc0
  clear hc0
  obtain ⟨a0, a1, a2, a3, a4, a5, a6⟩ := m
  dsimp only at h hk
  subst hk
  have h0 : 1 ≤ a0 := by omega
  have h1 : a0 ≤ 1073741824 := by omega
  have h4 : 0 ≤ a3 := by omega
  have h5 : a3 ≤ 100000 := by omega
  clear h
  go_enter Try.func15, Try.ntmps15
  go_wp2
  go_big_region
  all_goals go_wp2_with (go_at_call 44; refine (node_any _ _).mono ?_; rintro e w' ⟨rfl, rfl⟩)
  all_goals go_ret
  all_goals refine ⟨ret_i ?_, by repeat (first | exact Below.refl _ _ | apply Below.drew | refine Below.alloc ?_ (by simp) _)⟩
  all_goals rw [HC.out]
  all_goals (split <;> rename_i hq <;> first | rfl | (exfalso; omega) | (exfalso; simp_all; done) | (exfalso; simp_all <;> omega))

theorem chk_k3 (m : Msg) (h : ¬ (m.mv < 1 ∨ m.mv > 1073741824 ∨ m.kd < 1 ∨ m.kd > 5 ∨ m.dy < 0 ∨ m.dy > 100000)) (hk : m.kd = 3) : chkM m = (if m.nu = 0 ∧ m.fr = 0 ∧ m.tt = 0 ∧ 0 ≤ m.al ∧ m.al ≤ 10737418240000 then 0 else 1) := by
  unfold chkM; rw [if_neg h, if_neg (by omega), if_neg (by omega), if_pos hk]
set_option maxHeartbeats 8000000 in
set_option maxRecDepth 100000 in
theorem check_k3 (m : Msg) (w : World) (h : ¬ (m.mv < 1 ∨ m.mv > 1073741824 ∨ m.kd < 1 ∨ m.kd > 5 ∨ m.dy < 0 ∨ m.dy > 100000)) (hk : m.kd = 3) : Calls Try.prog 15 #[m.v] w (ChkPost m w) := by
  unfold ChkPost
  have hc0 := chk_k3 m h hk
  generalize chkM m = r at hc0 ⊢
  have HC := hid_of hc0
  clear hc0
  obtain ⟨a0, a1, a2, a3, a4, a5, a6⟩ := m
  dsimp only at h hk
  subst hk
  have h0 : 1 ≤ a0 := by omega
  have h1 : a0 ≤ 1073741824 := by omega
  have h4 : 0 ≤ a3 := by omega
  have h5 : a3 ≤ 100000 := by omega
  clear h
  go_enter Try.func15, Try.ntmps15
  go_wp2
  all_goals go_ret
  all_goals refine ⟨ret_i ?_, by repeat (first | exact Below.refl _ _ | apply Below.drew | refine Below.alloc ?_ (by simp) _)⟩
  all_goals rw [HC.out]
  all_goals (split <;> rename_i hq <;> first | rfl | (exfalso; omega) | (exfalso; simp_all; done) | (exfalso; simp_all <;> omega))

theorem chk_k4 (m : Msg) (h : ¬ (m.mv < 1 ∨ m.mv > 1073741824 ∨ m.kd < 1 ∨ m.kd > 5 ∨ m.dy < 0 ∨ m.dy > 100000)) (hk : m.kd = 4) : chkM m = (if m.nu = 0 ∧ m.fr = 0 ∧ m.tt = 0 ∧ m.al = 0 then 0 else 1) := by
  unfold chkM; rw [if_neg h, if_neg (by omega), if_neg (by omega), if_neg (by omega)]
set_option maxHeartbeats 8000000 in
set_option maxRecDepth 100000 in
theorem check_k4 (m : Msg) (w : World) (h : ¬ (m.mv < 1 ∨ m.mv > 1073741824 ∨ m.kd < 1 ∨ m.kd > 5 ∨ m.dy < 0 ∨ m.dy > 100000)) (hk : m.kd = 4) : Calls Try.prog 15 #[m.v] w (ChkPost m w) := by
  unfold ChkPost
  have hc0 := chk_k4 m h hk
  generalize chkM m = r at hc0 ⊢
  have HC := hid_of hc0
  clear hc0
  obtain ⟨a0, a1, a2, a3, a4, a5, a6⟩ := m
  dsimp only at h hk
  subst hk
  have h0 : 1 ≤ a0 := by omega
  have h1 : a0 ≤ 1073741824 := by omega
  have h4 : 0 ≤ a3 := by omega
  have h5 : a3 ≤ 100000 := by omega
  clear h
  go_enter Try.func15, Try.ntmps15
  go_wp2
  all_goals go_ret
  all_goals refine ⟨ret_i ?_, by repeat (first | exact Below.refl _ _ | apply Below.drew | refine Below.alloc ?_ (by simp) _)⟩
  all_goals rw [HC.out]
  all_goals (split <;> rename_i hq <;> first | rfl | (exfalso; omega) | (exfalso; simp_all; done) | (exfalso; simp_all <;> omega))

theorem chk_k5 (m : Msg) (h : ¬ (m.mv < 1 ∨ m.mv > 1073741824 ∨ m.kd < 1 ∨ m.kd > 5 ∨ m.dy < 0 ∨ m.dy > 100000)) (hk : m.kd = 5) : chkM m = (if m.nu = 0 ∧ m.fr = 0 ∧ m.tt = 0 ∧ m.al = 0 then 0 else 1) := by
  unfold chkM; rw [if_neg h, if_neg (by omega), if_neg (by omega), if_neg (by omega)]
set_option maxHeartbeats 8000000 in
set_option maxRecDepth 100000 in
theorem check_k5 (m : Msg) (w : World) (h : ¬ (m.mv < 1 ∨ m.mv > 1073741824 ∨ m.kd < 1 ∨ m.kd > 5 ∨ m.dy < 0 ∨ m.dy > 100000)) (hk : m.kd = 5) : Calls Try.prog 15 #[m.v] w (ChkPost m w) := by
  unfold ChkPost
  have hc0 := chk_k5 m h hk
  generalize chkM m = r at hc0 ⊢
  have HC := hid_of hc0
  clear hc0
  obtain ⟨a0, a1, a2, a3, a4, a5, a6⟩ := m
  dsimp only at h hk
  subst hk
  have h0 : 1 ≤ a0 := by omega
  have h1 : a0 ≤ 1073741824 := by omega
  have h4 : 0 ≤ a3 := by omega
  have h5 : a3 ≤ 100000 := by omega
  clear h
  go_enter Try.func15, Try.ntmps15
  go_wp2
  all_goals go_ret
  all_goals refine ⟨ret_i ?_, by repeat (first | exact Below.refl _ _ | apply Below.drew | refine Below.alloc ?_ (by simp) _)⟩
  all_goals rw [HC.out]
  all_goals (split <;> rename_i hq <;> first | rfl | (exfalso; omega) | (exfalso; simp_all; done) | (exfalso; simp_all <;> omega))

/-- What document.Check returns, for every message; it only makes memory. -/
theorem check_any (m : Msg) (w : World) : Calls Try.prog 15 #[m.v] w (ChkPost m w) := by
  by_cases h : m.mv < 1 ∨ m.mv > 1073741824 ∨ m.kd < 1 ∨ m.kd > 5 ∨ m.dy < 0 ∨ m.dy > 100000
  · exact check_range m w h
  · have : m.kd = 1 ∨ m.kd = 2 ∨ m.kd = 3 ∨ m.kd = 4 ∨ m.kd = 5 := by omega
    rcases this with hk | hk | hk | hk | hk
    · exact check_k1 m w h hk
    · exact check_k2 m w h hk
    · exact check_k3 m w h hk
    · exact check_k4 m w h hk
    · exact check_k5 m w h hk
end Go.Proofs.Ytgcnklnhambpjaa
