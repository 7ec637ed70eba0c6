/- The reference's Few, Node, Start. -/
import Derived.Test.YtgcnklnhambpjaaOfW
import Derived.Test.YtgcnklnhambpjaaNormM
namespace Go.Proofs.Ytgcnklnhambpjaa
open Go.RowKit
def fewB (n : Nat) : Bool := decide (n ≤ 16 ∨ n = 65)
set_option maxHeartbeats 1000000 in
theorem rfew_any (n : Nat) (A : Option Addr) (c : Nat) (w : World) (h : n ≤ 9223372036854775807) : Calls Try.prog 11 #[.slice A n c] w fun e w' => e = .returned (.bool (fewB n)) ∧ w = w' := by
  go_enter Try.func11, Try.ntmps11
  go_wp2
  all_goals (go_ret; refine ⟨ret_b ?_, rfl⟩; unfold fewB; rw [Bool.eq_iff_iff]; simp; try omega)
set_option maxHeartbeats 1000000 in
theorem rnode_any (n : Int) (w : World) : Calls Try.prog 45 #[.int .i64 n] w fun e w' => e = .returned (.bool (nodeB n)) ∧ w = w' := by
  go_enter Try.func45, Try.ntmps45
  go_wp2
  all_goals (go_ret; refine ⟨ret_b ?_, rfl⟩; simp [nodeB]; try omega)
def RInt (r : Int) (w : World) (e : Ending) (w' : World) : Prop := e = .returned (.int .i64 r) ∧ Below w.heap.size w w'
def startR (l : List Msg) : Int := if l.length > 64 then 8 else if l.any badM = true then 1 else 0
set_option maxHeartbeats 8000000 in
set_option maxRecDepth 100000 in
theorem rcheck_any (m : Msg) (w : World) : Calls Try.prog 16 #[m.v] w (RInt (chkM m) w) := by
  have hg : chkM m = chkM m := rfl
  conv at hg => rhs; unfold chkM nodeB
  generalize chkM m = r at hg ⊢
  have HG := hid_of hg
  clear hg
  unfold RInt
  obtain ⟨a0, a1, a2, a3, a4, a5, a6⟩ := m
  by_cases h : a0 < 1 ∨ a0 > 1073741824 ∨ a1 < 1 ∨ a1 > 5 ∨ a3 < 0 ∨ a3 > 100000
  · have hr := HG.out
    rw [if_pos h] at hr
    subst hr
    clear HG
    go_enter Try.func16, Try.ntmps16
    go_wp2
    all_goals first | (exfalso; omega) | skip
    all_goals (first | go_ret | skip)
    all_goals first | exact ⟨rfl, (Below.refl _ _).alloc (Nat.le_refl _) _⟩ | (exfalso; omega) | (exfalso; simp_all; done) | (exfalso; simp_all; omega)
  · have h0 : 1 ≤ a0 := by omega
    have h1 : a0 ≤ 1073741824 := by omega
    have h4 : 0 ≤ a3 := by omega
    have h5 : a3 ≤ 100000 := by omega
    have hk : a1 = 1 ∨ a1 = 2 ∨ a1 = 3 ∨ a1 = 4 ∨ a1 = 5 := by omega
    rcases hk with rfl | rfl | rfl | rfl | rfl
    · skip
      clear h
      go_enter Try.func16, Try.ntmps16
      go_wp2
      all_goals first | (exfalso; omega) | skip
      all_goals (first | go_ret | skip)
      all_goals refine ⟨ret_i ?_, (Below.refl _ _).alloc (Nat.le_refl _) _⟩
      all_goals rw [HG.out, if_neg (by omega)]
      all_goals clear HG
      all_goals simp only [if_true, if_false, decide_eq_true_eq, Int.reduceEq]
      all_goals first | (rw [if_pos (by omega)]; done) | (rw [if_neg (by omega)]; done) | (simp_all; done) | (simp_all; omega) | ((repeat' split) <;> first | rfl | (exfalso; omega) | (exfalso; simp_all; done) | (exfalso; simp_all; omega))
    · skip
      clear h
      go_enter Try.func16, Try.ntmps16
      go_wp2
      all_goals first | (exfalso; omega) | skip
      all_goals (first | go_ret | skip)
      all_goals refine ⟨ret_i ?_, (Below.refl _ _).alloc (Nat.le_refl _) _⟩
      all_goals rw [HG.out, if_neg (by omega)]
      all_goals clear HG
      all_goals simp only [if_true, if_false, decide_eq_true_eq, Int.reduceEq]
      all_goals first | (rw [if_pos (by omega)]; done) | (rw [if_neg (by omega)]; done) | (simp_all; done) | (simp_all; omega) | ((repeat' split) <;> first | rfl | (exfalso; omega) | (exfalso; simp_all; done) | (exfalso; simp_all; omega))
    · skip
      clear h
      go_enter Try.func16, Try.ntmps16
      go_wp2
      all_goals first | (exfalso; omega) | skip
      all_goals (first | go_ret | skip)
      all_goals refine ⟨ret_i ?_, (Below.refl _ _).alloc (Nat.le_refl _) _⟩
      all_goals rw [HG.out, if_neg (by omega)]
      all_goals clear HG
      all_goals simp only [if_true, if_false, decide_eq_true_eq, Int.reduceEq]
      all_goals first | (rw [if_pos (by omega)]; done) | (rw [if_neg (by omega)]; done) | (simp_all; done) | (simp_all; omega) | ((repeat' split) <;> first | rfl | (exfalso; omega) | (exfalso; simp_all; done) | (exfalso; simp_all; omega))
    · skip
      clear h
      go_enter Try.func16, Try.ntmps16
      go_wp2
      all_goals first | (exfalso; omega) | skip
      all_goals (first | go_ret | skip)
      all_goals refine ⟨ret_i ?_, (Below.refl _ _).alloc (Nat.le_refl _) _⟩
      all_goals rw [HG.out, if_neg (by omega)]
      all_goals clear HG
      all_goals simp only [if_true, if_false, decide_eq_true_eq, Int.reduceEq]
      all_goals first | (rw [if_pos (by omega)]; done) | (rw [if_neg (by omega)]; done) | (simp_all; done) | (simp_all; omega) | ((repeat' split) <;> first | rfl | (exfalso; omega) | (exfalso; simp_all; done) | (exfalso; simp_all; omega))
    · skip
      clear h
      go_enter Try.func16, Try.ntmps16
      go_wp2
      all_goals first | (exfalso; omega) | skip
      all_goals (first | go_ret | skip)
      all_goals refine ⟨ret_i ?_, (Below.refl _ _).alloc (Nat.le_refl _) _⟩
      all_goals rw [HG.out, if_neg (by omega)]
      all_goals clear HG
      all_goals simp only [if_true, if_false, decide_eq_true_eq, Int.reduceEq]
      all_goals first | (rw [if_pos (by omega)]; done) | (rw [if_neg (by omega)]; done) | (simp_all; done) | (simp_all; omega) | ((repeat' split) <;> first | rfl | (exfalso; omega) | (exfalso; simp_all; done) | (exfalso; simp_all; omega))
end Go.Proofs.Ytgcnklnhambpjaa
