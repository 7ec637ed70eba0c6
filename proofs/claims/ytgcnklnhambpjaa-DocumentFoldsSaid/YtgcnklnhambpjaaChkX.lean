/- document.Check: what it returns for every message. -/
import Derived.Test.YtgcnklnhambpjaaChk
import Derived.Sort.Grow
namespace Go.Proofs.Ytgcnklnhambpjaa
open Go.RowKit
def ChkPost (m : Msg) (w : World) (e : Ending) (w' : World) : Prop := e = .returned (.int .i64 (chkM m)) ∧ Below w.heap.size w w'
set_option maxHeartbeats 4000000 in
set_option maxRecDepth 100000 in
theorem check_range (m : Msg) (w : World) (h : m.mv < 1 ∨ m.mv > 1073741824 ∨ m.kd < 1 ∨ m.kd > 5 ∨ m.dy < 0 ∨ m.dy > 100000) : Calls Try.prog 15 #[m.v] w (ChkPost m w) := by
  have hc : chkM m = 2 := by unfold chkM; rw [if_pos h]
  have HC := hid_of hc
  have HH := hid_of h
  clear hc h
  obtain ⟨a0, a1, a2, a3, a4, a5, a6⟩ := m
  go_enter Try.func15, Try.ntmps15
  by_cases h0 : a0 < 1
  · go_wp2
    go_ret
    exact ⟨ret_i HC.out.symm, (Below.refl _ _).alloc (Nat.le_refl _) _⟩
  by_cases h1 : a0 > 1073741824
  · go_wp2
    go_ret
    exact ⟨ret_i HC.out.symm, (Below.refl _ _).alloc (Nat.le_refl _) _⟩
  by_cases h2 : a1 < 1
  · go_wp2
    go_ret
    exact ⟨ret_i HC.out.symm, (Below.refl _ _).alloc (Nat.le_refl _) _⟩
  by_cases h3 : a1 > 5
  · go_wp2
    go_ret
    exact ⟨ret_i HC.out.symm, (Below.refl _ _).alloc (Nat.le_refl _) _⟩
  by_cases h4 : a3 < 0
  · go_wp2
    go_ret
    exact ⟨ret_i HC.out.symm, (Below.refl _ _).alloc (Nat.le_refl _) _⟩
  · have h5 : a3 > 100000 := by have := HH.out; dsimp only at this; omega
    go_wp2
    go_ret
    exact ⟨ret_i HC.out.symm, (Below.refl _ _).alloc (Nat.le_refl _) _⟩
end Go.Proofs.Ytgcnklnhambpjaa
