/- The reference's guard: the messages behind one that is zero. -/
import Derived.Test.YtgcnklnhambpjaaAwakeF
import Derived.Test.YtgcnklnhambpjaaCloneM
namespace Go.Proofs.Ytgcnklnhambpjaa
open Go.RowKit
def zeroMsg : Msg := ⟨0, 0, 0, 0, 0, 0, 0⟩
set_option maxHeartbeats 4000000 in
theorem rguard_any (xs : List Msg) (A : Option Addr) (c : Nat) (w : World) (hR : Rd EMsg w A xs) (hl : (xs.length + 1) * 56 ≤ 140737488355328) :
    Calls Try.prog 48 #[.slice A xs.length c] w (Made EMsg 23 (zeroMsg :: xs) w) := by
  obtain ⟨i0, hi, hzz⟩ := Option.map_eq_some_iff.1 infoM
  simp only [Prod.mk.injEq] at hzz
  obtain ⟨hz0, hz1, hz2⟩ := hzz
  have HR := hid_of hR
  clear hR
  cases A with
  | none =>
    have h0 : xs = [] := by
      rcases Nat.eq_zero_or_pos xs.length with h | h
      · exact List.eq_nil_of_length_eq_zero h
      · obtain ⟨ad, h, _⟩ := HR.out.2 h; cases h
    subst h0
    clear HR hl hi hz0 hz1 hz2
    go_enter Try.func48, Try.ntmps48
    go_wp2
    go_ret
    exact ⟨_, rfl, ⟨rfl, .inr ⟨_, 1, _, rfl, Nat.le_refl _, blkN _ _, by decide, by decide, by decide, by rfl⟩⟩, (Below.refl _ _).alloc (Nat.le_refl _) _⟩
  | some ad =>
    have hc : ∀ j u, (EMsg.flat xs)[j]? = some u → w.cell? (ad.add j) = some u := fun j u hu => by
      have hlen : 0 < xs.length := by
        rcases Nat.eq_zero_or_pos xs.length with h | h
        · rw [List.eq_nil_of_length_eq_zero h] at hu; simp [Enc.flat] at hu
        · exact h
      obtain ⟨ad', h, hc⟩ := HR.out.2 hlen
      cases h
      exact hc j u hu
    have HC : Hid (∀ j u, (EMsg.flat xs)[j]? = some u → w.cell? (ad.add j) = some u) := hc
    clear hc
    have hO : Own EMsg 23 (w.alloc (.cells #[.int .i64 0, .int .i64 0, .int .i64 0, .int .i64 0, .int .i64 0, .int .i64 0, .int .i64 0] 23)) w.heap.size (.slice (some ⟨w.heap.size, 0, none⟩) 1 1) [zeroMsg] :=
      ⟨rfl, .inr ⟨_, 1, _, rfl, Nat.le_refl _, blkN _ _, by decide, by decide, by decide, by rfl⟩⟩
    have HO := hid_of hO
    clear hO
    go_enter Try.func48, Try.ntmps48
    go_wp2_with (at_builtin; refine wpList_append_own _ rfl _ _ 24 rfl w.heap.size 23 i0 _ 7 56 Try.underlying24 hi hz0 hz1 hz2 rfl (by decide) _ _ _ rfl HO.out ad xs.length c (EMsg.flat xs) rfl ?qc1 ?qc2 ?qc3 ?qc4 ?qc5 ?qc6 ?_)
    case qc1 => exact EMsg.flat_length xs
    case qc2 => intro j u hj; exact cell_below ((Below.refl _ _).alloc (Nat.le_refl _) _) (HC.out j u hj)
    case qc3 => exact EMsg.flat_one' xs
    case qc4 => simp only [maxLen, List.length_singleton]; omega
    case qc5 => simp only [List.length_singleton]; omega
    case qc6 => simp
    intro v' w1 hown hgrow hnil
    have hb : Below w.heap.size w w1 := ((Below.refl _ w).alloc (Nat.le_refl _) _).grown hgrow (by simp) (by intro k hk; simp [Value.ownBlock] at hk; omega)
    have hown' : Own EMsg 23 w1 w.heap.size v' (zeroMsg :: xs) := by
      unfold Own
      rw [List.length_cons, Nat.add_comm]
      exact hown
    have HO1 := hid_of hown'
    clear hown hown' hgrow hnil
    go_wp2
    go_ret
    exact ⟨_, rfl, HO1.out, hb⟩
end Go.Proofs.Ytgcnklnhambpjaa
