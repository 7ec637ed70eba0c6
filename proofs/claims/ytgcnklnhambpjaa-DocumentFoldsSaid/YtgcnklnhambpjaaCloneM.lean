/- slices.Clone of messages. -/
import Derived.Test.YtgcnklnhambpjaaIdxM
import Derived.Lib.SliceRun
namespace Go.Proofs.Ytgcnklnhambpjaa
open Go.RowKit
theorem infoM : (Try.prog.info? 23).map (fun i => (i.zero, i.size, i.bytes)) = some (some (.agg #[.int .i64 0, .int .i64 0, .int .i64 0, .int .i64 0, .int .i64 0, .int .i64 0, .int .i64 0]), 7, 56) := by kernel_rfl
set_option maxHeartbeats 2000000 in
theorem cloneM (xs : List Msg) (A : Option Addr) (c : Nat) (w : World) (hR : Rd EMsg w A xs) (hl : xs.length * 56 ≤ 140737488355328) :
    Calls Try.prog 13 #[.slice A xs.length c] w (Made EMsg 23 xs w) := by
  have hq : ∀ (w : World) (a : Option Addr) (n c n' c' : Nat), (binOp .eql 24 (.slice a n c) (.slice none n' c')).run Try.prog w = .ok (.bool a.isNone) w := fun w a n c n' c' => Lib.run_eql_slice_nil w _ _ a n c n' c' Try.underlying24
  obtain ⟨i0, hi, hzz⟩ := Option.map_eq_some_iff.1 infoM
  simp only [Prod.mk.injEq] at hzz
  obtain ⟨hz0, hz1, hz2⟩ := hzz
  cases A with
  | none =>
    have h0 : xs = [] := by
      rcases Nat.eq_zero_or_pos xs.length with h | h
      · exact List.eq_nil_of_length_eq_zero h
      · obtain ⟨ad, h, _⟩ := hR.2 h; cases h
    subst h0
    clear hR hl hi hz0 hz1 hz2
    go_enter Try.func13, Try.ntmps13
    go_wp2
    go_ret
    exact ⟨_, rfl, Own.nil _ _ _ _, Below.refl _ _⟩
  | some ad =>
    have hc : ∀ j u, (EMsg.flat xs)[j]? = some u → w.cell? (ad.add j) = some u := fun j u hu => by
      have hlen : 0 < xs.length := by
        rcases Nat.eq_zero_or_pos xs.length with h | h
        · rw [List.eq_nil_of_length_eq_zero h] at hu; simp [Enc.flat] at hu
        · exact h
      obtain ⟨ad', h, hc⟩ := hR.2 hlen
      cases h
      exact hc j u hu
    have HC : Hid (∀ j u, (EMsg.flat xs)[j]? = some u → w.cell? (ad.add j) = some u) := hc
    clear hc hR
    go_enter Try.func13, Try.ntmps13
    go_wp2_with (at_builtin; refine wpList_append_own _ rfl _ _ 24 rfl w.heap.size 23 i0 _ 7 56 Try.underlying24 hi hz0 hz1 hz2 rfl (by decide) _ _ _ rfl (World.ownsRow_made w #[] 0 (Nat.le_refl _) (Nat.zero_le _) (by simp)) ad xs.length c (EMsg.flat xs) rfl ?qc1 ?qc2 ?qc3 ?qc4 ?qc5 ?qc6 ?_)
    case qc1 => exact EMsg.flat_length xs
    case qc2 => intro j u hj; exact cell_below ((Below.refl _ _).alloc (Nat.le_refl _) _) (HC.out j u hj)
    case qc3 => exact EMsg.flat_one' xs
    case qc4 => simp only [maxLen]; omega
    case qc5 => rw [Nat.zero_add]; exact hl
    case qc6 => simp
    intro v' w1 hown hgrow hnil
    have hb : Below w.heap.size w w1 := ((Below.refl _ w).alloc (Nat.le_refl _) _).grown hgrow (by simp) (by intro k hk; simp [Value.ownBlock] at hk; omega)
    have HO : Hid (Own EMsg 23 w1 w.heap.size v' xs) := hown
    clear hown hgrow hnil
    go_wp2
    go_ret
    exact ⟨_, rfl, HO.out, hb⟩
end Go.Proofs.Ytgcnklnhambpjaa
