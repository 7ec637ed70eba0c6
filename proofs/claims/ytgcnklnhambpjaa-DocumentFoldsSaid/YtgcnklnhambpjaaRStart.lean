/- The reference's Start: what it returns for every slice of messages. -/
import Derived.Test.YtgcnklnhambpjaaRFew
namespace Go.Proofs.Ytgcnklnhambpjaa
open Go.RowKit
theorem badM_ne (m : Msg) : badM m = (chkM m != 0) := rfl
set_option maxHeartbeats 4000000 in
set_option maxRecDepth 100000 in
theorem rstart_any (l : List Msg) (A : Option Addr) (c : Nat) (w : World) (hR : Rd EMsg w A l) : Calls Try.prog 42 #[.slice A l.length c] w (RInt (startR l) w) := by
  have hle := hR.le
  have hg : startR l = startR l := rfl
  conv at hg => rhs; unfold startR
  generalize startR l = r at hg ⊢
  have HG := hid_of hg
  have HR := hid_of hR
  clear hg hR
  have hchk := fun (m : Msg) (W : World) => rcheck_any m W
  unfold RInt at hchk ⊢
  by_cases h64 : l.length > 64
  · have hr := HG.out
    rw [if_pos h64] at hr
    subst hr
    clear HG HR hchk
    go_enter Try.func42, Try.ntmps42
    go_wp2
    go_ret
    exact ⟨rfl, Below.refl _ _⟩
  · have hs : l.length ≤ 64 := by omega
    have hr := HG.out
    rw [if_neg h64] at hr
    have HG := hid_of hr
    clear hr h64
    go_enter Try.func42, Try.ntmps42
    go_wp2_with fail
    go_loopg [3] l.length (fun gg s3 wr => ∃ k : Nat, k ≤ l.length ∧ l.length - k ≤ gg ∧ s3 = .int .i64 k ∧ Hid (∀ j (hj : j < l.length), j < k → badM l[j] = false) ∧ Hid (Below w.heap.size w wr))
    case atStart => exact ⟨0, Nat.zero_le _, by omega, rfl, fun j _ h => absurd h (by omega), Below.refl _ _⟩
    case round =>
      obtain ⟨k, hk, hg, rfl, HA, BW⟩ := hrel
      by_cases hlt : k < l.length
      · obtain ⟨ad, rfl, c0, c1, c2, c3, c4, c5, c6⟩ := Msg.at_ (HR.out.below BW.out) k hlt
        have hc := hchk l[k]
        have hb := badM_ne l[k]
        generalize hx : l[k] = x at hc hb c0 c1 c2 c3 c4 c5 c6
        have HX := hid_of hx
        clear hx hchk
        generalize chkM x = q at hc hb
        by_cases hq : q = 0
        · subst hq
          have HB := hid_of hb
          clear hb
          go_wp2_with fail
          refine (hc _).mono ?_
          rintro e w1 ⟨rfl, hb1⟩
          go_wp2_with fail
          go_roundg (l.length - (k + 1))
          case measure => omega
          case rel =>
            refine ⟨k + 1, by omega, Nat.le_refl _, by go_num, (show Hid _ from fun j hj hjk => ?_), below_then BW.out BW.out.size hb1⟩
            by_cases e : j = k
            · subst e
              rw [HX.out, HB.out]; rfl
            · exact HA.out j hj (by omega)
        · have hne : (q != 0) = true := by simpa using hq
          have HB := hid_of hb
          clear hb hq
          go_wp2_with fail
          refine (hc _).mono ?_
          rintro e w1 ⟨rfl, hb1⟩
          go_wp2_with fail
          go_ret
          refine ⟨ret_i ?_, below_then BW.out BW.out.size hb1⟩
          rw [HG.out, if_pos]
          rw [List.any_eq_true]
          exact ⟨l[k], List.getElem_mem _, by rw [HX.out, HB.out]; exact hne⟩
      · go_wp2_with fail
        go_ret
        refine ⟨ret_i ?_, BW.out⟩
        rw [HG.out, if_neg]
        rw [Bool.not_eq_true, List.any_eq_false]
        intro x hx
        obtain ⟨i, hi, rfl⟩ := List.getElem_of_mem hx
        rw [HA.out i hi (by omega)]; simp
end Go.Proofs.Ytgcnklnhambpjaa
