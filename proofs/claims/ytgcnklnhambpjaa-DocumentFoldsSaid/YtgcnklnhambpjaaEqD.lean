/- slices.Equal of documents and of messages. -/
import Derived.Test.YtgcnklnhambpjaaOfW
import Derived.Test.YtgcnklnhambpjaaEq
namespace Go.Proofs.Ytgcnklnhambpjaa
open Go.RowKit
attribute [local go_sem high] eqDoc eqMsg
theorem eq_of_all {α : Type} [DecidableEq α] (xs ys : List α) (h : xs.length = ys.length) (ha : ∀ j (hj : j < xs.length) (hj' : j < ys.length), xs[j] = ys[j]) : decide (xs = ys) = true := by
  rw [decide_eq_true_eq]
  exact List.ext_getElem h (fun j h1 h2 => ha j h1 h2)
theorem ne_of_at {α : Type} [DecidableEq α] (xs ys : List α) (j : Nat) (h1 : j < xs.length) (h2 : j < ys.length) (h : xs[j] ≠ ys[j]) : decide (xs = ys) = false := by
  rw [decide_eq_false_iff_not]
  intro e; subst e; exact h rfl
theorem ne_of_len {α : Type} [DecidableEq α] (xs ys : List α) (h : xs.length ≠ ys.length) : decide (xs = ys) = false := by
  rw [decide_eq_false_iff_not]
  intro e; subst e; exact h rfl
set_option maxHeartbeats 4000000 in
set_option maxRecDepth 100000 in
theorem equalD (xs ys : List Doc) (A B : Option Addr) (c d : Nat) (w : World) (hA : Rd EDoc w A xs) (hB : Rd EDoc w B ys) : Calls Try.prog 34 #[.slice A xs.length c, .slice B ys.length d] w fun e w' => e = .returned (.bool (decide (xs = ys))) ∧ Below w.heap.size w w' := by
  have hlx := hA.le
  have hly := hB.le
  by_cases hlen : xs.length = ys.length
  · have hw : ∀ r, r = decide (xs = ys) → Calls Try.prog 34 #[.slice A xs.length c, .slice B ys.length d] w fun e w' => e = .returned (.bool r) ∧ Below w.heap.size w w' := by
      intro r hr
      have HR := hid_of hr
      clear hr
      have HL := hid_of hlen
      rw [← hlen]
      clear hlen hly
      go_enter Try.func34, Try.ntmps34
      go_wp2
      go_loopg [5, 13] xs.length (fun gg _ s13 wr => ∃ (k q : Nat), k ≤ xs.length ∧ xs.length - k ≤ gg ∧ s13 = .int .i64 k ∧ wr = w.drewN q ∧ Hid (∀ j (hj : j < xs.length) (hj' : j < ys.length), j < k → xs[j] = ys[j]))
      case atStart => exact ⟨0, 0, Nat.zero_le _, by omega, rfl, rfl, fun j _ _ h => absurd h (by omega)⟩
      case round =>
        obtain ⟨k, q, hk, hg, rfl, rfl, HA⟩ := hrel
        by_cases hlt : k < xs.length
        · have hlt2 : k < ys.length := by rw [← HL.out]; exact hlt
          obtain ⟨ad, rfl, c0, c1, c2, c3, c4, c5, c6⟩ := Doc.at_ hA k hlt
          obtain ⟨ad', rfl, d0, d1, d2, d3, d4, d5, d6⟩ := Doc.at_ hB k hlt2
          generalize hx : xs[k] = x at c0 c1 c2 c3 c4 c5 c6
          generalize hy : ys[k] = y at d0 d1 d2 d3 d4 d5 d6
          have HX : Hid (xs[k] = x ∧ ys[k] = y) := ⟨hx, hy⟩
          have HA1 := hid_of hA
          have HB1 := hid_of hB
          clear hx hy hA hB
          by_cases hxy : x = y
          · subst hxy
            go_wp2_with fail
            go_quiet (fail)
            go_wp2_with fail
            go_roundg (xs.length - (k + 1))
            case measure => omega
            case rel =>
              refine ⟨k + 1, q + nq, by omega, Nat.le_refl _, by go_num, by first | rfl | simp [World.drewN, Nat.add_assoc] | exact World.drewN_add .. , (show Hid _ from fun j hj hj' hjk => ?_)⟩
              by_cases e : j = k
              · subst e; exact HX.out.1.trans HX.out.2.symm
              · exact HA.out j hj hj' (by omega)
          · have hd : decide (x = y) = false := by simpa using hxy
            have HN := hid_of hxy
            clear hxy
            go_wp2_with fail
            go_quiet (fail)
            go_wp2_with fail
            go_ret
            refine ⟨ret_b ?_, below_drewN (below_drewN (Below.refl _ _) _) _⟩
            rw [HR.out, ne_of_at xs ys k hlt (by rw [← HL.out]; exact hlt) (by rw [HX.out.1, HX.out.2]; exact HN.out)]
        · go_wp2_with fail
          go_ret
          refine ⟨ret_b ?_, below_drewN (Below.refl _ _) _⟩
          rw [HR.out, eq_of_all xs ys HL.out (fun j hj hj' => HA.out j hj hj' (by omega))]
    exact hw _ rfl
  · rw [ne_of_len xs ys hlen]
    have hn : ((xs.length : Int) != (ys.length : Int)) = true := by simp; omega
    clear hA hB
    go_enter Try.func34, Try.ntmps34
    go_wp2
    go_ret
    exact ⟨rfl, Below.refl _ _⟩
set_option maxHeartbeats 4000000 in
set_option maxRecDepth 100000 in
theorem equalM (xs ys : List Msg) (A B : Option Addr) (c d : Nat) (w : World) (hA : Rd EMsg w A xs) (hB : Rd EMsg w B ys) : Calls Try.prog 35 #[.slice A xs.length c, .slice B ys.length d] w fun e w' => e = .returned (.bool (decide (xs = ys))) ∧ Below w.heap.size w w' := by
  have hlx := hA.le
  have hly := hB.le
  by_cases hlen : xs.length = ys.length
  · have hw : ∀ r, r = decide (xs = ys) → Calls Try.prog 35 #[.slice A xs.length c, .slice B ys.length d] w fun e w' => e = .returned (.bool r) ∧ Below w.heap.size w w' := by
      intro r hr
      have HR := hid_of hr
      clear hr
      have HL := hid_of hlen
      rw [← hlen]
      clear hlen hly
      go_enter Try.func35, Try.ntmps35
      go_wp2
      go_loopg [5, 13] xs.length (fun gg _ s13 wr => ∃ (k q : Nat), k ≤ xs.length ∧ xs.length - k ≤ gg ∧ s13 = .int .i64 k ∧ wr = w.drewN q ∧ Hid (∀ j (hj : j < xs.length) (hj' : j < ys.length), j < k → xs[j] = ys[j]))
      case atStart => exact ⟨0, 0, Nat.zero_le _, by omega, rfl, rfl, fun j _ _ h => absurd h (by omega)⟩
      case round =>
        obtain ⟨k, q, hk, hg, rfl, rfl, HA⟩ := hrel
        by_cases hlt : k < xs.length
        · have hlt2 : k < ys.length := by rw [← HL.out]; exact hlt
          obtain ⟨ad, rfl, c0, c1, c2, c3, c4, c5, c6⟩ := Msg.at_ hA k hlt
          obtain ⟨ad', rfl, d0, d1, d2, d3, d4, d5, d6⟩ := Msg.at_ hB k hlt2
          generalize hx : xs[k] = x at c0 c1 c2 c3 c4 c5 c6
          generalize hy : ys[k] = y at d0 d1 d2 d3 d4 d5 d6
          have HX : Hid (xs[k] = x ∧ ys[k] = y) := ⟨hx, hy⟩
          have HA1 := hid_of hA
          have HB1 := hid_of hB
          clear hx hy hA hB
          by_cases hxy : x = y
          · subst hxy
            go_wp2_with fail
            go_quiet (fail)
            go_wp2_with fail
            go_roundg (xs.length - (k + 1))
            case measure => omega
            case rel =>
              refine ⟨k + 1, q + nq, by omega, Nat.le_refl _, by go_num, by first | rfl | simp [World.drewN, Nat.add_assoc] | exact World.drewN_add .. , (show Hid _ from fun j hj hj' hjk => ?_)⟩
              by_cases e : j = k
              · subst e; exact HX.out.1.trans HX.out.2.symm
              · exact HA.out j hj hj' (by omega)
          · have hd : decide (x = y) = false := by simpa using hxy
            have HN := hid_of hxy
            clear hxy
            go_wp2_with fail
            go_quiet (fail)
            go_wp2_with fail
            go_ret
            refine ⟨ret_b ?_, below_drewN (below_drewN (Below.refl _ _) _) _⟩
            rw [HR.out, ne_of_at xs ys k hlt (by rw [← HL.out]; exact hlt) (by rw [HX.out.1, HX.out.2]; exact HN.out)]
        · go_wp2_with fail
          go_ret
          refine ⟨ret_b ?_, below_drewN (Below.refl _ _) _⟩
          rw [HR.out, eq_of_all xs ys HL.out (fun j hj hj' => HA.out j hj hj' (by omega))]
    exact hw _ rfl
  · rw [ne_of_len xs ys hlen]
    have hn : ((xs.length : Int) != (ys.length : Int)) = true := by simp; omega
    clear hA hB
    go_enter Try.func35, Try.ntmps35
    go_wp2
    go_ret
    exact ⟨rfl, Below.refl _ _⟩
end Go.Proofs.Ytgcnklnhambpjaa
