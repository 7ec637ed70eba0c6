/- slices.Compact of messages, on a row of the call's own. -/
import Derived.Test.YtgcnklnhambpjaaComp
import Derived.Test.YtgcnklnhambpjaaEq
import Derived.BigRegion
import Derived.BigQuiet
import Derived.Deep.QuietTactic
import Derived.RegionTactic
import Derived.Deep.LoopGhost
import Derived.Outline
namespace Go.Proofs.Ytgcnklnhambpjaa
open Go.RowKit
attribute [local go_sem high] eqMsg
theorem EMsg_zero : ∀ v ∈ (Value.agg #[.int .i64 0, .int .i64 0, .int .i64 0, .int .i64 0, .int .i64 0, .int .i64 0, .int .i64 0]).cells, v.oneCell' = true := by decide
set_option maxHeartbeats 4000000 in
set_option maxRecDepth 100000 in
theorem compactM (xs : List Msg) (g cap : Nat) (w : World) (hO : Row EMsg 23 w g cap xs) :
    Calls Try.prog 41 #[.slice (some ⟨g, 0, none⟩) xs.length cap] w fun e w' => e = .returned (.slice (some ⟨g, 0, none⟩) (comp xs).length cap) ∧ Row EMsg 23 w' g cap (comp xs) ∧ w.grownBy w' (some g) := by
  have hle := hO.le
  have hcl := hO.cap_le
  by_cases h2 : xs.length < 2
  · have HO := hid_of hO
    clear hO
    go_enter Try.func41, Try.ntmps41
    go_wp2
    go_ret
    rw [comp_one xs h2]
    exact ⟨rfl, HO.out, World.grownBy.refl _ _⟩
  · have HO := hid_of hO
    clear hO
    go_enter Try.func41, Try.ntmps41
    go_wp2
    go_loopg [3] xs.length (fun gg s3 wr => ∃ k q : Nat, 1 ≤ k ∧ k ≤ xs.length ∧ xs.length - k ≤ gg ∧ s3 = .int .i64 k ∧ wr = w.drewN q ∧ Hid (∀ j, 0 < j → (hj : j < xs.length) → j < k → xs[j] ≠ xs[j - 1]))
    case atStart => exact ⟨1, 0, Nat.le_refl _, by omega, by omega, rfl, rfl, fun j h0 _ hj => by omega⟩
    case round =>
      obtain ⟨k, q, hk1, hk, hg, rfl, rfl, HA⟩ := hrel
      by_cases hlt : k < xs.length
      · obtain ⟨ad, had, c0, c1, c2, c3, c4, c5, c6⟩ := Msg.at_ HO.out.rd k hlt
        obtain ⟨ad', had', d0, d1, d2, d3, d4, d5, d6⟩ := Msg.at_ HO.out.rd (k - 1) (by omega)
        cases had
        cases had'
        simp only [addr_plain] at c0 c1 c2 c3 c4 c5 c6 d0 d1 d2 d3 d4 d5 d6
        generalize hx : xs[k] = x at c0 c1 c2 c3 c4 c5 c6
        generalize hy : xs[k - 1] = y at d0 d1 d2 d3 d4 d5 d6
        have HX : Hid (xs[k] = x ∧ xs[k - 1]'(by omega) = y) := ⟨hx, hy⟩
        clear hx hy
        by_cases hxy : x = y
        · have hd : decide (x = y) = true := by simpa using hxy
          subst hxy
          clear hd
          go_wp2_with fail
          go_quiet (fail)
          go_wp2
          clear c0 c1 c2 c3 c4 c5 c6 d0 d1 d2 d3 d4 d5 d6
          have HI := hid_of (CInv.start (xs := xs) (by omega) hlt (fun j h0 hj => HA.out j h0 (by omega) hj) (HX.out.1.trans HX.out.2.symm))
          go_loopg [3, 5] xs.length (fun gg s3 s5 wr => ∃ (kk k2 : Nat) (dk : List Msg), s3 = .int .i64 kk ∧ s5 = .int .i64 k2 ∧ 1 ≤ k2 ∧ k + k2 ≤ xs.length ∧ xs.length - (k + k2) ≤ gg ∧ Hid (Row EMsg 23 wr g cap dk) ∧ Hid (w.grownBy wr (some g)) ∧ Hid (CInv xs dk (k + k2) kk))
          case atStart => exact ⟨k, 1, xs, rfl, rfl, Nat.le_refl _, by omega, by omega, HO.out.drewN _, ⟨rfl, rfl, rfl, Nat.le_refl _, fun _ _ _ => rfl⟩, HI.out⟩
          case round =>
            obtain ⟨kk, k2, dk, rfl, rfl, h1, hle2, hg2, HR, HG, HI2⟩ := hrel
            have hkk := HI2.out.lt
            have hl1 : dk.length ≤ xs.length := by rw [HI2.out.len]; exact Nat.le_refl _
            have hl2 : xs.length ≤ dk.length := by rw [HI2.out.len]; exact Nat.le_refl _
            by_cases hlt2 : k + k2 < xs.length
            · obtain ⟨ad, had, c0, c1, c2, c3, c4, c5, c6⟩ := Msg.at_ HR.out.rd (k + k2) (by omega)
              obtain ⟨ad', had', d0, d1, d2, d3, d4, d5, d6⟩ := Msg.at_ HR.out.rd (k + k2 - 1) (by omega)
              obtain ⟨ad'', had'', e0, e1, e2, e3, e4, e5, e6⟩ := Msg.at_ HR.out.rd kk (by omega)
              cases had
              cases had'
              cases had''
              have hfz := fun j => HR.out.frozen j
              simp only [addr_plain] at c0 c1 c2 c3 c4 c5 c6 d0 d1 d2 d3 d4 d5 d6 e0 e1 e2 e3 e4 e5 e6
              have q1 : (k + k2) * 7 = k * 7 + k2 * 7 := by omega
              have q2 : (k + k2 - 1) * 7 = k * 7 + (k2 - 1) * 7 := by omega
              rw [q1] at c0 c1 c2 c3 c4 c5 c6
              rw [q2] at d0 d1 d2 d3 d4 d5 d6
              clear q1 q2
              have hu0 : dk[k + k2]'(by omega) = xs[k + k2] := by
                have := HI2.out.high (k + k2) (by omega)
                rwa [List.getElem?_eq_getElem (by omega), List.getElem?_eq_getElem hlt2, Option.some.injEq] at this
              have hv0 : dk[k + k2 - 1]'(by omega) = xs[k + k2 - 1] := by
                have := HI2.out.high (k + k2 - 1) (by omega)
                rwa [List.getElem?_eq_getElem (by omega), List.getElem?_eq_getElem (by omega), Option.some.injEq] at this
              rw [hu0] at c0 c1 c2 c3 c4 c5 c6
              rw [hv0] at d0 d1 d2 d3 d4 d5 d6
              clear hu0 hv0
              generalize hu : xs[k + k2] = u at c0 c1 c2 c3 c4 c5 c6
              generalize hv : xs[k + k2 - 1] = v at d0 d1 d2 d3 d4 d5 d6
              generalize dk[kk] = old at e0 e1 e2 e3 e4 e5 e6
              have HC := hid_of hu
              have HD := hid_of hv
              clear hu hv
              by_cases huv : u = v
              · subst huv
                clear e0 e1 e2 e3 e4 e5 e6 hfz
                go_wp2_with fail
                go_quiet (fail)
                go_wp2
                go_roundg (xs.length - (k + (k2 + 1)))
                case measure => omega
                case rel => exact ⟨kk, k2 + 1, dk, rfl, by go_num, by omega, by omega, Nat.le_refl _, HR.out.drewN _, World.grownBy.trans HG.out ⟨rfl, rfl, rfl, Nat.le_refl _, fun _ _ _ => rfl⟩, HI2.out.skip hlt2 (HC.out.trans HD.out.symm)⟩
              · have hd : decide (u = v) = false := by simpa using huv
                have HUV := hid_of huv
                clear huv
                go_wp2_with fail
                go_quiet (fail)
                go_wp2
                go_roundg (xs.length - (k + (k2 + 1)))
                case measure => omega
                case rel =>
                  have hs := (HR.out.drewN nq).set kk (by omega) u
                  refine ⟨kk + 1, k2 + 1, dk.set kk u, by go_num, by go_num, by omega, by omega, Nat.le_refl _, hs.1, World.grownBy.trans HG.out (World.grownBy.trans (b := wr.drewN nq) ⟨rfl, rfl, rfl, Nat.le_refl _, fun _ _ _ => rfl⟩ hs.2), ?_⟩
                  have hc := HI2.out.keep hlt2 (by rw [HC.out, HD.out]; exact HUV.out)
                  rw [HC.out] at hc
                  exact hc
            · have hend : k + k2 = xs.length := by omega
              obtain ⟨w2, hcl2, hrow, hgr⟩ := HR.out.clear kk (xs.length - kk) (cap - kk) Try.underlying24 Try.zeroValue23 rfl EMsg_zero (by omega) (by omega)
              have hcl3 : ∀ ty, (Builtin.clear_ #[24] ty #[.slice (some ⟨g, kk * 7, none⟩) (xs.length - kk) (cap - kk)]).run Try.prog wr = .ok (.tuple #[]) w2 := hcl2
              have HH := hid_of hend
              have HRow := hid_of hrow
              have HGr := hid_of hgr
              clear hcl2 hrow hgr hend
              go_wp2
              go_ret
              have hd := HI2.out
              rw [HH.out] at hd
              obtain ⟨e1, e2, e3⟩ := hd.done
              have hr := HRow.out
              rw [e1] at hr
              rw [← e2]
              exact ⟨rfl, hr, World.grownBy.trans HG.out HGr.out⟩
        · have hd : decide (x = y) = false := by simpa using hxy
          have HXY := hid_of hxy
          clear hxy
          go_wp2_with fail
          go_quiet (fail)
          go_wp2
          go_roundg (xs.length - (k + 1))
          case measure => omega
          case rel =>
            refine ⟨k + 1, q + nq, by omega, by omega, Nat.le_refl _, by go_num, rfl, (show Hid _ from fun j h0 hj hjk => ?_)⟩
            by_cases e : j = k
            · subst e
              rw [HX.out.1, HX.out.2]
              exact HXY.out
            · exact HA.out j h0 hj (by omega)
      · have : k = xs.length := by omega
        subst this
        go_wp2
        go_ret
        have hall : comp xs = xs := by
          have := comp_take_all xs xs.length (Nat.le_refl _) (fun j h0 hj => HA.out j h0 hj hj)
          rwa [List.take_of_length_le (Nat.le_refl _)] at this
        rw [hall]
        exact ⟨rfl, HO.out.drewN _, ⟨rfl, rfl, rfl, Nat.le_refl _, fun _ _ _ => rfl⟩⟩
end Go.Proofs.Ytgcnklnhambpjaa
