/- compare of messages, and cmp.Or, cmp.Compare at int. -/
import Derived.Test.YtgcnklnhambpjaaIdxM
import Derived.StillTailTactics
import Derived.RegionTactic
import Derived.Sort.Grow
namespace Go.Proofs.Ytgcnklnhambpjaa
open Go.RowKit

def cmpI (x y : Int) : Int := if x < y then -1 else if y < x then 1 else 0
set_option maxHeartbeats 1000000 in
theorem isNaN_any (n : Int) (w : World) : Calls Try.prog 71 #[.int .i64 n] w fun e w' => e = .returned (.bool false) ∧ w = w' := by
  go_enter Try.func71, Try.ntmps71
  go_wp2
  go_ret
  exact ⟨by simp, rfl⟩
set_option maxHeartbeats 1000000 in
theorem compareI_any (x y : Int) (w : World) : Calls Try.prog 58 #[.int .i64 x, .int .i64 y] w fun e w' => e = .returned (.int .i64 (cmpI x y)) ∧ w = w' := by
  go_enter Try.func58, Try.ntmps58
  go_wp2_with (go_at_call 71; refine (isNaN_any _ _).mono ?_; rintro e w' ⟨rfl, rfl⟩)
  all_goals (go_ret; refine ⟨ret_i ?_, rfl⟩; simp only [cmpI]; (repeat (first | rw [if_pos (by omega)] | rw [if_neg (by omega)])))

def EI : Enc Int := ⟨fun x => [.int .i64 x], 1, fun _ => rfl, fun x v h => by simp only [List.mem_cons, List.not_mem_nil, or_false] at h; rw [h]; rfl, by decide⟩
theorem I.at_ {w : World} {A : Option Addr} {xs : List Int} (h : Rd EI w A xs) (i : Nat) (hi : i < xs.length) : ∃ ad, A = some ad ∧ w.cell? (ad.add i) = some (.int .i64 xs[i]) := by
  obtain ⟨ad, ha, hc⟩ := h.at_ i hi
  exact ⟨ad, ha, by simpa [EI] using hc 0 _ rfl⟩
/-- The first that is not 0. -/
def orI (l : List Int) : Int := match l.find? (fun x => x != 0) with | some x => x | none => 0
theorem orI_hit (l : List Int) (k : Nat) (hk : k < l.length) (hp : l[k] ≠ 0) (hb : ∀ j (hj : j < k), l[j]'(by omega) = 0) : orI l = l[k] := by
  induction l generalizing k with
  | nil => simp at hk
  | cons x l ih =>
    unfold orI
    cases k with
    | zero => rw [List.find?_cons_of_pos (by simpa using hp)]; rfl
    | succ k =>
      have h0 : x = 0 := hb 0 (by omega)
      rw [List.find?_cons_of_neg (by simp [h0])]
      exact ih k (by simpa using hk) hp (fun j hj => hb (j + 1) (by omega))
theorem orI_miss (l : List Int) (hb : ∀ j (hj : j < l.length), l[j] = 0) : orI l = 0 := by
  unfold orI
  rw [List.find?_eq_none.2 (fun x hx => by obtain ⟨i, hi, rfl⟩ := List.getElem_of_mem hx; simp [hb i hi])]
set_option maxHeartbeats 1000000 in
theorem or_any (xs : List Int) (A : Option Addr) (c : Nat) (w : World) (hR : Rd EI w A xs) : Calls Try.prog 57 #[.slice A xs.length c] w fun e w' => e = .returned (.int .i64 (orI xs)) ∧ w = w' := by
  have hle := hR.le
  go_enter Try.func57, Try.ntmps57
  go_wp2
  go_loopg [5, 8] xs.length (fun gg _ s8 wr => ∃ k : Nat, k ≤ xs.length ∧ xs.length - k ≤ gg ∧ s8 = .int .i64 k ∧ w = wr ∧ Hid (∀ j (_ : j < k) (hj : j < xs.length), xs[j] = 0))
  case atStart => exact ⟨0, Nat.zero_le _, by omega, rfl, rfl, fun j hj => absurd hj (Nat.not_lt_zero _)⟩
  case round =>
    obtain ⟨k, hk, hg, rfl, rfl, HA⟩ := hrel
    by_cases hlt : k < xs.length
    · obtain ⟨ad, rfl, c0⟩ := I.at_ hR k hlt
      have HX : Hid (Rd EI w (some ad) xs) := hR
      clear hR
      generalize hy : xs[k] = y at *
      have HY : Hid (xs[k] = y) := hy
      clear hy
      by_cases h0 : y = 0
      · subst h0
        go_wp2
        go_roundg (xs.length - (k + 1))
        case measure => omega
        case rel =>
          refine ⟨k + 1, by omega, by omega, by go_num, rfl, (show Hid _ from fun j hj hj' => ?_)⟩
          by_cases e : j = k
          · subst e
            exact HY.out
          · exact HA.out j (by omega) hj'
      · have h1 : (y != 0) = true := by simpa using h0
        have H0 : Hid (y ≠ 0) := h0
        clear h0
        go_wp2
        go_ret
        refine ⟨?_, rfl⟩
        rw [orI_hit xs k hlt (by rw [HY.out]; exact H0.out) (fun j hj => HA.out j hj (by omega)), HY.out]
        rfl
    · have : k = xs.length := by omega
      subst this
      go_wp2
      go_ret
      refine ⟨?_, rfl⟩
      rw [orI_miss xs (fun j hj => HA.out j hj hj)]
      rfl
end Go.Proofs.Ytgcnklnhambpjaa
