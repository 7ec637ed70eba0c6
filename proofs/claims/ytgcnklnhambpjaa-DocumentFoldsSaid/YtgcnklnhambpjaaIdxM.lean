/- slices.IndexFunc and slices.ContainsFunc over messages, whatever predicate they are handed that only makes memory. -/
import Derived.Test.YtgcnklnhambpjaaM
import Derived.Deep.LoopGhost
import Derived.Deep.QuietTactic
import Derived.BigQuiet
import Derived.Shelf.Abstract
import Derived.Outline
namespace Go.Proofs.Ytgcnklnhambpjaa
open Go.RowKit

variable {α : Type}
def fidx (p : α → Bool) (xs : List α) : Int := match xs.findIdx? p with | some i => (i : Int) | none => -1
theorem fidx_hit (p : α → Bool) (xs : List α) (k : Nat) (hk : k < xs.length) (hp : p xs[k] = true) (hb : ∀ j (hj : j < k), p (xs[j]'(by omega)) = false) : fidx p xs = k := by
  unfold fidx
  rw [List.findIdx?_eq_some_iff_getElem.2 ⟨hk, hp, fun j hj => by simp [hb j hj]⟩]
theorem fidx_miss (p : α → Bool) (xs : List α) (hb : ∀ j (hj : j < xs.length), p xs[j] = false) : fidx p xs = -1 := by
  unfold fidx
  rw [List.findIdx?_eq_none_iff.2 (fun x hx => by obtain ⟨i, hi, rfl⟩ := List.getElem_of_mem hx; exact hb i hi)]
theorem fidx_any (p : α → Bool) (xs : List α) : decide (0 ≤ fidx p xs) = xs.any p := by
  unfold fidx
  cases h : xs.findIdx? p with
  | none =>
    have h' := List.findIdx?_eq_none_iff.1 h
    simp only [show ¬ (0 : Int) ≤ -1 by omega, decide_false]
    symm; rw [List.any_eq_false]; intro x hx; simp [h' x hx]
  | some i =>
    obtain ⟨hi, hp, _⟩ := List.findIdx?_eq_some_iff_getElem.1 h
    simp only [Int.natCast_nonneg, decide_true]
    symm; rw [List.any_eq_true]; exact ⟨_, List.getElem_mem hi, hp⟩

set_option maxHeartbeats 1000000 in
theorem indexFuncM (xs : List Msg) (p : Msg → Bool) (g : Nat) (cb : Array Value) (A : Option Addr) (c : Nat) (w : World) (hR : Rd EMsg w A xs)
    (eg : ∀ args w, (callFunc g args).run Try.prog w = .ok (.enter g args) w)
    (hp : ∀ (x : Msg) (W : World), Below w.heap.size w W → Calls Try.prog g (#[x.v] ++ cb) W fun e W' => e = .returned (.bool (p x)) ∧ Below W.heap.size W W') :
    Calls Try.prog 51 #[.slice A xs.length c, .func (.func g) #[] cb] w fun e w' => e = .returned (.int .i64 (fidx p xs)) ∧ Below w.heap.size w w' := by
  have hle := hR.le
  go_enter Try.func51, Try.ntmps51
  go_wp2
  go_loopg [5, 8] xs.length (fun gg _ s8 wr => ∃ k : Nat, k ≤ xs.length ∧ xs.length - k ≤ gg ∧ s8 = .int .i64 k ∧ Hid (Below w.heap.size w wr) ∧ Hid (∀ j (_ : j < k) (hj : j < xs.length), p xs[j] = false))
  case atStart => exact ⟨0, Nat.zero_le _, by omega, rfl, Below.refl _ _, fun j hj => absurd hj (Nat.not_lt_zero _)⟩
  case round =>
    obtain ⟨k, hk, hg, rfl, BW, HA⟩ := hrel
    by_cases hlt : k < xs.length
    · obtain ⟨ad, rfl, c0, c1, c2, c3, c4, c5, c6⟩ := Msg.at_ (hR.below BW.out) k hlt
      have hcall := hp xs[k] _ BW.out
      have HX : Hid (Rd EMsg w (some ad) xs) := hR
      clear hR hp
      generalize hy : xs[k] = y at *
      have HY : Hid (xs[k] = y) := hy
      clear hy
      cases hq : p y with
      | true =>
        rw [hq] at hcall
        go_wp2_with (go_at_fn g; refine hcall.mono ?_; rintro e w' ⟨rfl, hb'⟩)
        go_ret
        refine ⟨?_, below_then BW.out BW.out.size hb'⟩
        rw [fidx_hit p xs k hlt (by rw [HY.out]; exact hq) (fun j hj => HA.out j hj (by omega))]
        rfl
      | false =>
        rw [hq] at hcall
        go_wp2_with (go_at_fn g; refine hcall.mono ?_; rintro e w' ⟨rfl, hb'⟩)
        go_roundg (xs.length - (k + 1))
        case measure => omega
        case rel =>
          refine ⟨k + 1, by omega, by omega, by go_num, below_then BW.out BW.out.size hb', (show Hid _ from fun j hj hj' => ?_)⟩
          by_cases e : j = k
          · subst e
            rw [HY.out]; exact hq
          · exact HA.out j (by omega) hj'
    · have : k = xs.length := by omega
      subst this
      go_wp2
      go_ret
      refine ⟨?_, BW.out⟩
      rw [fidx_miss p xs (fun j hj => HA.out j hj hj)]
      rfl

set_option maxHeartbeats 1000000 in
theorem containsFuncM (xs : List Msg) (p : Msg → Bool) (g : Nat) (cb : Array Value) (A : Option Addr) (c : Nat) (w : World) (hR : Rd EMsg w A xs)
    (eg : ∀ args w, (callFunc g args).run Try.prog w = .ok (.enter g args) w)
    (hp : ∀ (x : Msg) (W : World), Below w.heap.size w W → Calls Try.prog g (#[x.v] ++ cb) W fun e W' => e = .returned (.bool (p x)) ∧ Below W.heap.size W W') :
    Calls Try.prog 37 #[.slice A xs.length c, .func (.func g) #[] cb] w fun e w' => e = .returned (.bool (xs.any p)) ∧ Below w.heap.size w w' := by
  rw [← fidx_any]
  have hcon := indexFuncM xs p g cb A c w hR eg hp
  clear hR hp eg
  generalize fidx p xs = r at hcon ⊢
  go_enter Try.func37, Try.ntmps37
  go_wp2_with (go_at_call 51; refine hcon.mono ?_; rintro e w' ⟨rfl, hb'⟩)
  go_ret
  exact ⟨rfl, hb'⟩
end Go.Proofs.Ytgcnklnhambpjaa
