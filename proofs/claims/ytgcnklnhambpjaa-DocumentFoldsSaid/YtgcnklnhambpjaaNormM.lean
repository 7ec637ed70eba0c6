/- document.Normal: what it returns for every slice of messages. -/
import Derived.Test.YtgcnklnhambpjaaSortM
import Derived.Test.YtgcnklnhambpjaaCompM
import Derived.Test.YtgcnklnhambpjaaCloneM
import Derived.Test.YtgcnklnhambpjaaChkY
namespace Go.Proofs.Ytgcnklnhambpjaa
open Go.RowKit
/-- A new row and a number. -/
def Made2 {α : Type} (E : Enc α) (t : TypeId) (xs : List α) (n : Int) (w : World) (e : Ending) (w' : World) : Prop := ∃ v, e = .returned (.tuple #[v, .int .i64 n]) ∧ Own E t w' w.heap.size v xs ∧ Below w.heap.size w w'
def badM (m : Msg) : Bool := chkM m != 0
def normL (l : List Msg) : List Msg := comp (l.mergeSort leM)
def normR (l : List Msg) : List Msg × Int := if l.length > 64 then ([], 8) else if l.any badM = true then ([], 1) else (normL l, 0)
set_option maxHeartbeats 1000000 in
theorem compactM_none (A : Option Addr) (c : Nat) (w : World) : Calls Try.prog 41 #[.slice A 0 c] w fun e w' => e = .returned (.slice A 0 c) ∧ w = w' := by
  go_enter Try.func41, Try.ntmps41
  go_wp2
  go_ret
  exact ⟨rfl, rfl⟩
set_option maxHeartbeats 1000000 in
theorem bad_any (x : Msg) (w : World) : Calls Try.prog 38 #[x.v] w fun e w' => e = .returned (.bool (badM x)) ∧ Below w.heap.size w w' := by
  have hc := fun W => check_any x W
  unfold ChkPost at hc
  unfold badM
  generalize chkM x = r at hc ⊢
  go_enter Try.func38, Try.ntmps38
  go_wp2_with (go_at_call 15; refine (hc _).mono ?_; rintro e w' ⟨rfl, hb⟩)
  go_ret
  exact ⟨ret_b (by simp), below_then ((Below.refl _ _).alloc (Nat.le_refl _) _) (by simp) hb⟩
theorem enters38 : ∀ args w, (callFunc 38 args).run Try.prog w = .ok (.enter 38 args) w := enters_of Try.func38 (by kernel_rfl) rfl
theorem anyBad (l : List Msg) (A : Option Addr) (c : Nat) (w : World) (hR : Rd EMsg w A l) :
    Calls Try.prog 37 #[.slice A l.length c, .func (.func 38) #[] #[]] w fun e w' => e = .returned (.bool (l.any badM)) ∧ Below w.heap.size w w' :=
  containsFuncM l badM _ _ A c w hR enters38 (fun x W _ => bad_any x W)
set_option maxHeartbeats 2000000 in
theorem normal_large (l : List Msg) (A : Option Addr) (c : Nat) (w : World) (hR : Rd EMsg w A l) (h : l.length > 64) : Calls Try.prog 12 #[.slice A l.length c] w (Made2 EMsg 23 [] 8 w) := by
  have hle := hR.le
  clear hR
  go_enter Try.func12, Try.ntmps12
  go_wp2
  go_ret2
  exact ⟨_, rfl, Own.nil _ _ _ _, Below.refl _ _⟩
set_option maxHeartbeats 2000000 in
theorem normal_bad (l : List Msg) (A : Option Addr) (c : Nat) (w : World) (hR : Rd EMsg w A l) (h : l.length ≤ 64) (hb : l.any badM = true) : Calls Try.prog 12 #[.slice A l.length c] w (Made2 EMsg 23 [] 1 w) := by
  have hcon := anyBad l A c w hR
  rw [hb] at hcon
  clear hR hb
  go_enter Try.func12, Try.ntmps12
  go_wp2_with (go_at_call 37; refine hcon.mono ?_; rintro e w' ⟨rfl, hb'⟩)
  go_ret2
  exact ⟨_, rfl, Own.nil _ _ _ _, hb'⟩
set_option maxHeartbeats 4000000 in
theorem normal_ok (l : List Msg) (A : Option Addr) (c : Nat) (w : World) (hR : Rd EMsg w A l) (h : l.length ≤ 64) (hb : l.any badM = false) : Calls Try.prog 12 #[.slice A l.length c] w (Made2 EMsg 23 (normL l) 0 w) := by
  have hcon := anyBad l A c w hR
  rw [hb] at hcon
  have HR := hid_of hR
  clear hR hb
  go_enter Try.func12, Try.ntmps12
  go_wp2_with (go_at_call 37; refine hcon.mono ?_; rintro e w1 ⟨rfl, hb1⟩)
  clear hcon
  have hcl := cloneM l A c w1 (HR.out.below hb1) (by omega)
  unfold Made at hcl
  have HB1 := hid_of hb1
  clear hb1
  refine hcl.mono ?_
  rintro e w2 ⟨v, rfl, hO, hb2⟩
  clear hcl
  have HO := hid_of hO
  have HB2 := hid_of (below_then HB1.out HB1.out.size hb2)
  have hsz := HB1.out.size
  clear hO hb2
  by_cases hl0 : l = []
  · subst hl0
    obtain ⟨A', c', rfl, _, _⟩ := HO.out.rd
    go_wp2_with fail
    refine (sortM_none A' c' _ _).mono ?_
    rintro e w3 ⟨rfl, rfl⟩
    go_wp2_with fail
    refine (compactM_none A' c' _).mono ?_
    rintro e w4 ⟨rfl, rfl⟩
    go_wp2
    go_ret2
    rw [show normL [] = [] by simp [normL, comp]]
    exact ⟨_, rfl, HO.out.lower hsz, HB2.out⟩
  · have hpos : 0 < l.length := List.length_pos_iff.2 hl0
    have hh := HO.out
    obtain ⟨g, cap, rfl, hbg, hgl, hcap⟩ := HO.out.open_ hpos
    have hrow := HO.out.row
    have hs := sortM l g cap w2 hrow.1 (by omega)
    clear hh hl0
    go_wp2_with fail
    refine hs.mono ?_
    rintro e w3 ⟨rfl, hr3, hg3⟩
    have hc := compactM (l.mergeSort leM) g cap w3 hr3
    rw [List.length_mergeSort] at hc
    have HG3 := hid_of hg3
    clear hr3 hg3 hs hrow
    go_wp2_with fail
    refine hc.mono ?_
    rintro e w4 ⟨rfl, hr4, hg4⟩
    have HR4 := hid_of hr4
    have HG4 := hid_of hg4
    clear hr4 hg4 hc
    go_wp2
    go_ret2
    refine ⟨_, rfl, HR4.out.own (by omega), HB2.out.grown (World.grownBy.trans HG3.out HG4.out) HB2.out.size (fun k hk => by cases hk; omega)⟩
/-- What Normal returns. -/
theorem normal_any (l : List Msg) (A : Option Addr) (c : Nat) (w : World) (hR : Rd EMsg w A l) : Calls Try.prog 12 #[.slice A l.length c] w (Made2 EMsg 23 (normR l).1 (normR l).2 w) := by
  unfold normR
  by_cases h : l.length > 64
  · rw [if_pos h]; exact normal_large l A c w hR h
  · rw [if_neg h]
    by_cases hb : l.any badM = true
    · rw [if_pos hb]; exact normal_bad l A c w hR (by omega) hb
    · rw [if_neg hb]; exact normal_ok l A c w hR (by omega) (by simpa using hb)
end Go.Proofs.Ytgcnklnhambpjaa
