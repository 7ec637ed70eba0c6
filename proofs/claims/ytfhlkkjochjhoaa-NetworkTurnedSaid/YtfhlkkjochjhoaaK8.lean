/- Joined texts of the seat: contracts and plain laws that the rows import. -/
import Derived.Test.YtfhlkkjochjhoaaK3
import Derived.Test.YtfhlkkjochjhoaaK6
import Derived.Test.YtfhlkkjochjhoaaK7
import Derived.Test.YtfhlkkjochjhoaaK4
set_option linter.unusedVariables false
set_option linter.unusedSimpArgs false
/- The reference's Node, Check. -/
namespace Go.Proofs.Ytfhlkkjochjhoaa
open Go.RowKit
set_option maxHeartbeats 1000000 in
theorem rnode_any (n : Int) (w : World) : Calls Try.prog 51 #[.int .i64 n] w fun e w' => e = .returned (.bool (nodeB n)) ∧ w = w' := by
  go_enter Try.func51, Try.ntmps51
  go_wp2
  all_goals (go_ret; refine ⟨ret_b ?_, rfl⟩; simp [nodeB]; try omega)
def RInt (r : Int) (w : World) (e : Ending) (w' : World) : Prop := e = .returned (.int .i64 r) ∧ Below w.heap.size w w'
def startR (l : List Msg) : Int := if l.length > 64 then 8 else if l.any badM = true then 1 else 0
set_option maxHeartbeats 8000000 in
set_option maxRecDepth 100000 in
theorem rcheck_any (m : Msg) (w : World) : Calls Try.prog 68 #[m.v] w (RInt (chkM m) w) := by
  have hg : chkM m = chkM m := rfl
  conv at hg => rhs; unfold chkM nodeB
  generalize chkM m = r at hg ⊢
  have HG := hid_of hg
  clear hg
  unfold RInt
  obtain ⟨a0, a1, a2, a3, a4, a5, a6⟩ := m
  by_cases h : a0 < 1 ∨ a0 > 1073741824 ∨ a1 < 1 ∨ a1 > 5 ∨ a3 < 0 ∨ a3 > 100000
  · have hr := HG.out
    rw [if_pos h] at hr
    subst hr
    clear HG
    go_enter Try.func68, Try.ntmps68
    go_wp2
    all_goals first | (exfalso; omega) | skip
    all_goals (first | go_ret | skip)
    all_goals first | exact ⟨rfl, (Below.refl _ _).alloc (Nat.le_refl _) _⟩ | (exfalso; omega) | (exfalso; simp_all; done) | (exfalso; simp_all; omega)
  · have h0 : 1 ≤ a0 := by omega
    have h1 : a0 ≤ 1073741824 := by omega
    have h4 : 0 ≤ a3 := by omega
    have h5 : a3 ≤ 100000 := by omega
    have hk : a1 = 1 ∨ a1 = 2 ∨ a1 = 3 ∨ a1 = 4 ∨ a1 = 5 := by omega
    rcases hk with rfl | rfl | rfl | rfl | rfl
    · skip
      clear h
      go_enter Try.func68, Try.ntmps68
      go_wp2
      all_goals first | (exfalso; omega) | skip
      all_goals (first | go_ret | skip)
      all_goals refine ⟨ret_i ?_, (Below.refl _ _).alloc (Nat.le_refl _) _⟩
      all_goals rw [HG.out, if_neg (by omega)]
      all_goals clear HG
      all_goals simp only [if_true, if_false, decide_eq_true_eq, Int.reduceEq]
      all_goals first | (rw [if_pos (by omega)]; done) | (rw [if_neg (by omega)]; done) | (simp_all; done) | (simp_all; omega) | ((repeat' split) <;> first | rfl | (exfalso; omega) | (exfalso; simp_all; done) | (exfalso; simp_all; omega))
    · skip
      clear h
      go_enter Try.func68, Try.ntmps68
      go_wp2
      all_goals first | (exfalso; omega) | skip
      all_goals (first | go_ret | skip)
      all_goals refine ⟨ret_i ?_, (Below.refl _ _).alloc (Nat.le_refl _) _⟩
      all_goals rw [HG.out, if_neg (by omega)]
      all_goals clear HG
      all_goals simp only [if_true, if_false, decide_eq_true_eq, Int.reduceEq]
      all_goals first | (rw [if_pos (by omega)]; done) | (rw [if_neg (by omega)]; done) | (simp_all; done) | (simp_all; omega) | ((repeat' split) <;> first | rfl | (exfalso; omega) | (exfalso; simp_all; done) | (exfalso; simp_all; omega))
    · skip
      clear h
      go_enter Try.func68, Try.ntmps68
      go_wp2
      all_goals first | (exfalso; omega) | skip
      all_goals (first | go_ret | skip)
      all_goals refine ⟨ret_i ?_, (Below.refl _ _).alloc (Nat.le_refl _) _⟩
      all_goals rw [HG.out, if_neg (by omega)]
      all_goals clear HG
      all_goals simp only [if_true, if_false, decide_eq_true_eq, Int.reduceEq]
      all_goals first | (rw [if_pos (by omega)]; done) | (rw [if_neg (by omega)]; done) | (simp_all; done) | (simp_all; omega) | ((repeat' split) <;> first | rfl | (exfalso; omega) | (exfalso; simp_all; done) | (exfalso; simp_all; omega))
    · skip
      clear h
      go_enter Try.func68, Try.ntmps68
      go_wp2
      all_goals first | (exfalso; omega) | skip
      all_goals (first | go_ret | skip)
      all_goals refine ⟨ret_i ?_, (Below.refl _ _).alloc (Nat.le_refl _) _⟩
      all_goals rw [HG.out, if_neg (by omega)]
      all_goals clear HG
      all_goals simp only [if_true, if_false, decide_eq_true_eq, Int.reduceEq]
      all_goals first | (rw [if_pos (by omega)]; done) | (rw [if_neg (by omega)]; done) | (simp_all; done) | (simp_all; omega) | ((repeat' split) <;> first | rfl | (exfalso; omega) | (exfalso; simp_all; done) | (exfalso; simp_all; omega))
    · skip
      clear h
      go_enter Try.func68, Try.ntmps68
      go_wp2
      all_goals first | (exfalso; omega) | skip
      all_goals (first | go_ret | skip)
      all_goals refine ⟨ret_i ?_, (Below.refl _ _).alloc (Nat.le_refl _) _⟩
      all_goals rw [HG.out, if_neg (by omega)]
      all_goals clear HG
      all_goals simp only [if_true, if_false, decide_eq_true_eq, Int.reduceEq]
      all_goals first | (rw [if_pos (by omega)]; done) | (rw [if_neg (by omega)]; done) | (simp_all; done) | (simp_all; omega) | ((repeat' split) <;> first | rfl | (exfalso; omega) | (exfalso; simp_all; done) | (exfalso; simp_all; omega))
end Go.Proofs.Ytfhlkkjochjhoaa
/- The reference's Start: what it returns for every slice of messages. -/
namespace Go.Proofs.Ytfhlkkjochjhoaa
open Go.RowKit
theorem badM_ne (m : Msg) : badM m = (chkM m != 0) := rfl
set_option maxHeartbeats 4000000 in
set_option maxRecDepth 100000 in
theorem rstart_any (l : List Msg) (A : Option Addr) (c : Nat) (w : World) (hR : Rd EMsg w A l) : Calls Try.prog 70 #[.slice A l.length c] w (RInt (startR l) w) := by
  have hle := hR.le
  have hg : startR l = startR l := rfl
  conv at hg => rhs; unfold startR
  generalize startR l = r at hg ⊢
  have HG := hid_of hg
  have HR := hid_of hR
  clear hg hR
  have hchk := fun (m : Msg) (W : World) => rcheck_any m W
  unfold RInt at hchk ⊢
  by_cases h64 : l.length > 64
  · have hr := HG.out
    rw [if_pos h64] at hr
    subst hr
    clear HG HR hchk
    go_enter Try.func70, Try.ntmps70
    go_wp2
    go_ret
    exact ⟨rfl, Below.refl _ _⟩
  · have hs : l.length ≤ 64 := by omega
    have hr := HG.out
    rw [if_neg h64] at hr
    have HG := hid_of hr
    clear hr h64
    go_enter Try.func70, Try.ntmps70
    go_wp2_with fail
    go_loopg [3] l.length (fun gg s3 wr => ∃ k : Nat, k ≤ l.length ∧ l.length - k ≤ gg ∧ s3 = .int .i64 k ∧ Hid (∀ j (hj : j < l.length), j < k → badM l[j] = false) ∧ Hid (Below w.heap.size w wr))
    case atStart => exact ⟨0, Nat.zero_le _, by omega, rfl, fun j _ h => absurd h (by omega), Below.refl _ _⟩
    case round =>
      obtain ⟨k, hk, hg, rfl, HA, BW⟩ := hrel
      by_cases hlt : k < l.length
      · obtain ⟨ad, rfl, c0, c1, c2, c3, c4, c5, c6⟩ := Msg.at_ (HR.out.below BW.out) k hlt
        have hc := hchk l[k]
        have hb := badM_ne l[k]
        generalize hx : l[k] = x at hc hb c0 c1 c2 c3 c4 c5 c6
        have HX := hid_of hx
        clear hx hchk
        generalize chkM x = q at hc hb
        by_cases hq : q = 0
        · subst hq
          have HB := hid_of hb
          clear hb
          go_wp2_with fail
          refine (hc _).mono ?_
          rintro e w1 ⟨rfl, hb1⟩
          go_wp2_with fail
          go_roundg (l.length - (k + 1))
          case measure => omega
          case rel =>
            refine ⟨k + 1, by omega, Nat.le_refl _, by go_num, (show Hid _ from fun j hj hjk => ?_), below_then BW.out BW.out.size hb1⟩
            by_cases e : j = k
            · subst e
              rw [HX.out, HB.out]; rfl
            · exact HA.out j hj (by omega)
        · have hne : (q != 0) = true := by simpa using hq
          have HB := hid_of hb
          clear hb hq
          go_wp2_with fail
          refine (hc _).mono ?_
          rintro e w1 ⟨rfl, hb1⟩
          go_wp2_with fail
          go_ret
          refine ⟨ret_i ?_, below_then BW.out BW.out.size hb1⟩
          rw [HG.out, if_pos]
          rw [List.any_eq_true]
          exact ⟨l[k], List.getElem_mem _, by rw [HX.out, HB.out]; exact hne⟩
      · go_wp2_with fail
        go_ret
        refine ⟨ret_i ?_, BW.out⟩
        rw [HG.out, if_neg]
        rw [Bool.not_eq_true, List.any_eq_false]
        intro x hx
        obtain ⟨i, hi, rfl⟩ := List.getElem_of_mem hx
        rw [HA.out i hi (by omega)]; simp
end Go.Proofs.Ytfhlkkjochjhoaa
/- Lists of messages in strict order: one with given members is unique; normL is that one. -/
namespace Go.Proofs.Ytfhlkkjochjhoaa
open Go.RowKit
def ltM (a b : Msg) : Prop := cmpM a b < 0
theorem ltM_irr (a : Msg) : ¬ ltM a a := by simp only [ltM, cmpM_neg]; omega
theorem ltM_tr {a b c : Msg} (h1 : ltM a b) (h2 : ltM b c) : ltM a c := by simp only [ltM, cmpM_neg] at *; omega
theorem ltM_le {a b : Msg} (h : ltM a b) : leM a b = true := by
  simp only [leM, Bool.not_eq_true', decide_eq_false_iff_not]
  intro h2; exact ltM_irr a (ltM_tr h h2)
theorem leM_lt {a b : Msg} (h : leM a b = true) (hne : a ≠ b) : ltM a b := by
  by_cases hl : ltM a b
  · exact hl
  · refine absurd (leM_anti a b h ?_) hne
    simp only [leM, Bool.not_eq_true', decide_eq_false_iff_not]
    exact hl
theorem ltM_nodup {l : List Msg} (h : l.Pairwise ltM) : l.Nodup := h.imp (fun {a b} hab e => by subst e; exact ltM_irr _ hab)
theorem strict_unique {l1 l2 : List Msg} (h1 : l1.Pairwise ltM) (h2 : l2.Pairwise ltM) (hm : ∀ x, x ∈ l1 ↔ x ∈ l2) : l1 = l2 :=
  List.Perm.eq_of_pairwise (le := fun a b => leM a b = true) (fun a b _ _ h1 h2 => leM_anti a b h1 h2) (h1.imp ltM_le) (h2.imp ltM_le)
    ((List.perm_ext_iff_of_nodup (ltM_nodup h1) (ltM_nodup h2)).2 hm)
theorem compU_snoc (l : List Msg) (x : Msg) : comp (l ++ [x]) = if (comp l).getLast? = some x then comp l else comp l ++ [x] := by
  unfold comp; rw [List.foldl_append]; rfl
theorem snoc_ind {P : List Msg → Prop} (h0 : P []) (h1 : ∀ l x, P l → P (l ++ [x])) : ∀ l, P l := by
  intro l
  rw [← List.reverse_reverse l]
  induction l.reverse with
  | nil => exact h0
  | cons x r ih => rw [List.reverse_cons]; exact h1 _ _ ih
theorem compU_last : ∀ l : List Msg, (comp l).getLast? = l.getLast? := by
  refine snoc_ind rfl (fun l x ih => ?_)
  rw [compU_snoc]
  split
  · rename_i h; rw [h]; simp
  · simp
theorem comp_mem : ∀ (l : List Msg) (x : Msg), x ∈ comp l ↔ x ∈ l := by
  refine snoc_ind (fun x => by simp [comp]) (fun l y ih x => ?_)
  rw [compU_snoc]
  split
  · rename_i h
    rw [ih x, List.mem_append, List.mem_singleton]
    constructor
    · exact .inl
    · rintro (h2 | rfl)
      · exact h2
      · exact (ih x).1 (List.mem_of_getLast? h)
  · rw [List.mem_append, List.mem_append, ih x]
theorem comp_strict : ∀ l : List Msg, l.Pairwise (fun a b => leM a b = true) → (comp l).Pairwise ltM := by
  refine snoc_ind (fun _ => by simp [comp]) (fun l y ih h => ?_)
  rw [List.pairwise_append] at h
  have ihl := ih h.1
  rw [compU_snoc]
  split
  · exact ihl
  · rename_i hne
    rw [List.pairwise_append]
    refine ⟨ihl, by simp, fun a ha b hb => ?_⟩
    simp only [List.mem_singleton] at hb
    subst hb
    have hle : leM a b = true := h.2.2 a ((comp_mem l a).1 ha) b (by simp)
    refine leM_lt hle (fun e => ?_)
    subst e
    -- a is a member and every later one is not less: so it is the last
    have hal : a ∈ l := (comp_mem l a).1 ha
    obtain ⟨z, hz⟩ : ∃ z, l.getLast? = some z := by
      cases hl : l.getLast? with
      | none => rw [List.getLast?_eq_none_iff] at hl; subst hl; simp at hal
      | some z => exact ⟨z, rfl⟩
    have hza : leM z a = true := h.2.2 z (List.mem_of_getLast? hz) a (by simp)
    have haz : leM a z = true := by
      rcases List.getLast?_eq_some_iff.1 hz with ⟨r, hr⟩
      rw [hr] at hal h
      rcases List.mem_append.1 hal with hm | hm
      · exact (List.pairwise_append.1 h.1).2.2 a hm z (by simp)
      · simp only [List.mem_singleton] at hm; subst hm; exact hza
    have := leM_anti a z haz hza
    subst this
    exact hne ((compU_last l).trans hz)
theorem normL_strict (l : List Msg) : (normL l).Pairwise ltM := comp_strict _ (sort_sorted l)
theorem normL_mem (l : List Msg) (x : Msg) : x ∈ normL l ↔ x ∈ l := by unfold normL; rw [comp_mem, (List.mergeSort_perm l leM).mem_iff]
theorem normL_of {l out : List Msg} (h : out.Pairwise ltM) (hm : ∀ x, x ∈ out ↔ x ∈ l) : out = normL l := strict_unique h (normL_strict l) (fun x => (hm x).trans (normL_mem l x).symm)
end Go.Proofs.Ytfhlkkjochjhoaa
/- What Start returns is the error of Normal. -/
namespace Go.Proofs.Ytfhlkkjochjhoaa
open Go.RowKit
theorem start_norm (l : List Msg) : startR l = (normR l).2 := by
  unfold startR normR
  split
  · rfl
  · split <;> rfl
theorem normR_fst (l : List Msg) (h : (normR l).2 = 0) : normR l = (normL l, 0) := by
  unfold normR at *
  split
  · rename_i h1; rw [if_pos h1] at h; simp at h
  · rename_i h1
    rw [if_neg h1] at h
    split
    · rename_i h2; rw [if_pos h2] at h; simp at h
    · rfl
end Go.Proofs.Ytfhlkkjochjhoaa
/- The reference's Few, Form, Check, start, first of envelopes. -/
namespace Go.Proofs.Ytfhlkkjochjhoaa
open Go.RowKit
theorem any_take_succE {α : Type} (p : α → Bool) (xs : List α) (k : Nat) (hk : k < xs.length) : (xs.take (k + 1)).any p = ((xs.take k).any p || p xs[k]) := by
  rw [List.take_succ_eq_append_getElem hk, List.any_append]; simp
theorem any_mono {α : Type} {p : α → Bool} (xs : List α) {j k : Nat} (h : j ≤ k) (ha : (xs.take j).any p = true) : (xs.take k).any p = true := by
  obtain ⟨x, hx, hp⟩ := List.any_eq_true.1 ha
  exact List.any_eq_true.2 ⟨x, (List.take_subset_take_left xs h) hx, hp⟩
def fewN (n m : Nat) : Bool := decide ((n ≤ 14 ∨ n = 65) ∧ (m ≤ 24 ∨ m = 257))
set_option maxHeartbeats 1000000 in
theorem rfewN_any (n m : Nat) (A B : Option Addr) (c d : Nat) (w : World) (h : n ≤ 9223372036854775807) (h2 : m ≤ 9223372036854775807) : Calls Try.prog 11 #[.slice A n c, .slice B m d] w fun e w' => e = .returned (.bool (fewN n m)) ∧ w = w' := by
  go_enter Try.func11, Try.ntmps11
  go_wp2
  all_goals (go_ret; refine ⟨ret_b ?_, rfl⟩; unfold fewN; rw [Bool.eq_iff_iff]; simp; try omega)
theorem node_of {n : Int} (h1 : 1 ≤ n) (h2 : n ≤ 99) : nodeB n = true := by simp [nodeB, h1, h2]
theorem node_no {n : Int} (h : n < 1 ∨ n > 99) : nodeB n = false := by simp [nodeB]; omega
set_option maxHeartbeats 4000000 in
set_option maxRecDepth 100000 in
theorem rform_any (x : Env) (w : World) : Calls Try.prog 48 #[x.v] w (RInt (formE x) w) := by
  have hg : formE x = formE x := rfl
  conv at hg => rhs; unfold formE
  generalize formE x = r at hg ⊢
  obtain ⟨e0, e1, e2, ⟨m0, m1, m2, m3, m4, m5, m6⟩⟩ := x
  have hrk := fun W => rcheck_any ⟨m0, m1, m2, m3, m4, m5, m6⟩ W
  generalize chkM ⟨m0, m1, m2, m3, m4, m5, m6⟩ = q at hg hrk
  dsimp only at hg
  unfold RInt at hrk ⊢
  dsimp only [Msg.v] at hrk
  have HG := hid_of hg
  clear hg
  by_cases q0 : e0 < 1 ∨ e0 > 99
  · have hr := HG.out
    rw [if_pos (by omega)] at hr
    subst hr
    have hnd := fun W => rnode_any e0 W
    rw [node_no q0] at hnd
    clear HG hrk q0
    go_enter Try.func48, Try.ntmps48
    go_wp2_with fail
    refine (hnd _).mono ?_
    rintro e w' ⟨rfl, rfl⟩
    go_wp2_with fail
    go_ret
    exact ⟨rfl, (Below.refl _ _).alloc (Nat.le_refl _) _⟩
  · have hnd0 := fun W => rnode_any e0 W
    rw [node_of (by omega) (by omega)] at hnd0
    by_cases q1 : e1 < 1 ∨ e1 > 99
    · have hr := HG.out
      rw [if_pos (by omega)] at hr
      subst hr
      have hnd := fun W => rnode_any e1 W
      rw [node_no q1] at hnd
      clear HG hrk q0 q1
      go_enter Try.func48, Try.ntmps48
      go_wp2_with fail
      refine (hnd0 _).mono ?_
      rintro e w' ⟨rfl, rfl⟩
      go_wp2_with fail
      refine (hnd _).mono ?_
      rintro e w' ⟨rfl, rfl⟩
      go_wp2_with fail
      go_ret
      exact ⟨rfl, (Below.refl _ _).alloc (Nat.le_refl _) _⟩
    · have hnd1 := fun W => rnode_any e1 W
      rw [node_of (by omega) (by omega)] at hnd1
      by_cases q2 : e2 < 1
      · have hr := HG.out
        rw [if_pos (by omega)] at hr
        subst hr
        clear HG hrk q0 q1
        go_enter Try.func48, Try.ntmps48
        go_wp2_with fail
        refine (hnd0 _).mono ?_
        rintro e w' ⟨rfl, rfl⟩
        go_wp2_with fail
        refine (hnd1 _).mono ?_
        rintro e w' ⟨rfl, rfl⟩
        go_wp2_with fail
        go_ret
        exact ⟨rfl, (Below.refl _ _).alloc (Nat.le_refl _) _⟩
      · by_cases q3 : 1073741824 < e2
        · have hr := HG.out
          rw [if_pos (by omega)] at hr
          subst hr
          clear HG hrk q0 q1
          go_enter Try.func48, Try.ntmps48
          go_wp2_with fail
          refine (hnd0 _).mono ?_
          rintro e w' ⟨rfl, rfl⟩
          go_wp2_with fail
          refine (hnd1 _).mono ?_
          rintro e w' ⟨rfl, rfl⟩
          go_wp2_with fail
          go_ret
          exact ⟨rfl, (Below.refl _ _).alloc (Nat.le_refl _) _⟩
        · by_cases q4 : e0 = e1
          · have hr := HG.out
            rw [if_neg (by omega), if_pos q4] at hr
            subst hr
            subst q4
            clear HG hrk q0 q1
            go_enter Try.func48, Try.ntmps48
            go_wp2_with fail
            refine (hnd0 _).mono ?_
            rintro e w' ⟨rfl, rfl⟩
            go_wp2_with fail
            refine (hnd1 _).mono ?_
            rintro e w' ⟨rfl, rfl⟩
            go_wp2_with fail
            go_ret
            exact ⟨rfl, (Below.refl _ _).alloc (Nat.le_refl _) _⟩
          · have hr := HG.out
            rw [if_neg (by omega), if_neg q4] at hr
            have q4b : (e0 == e1) = false := by simpa using q4
            clear HG q0 q1 q4
            by_cases q5 : q = 0
            · subst q5
              rw [if_pos rfl] at hr
              subst hr
              go_enter Try.func48, Try.ntmps48
              go_wp2_with fail
              refine (hnd0 _).mono ?_
              rintro e w' ⟨rfl, rfl⟩
              go_wp2_with fail
              refine (hnd1 _).mono ?_
              rintro e w' ⟨rfl, rfl⟩
              go_wp2_with fail
              refine (hrk _).mono ?_
              rintro e w1 ⟨rfl, hb⟩
              have HB := hid_of (below_then ((Below.refl _ _).alloc (Nat.le_refl _) _) (by simp) hb)
              clear hb
              go_wp2_with fail
              go_ret
              exact ⟨rfl, HB.out⟩
            · rw [if_neg q5] at hr
              subst hr
              have q5b : (q != 0) = true := by simpa using q5
              clear q5
              go_enter Try.func48, Try.ntmps48
              go_wp2_with fail
              refine (hnd0 _).mono ?_
              rintro e w' ⟨rfl, rfl⟩
              go_wp2_with fail
              refine (hnd1 _).mono ?_
              rintro e w' ⟨rfl, rfl⟩
              go_wp2_with fail
              refine (hrk _).mono ?_
              rintro e w1 ⟨rfl, hb⟩
              have HB := hid_of (below_then ((Below.refl _ _).alloc (Nat.le_refl _) _) (by simp) hb)
              clear hb
              go_wp2_with fail
              go_ret
              exact ⟨rfl, HB.out⟩
set_option maxHeartbeats 8000000 in
set_option maxRecDepth 100000 in
theorem rnetCheck_any (l : List Env) (A : Option Addr) (c : Nat) (w : World) (hR : Rd EEnv w A l) : Calls Try.prog 14 #[.slice A l.length c] w (R2 (netR l) w) := by
  unfold R2
  have hle := hR.le
  have hg : netR l = netR l := rfl
  conv at hg => rhs; unfold netR
  generalize netR l = r at hg ⊢
  obtain ⟨r1, r2⟩ := r
  have HG := hid_of hg
  have HR := hid_of hR
  have hck := fun (x : Env) W => rform_any x W
  unfold RInt at hck
  clear hg hR
  by_cases h64 : l.length > 64
  · have hr := HG.out
    rw [if_pos h64] at hr
    simp only [Prod.mk.injEq] at hr
    obtain ⟨rfl, rfl⟩ := hr
    clear HG HR hck
    go_enter Try.func14, Try.ntmps14
    go_wp2
    go_ret2
    exact ⟨rfl, Below.refl _ _⟩
  · have hl64 : l.length ≤ 64 := by omega
    have hr := HG.out
    rw [if_neg h64] at hr
    have HG := hid_of hr
    have HCK := hid_of hck
    clear hr h64 hck
    go_enter Try.func14, Try.ntmps14
    go_wp2_with fail
    go_loopg [4] l.length (fun gg s4 wr => ∃ (k : Nat), k ≤ l.length ∧ l.length - k ≤ gg ∧ s4 = .int .i64 k ∧ Hid ((r1, r2) = netF l k) ∧ Hid (Below w.heap.size w wr))
    case atStart => exact ⟨0, Nat.zero_le _, by omega, rfl, HG.out, Below.refl _ _⟩
    case round =>
      obtain ⟨k, hk, hgg, rfl, HF, BW⟩ := hrel
      by_cases hlt : k < l.length
      · obtain ⟨ad, rfl, c0, c1, c2, c3, c4, c5, c6, c7, c8, c9⟩ := Env.at_ (HR.out.below BW.out) k hlt
        have hhit := fun h => netF_hit hlt h
        have hstep := netF_step hlt
        have hform := netAt_form hlt
        have htw := netAt_twice hlt
        have hok := netAt_ok hlt
        rw [← HF.out] at hhit hstep
        have hc := HCK.out l[k]
        generalize netAt l k hlt = na at hhit hstep hform htw hok
        generalize hx : l[k] = x at c0 c1 c2 c3 c4 c5 c6 c7 c8 c9 hform htw hok hc
        generalize formE x = f at hc hform htw hok
        have HX := hid_of hx
        have HHIT := hid_of hhit
        have HSTEP := hid_of hstep
        have HFORM := hid_of hform
        have HTW := hid_of htw
        have HOK := hid_of hok
        clear hhit hstep hform htw hok hx HCK
        obtain ⟨e0, e1, e2, ⟨m0, m1, m2, m3, m4, m5, m6⟩⟩ := x
        dsimp only [Env.v] at c0 c1 c2 c3 c4 c5 c6 c7 c8 c9 hc
        by_cases hf : f = 0
        · subst hf
          go_wp2_with fail
          refine (hc _).mono ?_
          rintro e w1 ⟨rfl, hb⟩
          have HR1 := hid_of ((HR.out.below BW.out).below hb)
          have BW1 := hid_of (below_then BW.out BW.out.size hb)
          have d0 := cell_below hb c0
          have d2 := cell_below hb c2
          clear hc hb c0 c1 c2 c3 c4 c5 c6 c7 c8 c9
          go_wp2_with fail
          go_loopg [6] k (fun gg s6 wq => ∃ (j q : Nat), j ≤ k ∧ k - j ≤ gg ∧ s6 = .int .i64 j ∧ wq = w1.drewN q ∧ Hid ((l.take j).any (fun y => decide (y.name = (e0, e2))) = false))
          case atStart => exact ⟨0, 0, Nat.zero_le _, by omega, rfl, rfl, rfl⟩
          case round =>
            obtain ⟨j, q, hj, hgj, rfl, rfl, HA⟩ := hrel
            by_cases hjk : j < k
            · have hjl : j < l.length := by omega
              obtain ⟨ad', had, f0, _, f2, _, _, _, _, _, _, _⟩ := Env.at_ HR1.out j hjl
              cases had
              have hat := any_take_succE (fun y => decide (y.name = (e0, e2))) l j hjl
              rw [HA.out, Bool.false_or] at hat
              generalize hy : l[j] = y at f0 f2 hat
              have HAT := hid_of hat
              clear hat hy
              obtain ⟨y0, y1, y2, y3⟩ := y
              dsimp only at f0 f2
              have hjc : (j : Int) < (l.length : Int) := by omega
              have hkc : (k : Int) < (l.length : Int) := by omega
              by_cases h0 : y0 = e0
              · have h0b : (y0 == e0) = true := by simpa using h0
                have H0 := hid_of h0
                clear h0
                by_cases h2 : y2 = e2
                · have h2b : (y2 == e2) = true := by simpa using h2
                  have H2 := hid_of h2
                  clear h2
                  go_wp2_with fail
                  go_quiet (fail)
                  go_wp2_with fail
                  go_ret2
                  have ha : (l.take k).any (fun y => decide (y.name = (e0, e2))) = true := any_mono (j := j + 1) l (by omega) (by rw [HAT.out]; simp [Env.name, H0.out, H2.out])
                  have hna := HTW.out trivial ha
                  have hh := HHIT.out (by rw [hna]; decide)
                  rw [hna] at hh
                  simp only [Prod.mk.injEq] at hh
                  obtain ⟨rfl, rfl⟩ := hh
                  exact ⟨rfl, below_drewN (below_drewN BW1.out _) _⟩
                · have h2b : (y2 == e2) = false := by simpa using h2
                  have H2 := hid_of h2
                  clear h2
                  go_wp2_with fail
                  go_quiet (fail)
                  go_wp2_with fail
                  go_roundg (k - (j + 1))
                  case measure => omega
                  case rel => exact ⟨j + 1, q + nq, by omega, Nat.le_refl _, by go_num, by first | rfl | simp [World.drewN, Nat.add_assoc] | exact World.drewN_add .., (show Hid _ from by show _ = _; rw [HAT.out]; simp [Env.name, H2.out])⟩
              · have h0b : (y0 == e0) = false := by simpa using h0
                have H0 := hid_of h0
                clear h0
                go_wp2_with fail
                go_quiet (fail)
                go_wp2_with fail
                go_roundg (k - (j + 1))
                case measure => omega
                case rel => exact ⟨j + 1, q + nq, by omega, Nat.le_refl _, by go_num, by first | rfl | simp [World.drewN, Nat.add_assoc] | exact World.drewN_add .., (show Hid _ from by show _ = _; rw [HAT.out]; simp [Env.name, H0.out])⟩
            · have hjk2 : j = k := by omega
              subst hjk2
              have hna := HOK.out trivial HA.out
              have hh := HSTEP.out hna
              have HH := hid_of hh
              clear hna hh
              go_wp2_with fail
              go_roundg (l.length - (j + 1))
              case measure => omega
              case rel => exact ⟨j + 1, by omega, Nat.le_refl _, by go_num, HH.out, below_drewN BW1.out _⟩
        · have hfb : (f != 0) = true := by simpa using hf
          have hna := HFORM.out hf
          have hh := HHIT.out (by rw [hna]; exact hf)
          rw [hna] at hh
          simp only [Prod.mk.injEq] at hh
          obtain ⟨rfl, rfl⟩ := hh
          clear HHIT HSTEP HFORM HTW HOK HF HG hna hf
          go_wp2_with fail
          refine (hc _).mono ?_
          rintro e w1 ⟨rfl, hb⟩
          have BW1 := hid_of (below_then BW.out BW.out.size hb)
          clear hc hb
          go_wp2_with fail
          go_ret2
          exact ⟨rfl, BW1.out⟩
      · have hkl : k = l.length := by omega
        subst hkl
        have hf := HF.out
        rw [netF_end (by omega)] at hf
        simp only [Prod.mk.injEq] at hf
        obtain ⟨rfl, rfl⟩ := hf
        go_wp2_with fail
        go_ret2
        exact ⟨rfl, BW.out⟩
end Go.Proofs.Ytfhlkkjochjhoaa
/- The reference's start, first, Lost, Repeated of envelopes. -/
namespace Go.Proofs.Ytfhlkkjochjhoaa
open Go.RowKit
set_option maxHeartbeats 4000000 in
set_option maxRecDepth 100000 in
theorem rstartN_any (l : List Env) (s : List Int) (A1 A2 : Option Addr) (c1 c2 : Nat) (w : World) (hR1 : Rd EEnv w A1 l) (hR2 : Rd EI w A2 s) : Calls Try.prog 50 #[.slice A1 l.length c1, .slice A2 s.length c2] w (RInt (askR l s) w) := by
  have hle := hR2.le
  have hle1 := hR1.le
  have hck := rnetCheck_any l A1 c1 w hR1
  unfold R2 at hck
  unfold RInt
  have hr : askR l s = askR l s := rfl
  conv at hr => rhs; unfold askR
  generalize askR l s = r at hr ⊢
  generalize netR l = p at hr hck
  obtain ⟨p1, p2⟩ := p
  dsimp only at hr hck
  have HR := hid_of hr
  have HR2 := hid_of hR2
  clear hr hR1 hR2
  by_cases hp : p2 = 0
  · subst hp
    by_cases hs : s.length > 256
    · have hr := HR.out
      rw [if_neg (by simp), if_pos hs] at hr
      subst hr
      clear HR HR2
      go_enter Try.func50, Try.ntmps50
      go_wp2_with fail
      refine hck.mono ?_
      rintro e w1 ⟨rfl, hb⟩
      have HB := hid_of hb
      clear hck hb
      go_wp2_with fail
      go_ret
      exact ⟨rfl, HB.out⟩
    · have hr := HR.out
      rw [if_neg (by simp), if_neg hs] at hr
      have HR := hid_of hr
      have hs3 : s.length ≤ 256 := by omega
      clear hr hs
      go_enter Try.func50, Try.ntmps50
      go_wp2_with fail
      refine hck.mono ?_
      rintro e w1 ⟨rfl, hb⟩
      have HB := hid_of hb
      clear hck hb
      go_wp2_with fail
      go_loopg [7] s.length (fun gg s7 wr => ∃ k : Nat, k ≤ s.length ∧ s.length - k ≤ gg ∧ s7 = .int .i64 k ∧ wr = w1 ∧ Hid ((s.take k).any (outI l.length) = false))
      case atStart => exact ⟨0, Nat.zero_le _, by omega, rfl, rfl, rfl⟩
      case round =>
        obtain ⟨k, hk, hg, rfl, rfl, HA⟩ := hrel
        by_cases hlt : k < s.length
        · obtain ⟨ad, rfl, c0⟩ := I.at_ (HR2.out.below HB.out) k hlt
          have hat := any_take_succE (outI l.length) s k hlt
          rw [HA.out, Bool.false_or] at hat
          generalize hx : s[k] = x at c0 hat
          have HAT := hid_of hat
          have HX := hid_of hx
          clear hat hx
          by_cases h0 : x < 0
          · go_wp2_with fail
            go_ret
            have ha : s.any (outI l.length) = true := List.any_eq_true.2 ⟨s[k], List.getElem_mem _, by rw [HX.out]; simp [outI, h0]⟩
            refine ⟨?_, HB.out⟩
            rw [HR.out, if_pos ha]
            rfl
          · by_cases h1 : (l.length : Int) ≤ x
            · go_wp2_with fail
              go_ret
              have ha : s.any (outI l.length) = true := List.any_eq_true.2 ⟨s[k], List.getElem_mem _, by rw [HX.out]; simp [outI, h1]⟩
              refine ⟨?_, HB.out⟩
              rw [HR.out, if_pos ha]
              rfl
            · go_wp2_with fail
              go_roundg (s.length - (k + 1))
              case measure => omega
              case rel => exact ⟨k + 1, by omega, Nat.le_refl _, by go_num, rfl, (show Hid _ from by show _ = _; rw [HAT.out]; simp [outI]; omega)⟩
        · have hkl : k = s.length := by omega
          subst hkl
          have ha := HA.out
          rw [List.take_length] at ha
          have hr := HR.out
          rw [if_neg (by simp [ha])] at hr
          subst hr
          clear ha HR HA
          go_wp2_with fail
          go_ret
          exact ⟨rfl, HB.out⟩
  · have hne : (p2 != 0) = true := by simpa using hp
    have hr := HR.out
    rw [if_pos hp] at hr
    subst hr
    clear HR HR2 hp
    go_enter Try.func50, Try.ntmps50
    go_wp2_with fail
    refine hck.mono ?_
    rintro e w1 ⟨rfl, hb⟩
    have HB := hid_of hb
    clear hck hb
    go_wp2_with fail
    go_ret
    exact ⟨rfl, HB.out⟩
set_option maxHeartbeats 4000000 in
theorem rfirst_any (s : List Int) (i : Int) (A : Option Addr) (c : Nat) (w : World) (hR : Rd EI w A s) : Calls Try.prog 55 #[.slice A s.length c, .int .i64 i] w fun e w' => e = .returned (.int .i64 (fstI s i)) ∧ w = w' := by
  have hle := hR.le
  have HR := hid_of hR
  clear hR
  go_enter Try.func55, Try.ntmps55
  go_wp2
  go_loopg [5] s.length (fun gg s5 wr => ∃ k : Nat, k ≤ s.length ∧ s.length - k ≤ gg ∧ s5 = .int .i64 k ∧ w = wr ∧ Hid (∀ j (_ : j < k) (hj : j < s.length), decide (s[j] = i) = false))
  case atStart => exact ⟨0, Nat.zero_le _, by omega, rfl, rfl, fun j hj => absurd hj (Nat.not_lt_zero _)⟩
  case round =>
    obtain ⟨k, hk, hg, rfl, rfl, HA⟩ := hrel
    by_cases hlt : k < s.length
    · obtain ⟨ad, rfl, c0⟩ := I.at_ HR.out k hlt
      generalize hy : s[k] = y at c0
      have HY := hid_of hy
      clear hy
      by_cases h0 : y = i
      · have h1 : (y == i) = true := by simpa using h0
        have H0 := hid_of h0
        clear h0
        go_wp2
        go_ret
        refine ⟨?_, rfl⟩
        unfold fstI
        rw [fidx_hit (fun x => decide (x = i)) s k hlt (by simpa using HY.out.trans H0.out) (fun j hj => HA.out j hj (by omega))]
        rfl
      · have h1 : (y == i) = false := by simpa using h0
        have H0 := hid_of h0
        clear h0
        go_wp2
        go_roundg (s.length - (k + 1))
        case measure => omega
        case rel =>
          refine ⟨k + 1, by omega, by omega, by go_num, rfl, (show Hid _ from fun j hj hj' => ?_)⟩
          by_cases e : j = k
          · subst e
            rw [HY.out]; simpa using H0.out
          · exact HA.out j (by omega) hj'
    · have : k = s.length := by omega
      subst this
      go_wp2
      go_ret
      refine ⟨?_, rfl⟩
      unfold fstI
      rw [fidx_miss (fun x => decide (x = i)) s (fun j hj => HA.out j hj hj)]
      rfl
set_option maxHeartbeats 4000000 in
set_option maxRecDepth 100000 in
theorem rlost_any (l : List Env) (s : List Int) (A1 A2 : Option Addr) (c1 c2 : Nat) (w : World) (hR1 : Rd EEnv w A1 l) (hR2 : Rd EI w A2 s) :
    Calls Try.prog 23 #[.slice A1 l.length c1, .slice A2 s.length c2] w (Made2 EI 3 (lostR l s).1 (lostR l s).2 w) := by
  have hle := hR1.le
  have hask := rstartN_any l s A1 A2 c1 c2 w hR1 hR2
  unfold RInt at hask
  unfold Made2 lostR
  by_cases ha : askR l s = 0
  · have hfi := fun (i : Int) W (h : Below w.heap.size w W) => rfirst_any s i A2 c2 W (hR2.below h)
    have hnr := (ask_ok ha).1
    have hl64 : l.length ≤ 64 := by
      unfold netR at hnr
      split at hnr
      · cases hnr
      · omega
    rw [if_neg (by simp [ha])]
    rw [ha] at hask
    obtain ⟨i0, hi, hzz⟩ := Option.map_eq_some_iff.1 infoI
    simp only [Prod.mk.injEq] at hzz
    obtain ⟨hz0, hz1, hz2⟩ := hzz
    have HI : Hid (Try.prog.info? 3 = some i0 ∧ i0.zero = some (.int .i64 0) ∧ i0.size = 1 ∧ i0.bytes = 8) := ⟨hi, hz0, hz1, hz2⟩
    have HFI := hid_of hfi
    clear hR1 hR2 ha hnr hi hz0 hz1 hz2 hfi
    go_enter Try.func23, Try.ntmps23
    go_wp2_with fail
    refine hask.mono ?_
    rintro e w2 ⟨rfl, hb⟩
    have HB2 := hid_of hb
    clear hask hb
    go_wp2_with fail
    go_loopg [7, 8] l.length (fun gg s7 s8 wr => ∃ k : Nat, k ≤ l.length ∧ l.length - k ≤ gg ∧ s8 = .int .i64 k ∧ Hid (Own EI 3 wr w2.heap.size s7 (lostL l.length s k)) ∧ Hid (Below w2.heap.size w2 wr))
    case atStart => exact ⟨0, Nat.zero_le _, by omega, rfl, World.ownsRow_made w2 #[] 0 (Nat.le_refl _) (Nat.zero_le _) (by simp), (Below.refl _ _).alloc (Nat.le_refl _) _⟩
    case round =>
      obtain ⟨k, hk, hg, rfl, HO, BW⟩ := hrel
      by_cases hlt : k < l.length
      · have hc := HFI.out (k : Int) wr (below_then HB2.out HB2.out.size BW.out)
        have hll := lostL_len l.length s k
        have hsn : lostL l.length s (k + 1) = if (k : Int) ∈ s then lostL l.length s k else lostL l.length s k ++ [(k : Int)] := rfl
        generalize lostL l.length s k = ls at HO hll hsn
        have HSN := hid_of hsn
        have hsz := BW.out.size
        clear hsn
        by_cases hm : (k : Int) ∈ s
        · have hpos := fstI_mem.2 hm
          generalize fstI s k = f at hc hpos
          have HMM := hid_of hm
          clear hm
          go_wp2_with fail
          refine hc.mono ?_
          rintro e w3 ⟨rfl, rfl⟩
          go_wp2_with fail
          go_roundg (l.length - (k + 1))
          case measure => omega
          case rel =>
            refine ⟨k + 1, by omega, Nat.le_refl _, by go_num, ?_, BW.out⟩
            rw [HSN.out, if_pos HMM.out]
            exact HO.out
        · rw [fstI_no hm] at hc
          have HMM := hid_of hm
          clear hm
          go_wp2_with fail
          refine hc.mono ?_
          rintro e w3 ⟨rfl, rfl⟩
          go_wp2_with (at_builtin; refine wpList_append_own _ rfl _ _ 23 rfl w2.heap.size 3 i0 _ 1 8 Try.underlying23 HI.out.1 HI.out.2.1 HI.out.2.2.1 HI.out.2.2.2 rfl (by decide) _ _ _ rfl (HO.out.alloc _) _ 1 _ (EI.flat [(k : Int)]) rfl ?qc1 ?qc2 ?qc3 ?qc4 ?qc5 ?qc6 ?_)
          case qc1 => rfl
          case qc2 =>
            intro j u hj
            rw [addr_plain, blk_cell (blkN _ _) j]
            simpa [Enc.flat, EI] using hj
          case qc3 => exact EI.flat_one' _
          case qc4 => simp only [maxLen]; omega
          case qc5 => omega
          case qc6 => simp; omega
          intro v' w3 hown hgrow hnil
          have hown' : Own EI 3 w3 w2.heap.size v' (ls ++ [(k : Int)]) := by
            unfold Own; rw [EI.flat_append, List.length_append, List.length_singleton]; exact hown
          have hnb := fun k h => (HO.out.block k h).1
          have HB4 := hid_of ((BW.out.alloc hsz (.cells #[.int .i64 k] 3)).grown hgrow (by simp; omega) hnb)
          have HO4 := hid_of hown'
          clear hown hown' hgrow hnil hnb HO BW
          go_wp2_with fail
          go_roundg (l.length - (k + 1))
          case measure => omega
          case rel =>
            refine ⟨k + 1, by omega, Nat.le_refl _, by go_num, ?_, HB4.out⟩
            rw [HSN.out, if_neg HMM.out]
            exact HO4.out
      · have hkl : k = l.length := by omega
        subst hkl
        have HB3 := hid_of (below_then HB2.out HB2.out.size BW.out)
        go_wp2_with fail
        go_ret2
        exact ⟨_, rfl, HO.out.lower HB2.out.size, HB3.out⟩
  · rw [if_pos ha]
    generalize askR l s = a at hask ha ⊢
    have hne : (a != 0) = true := by simpa using ha
    clear hR1 hR2 ha
    go_enter Try.func23, Try.ntmps23
    go_wp2_with fail
    refine hask.mono ?_
    rintro e w1 ⟨rfl, hb⟩
    have HB := hid_of hb
    clear hask hb
    go_wp2_with fail
    go_ret2
    exact ⟨_, rfl, Own.nil _ _ _ _, HB.out⟩
/-- How many places name what was named before. -/
def repC (s : List Int) : Nat → Nat
  | 0 => 0
  | k + 1 => if h : k < s.length then (if fstI s s[k] < (k : Int) then repC s k + 1 else repC s k) else repC s k
theorem fstI_take {s : List Int} {k : Nat} (hk : k < s.length) : fstI s s[k] < (k : Int) ↔ s[k] ∈ s.take k := by
  constructor
  · intro h
    have h0 := fstI_mem.2 (List.getElem_mem hk)
    unfold fstI fidx at h h0
    cases hf : s.findIdx? (fun x => decide (x = s[k])) with
    | none => rw [hf] at h0; simp at h0
    | some j =>
      rw [hf] at h
      simp only at h
      obtain ⟨hj, hp, _⟩ := List.findIdx?_eq_some_iff_getElem.1 hf
      have := of_decide_eq_true hp
      rw [← this]
      exact List.mem_take_iff_getElem.2 ⟨j, by omega, rfl⟩
  · intro h
    obtain ⟨j, hj, he⟩ := List.mem_take_iff_getElem.1 h
    unfold fstI fidx
    cases hf : s.findIdx? (fun x => decide (x = s[k])) with
    | none => simp only; omega
    | some i =>
      simp only
      obtain ⟨hi, hp, hno⟩ := List.findIdx?_eq_some_iff_getElem.1 hf
      rcases Nat.lt_or_ge j i with h1 | h1
      · have := hno j h1
        simp [he] at this
      · omega
theorem repC_once (s : List Int) : ∀ k, k ≤ s.length → repC s k + (once (s.take k)).length = k
  | 0, _ => by simp [repC, once]
  | k + 1, hk => by
    have hkl : k < s.length := by omega
    have ih := repC_once s k (by omega)
    unfold repC
    rw [dif_pos hkl, List.take_succ_eq_append_getElem hkl, once_snoc]
    by_cases h : s[k] ∈ s.take k
    · rw [if_pos ((fstI_take hkl).2 h), if_pos ((once_mem _ _).2 h)]; omega
    · rw [if_neg (fun e => h ((fstI_take hkl).1 e)), if_neg (fun e => h ((once_mem _ _).1 e))]; simp; omega
set_option maxHeartbeats 4000000 in
set_option maxRecDepth 100000 in
theorem rrepeated_any (l : List Env) (s : List Int) (A1 A2 : Option Addr) (c1 c2 : Nat) (w : World) (hR1 : Rd EEnv w A1 l) (hR2 : Rd EI w A2 s) :
    Calls Try.prog 25 #[.slice A1 l.length c1, .slice A2 s.length c2] w (R2 (repR l s) w) := by
  have hle := hR2.le
  have hask := rstartN_any l s A1 A2 c1 c2 w hR1 hR2
  unfold RInt at hask
  unfold R2 repR
  by_cases ha : askR l s = 0
  · have hfi := fun (i : Int) W (h : Below w.heap.size w W) => rfirst_any s i A2 c2 W (hR2.below h)
    have hs256 := (ask_ok ha).2.1
    have hrc := repC_once s s.length (Nat.le_refl _)
    rw [List.take_length] at hrc
    rw [if_neg (by simp [ha])]
    have hre : (s.length : Int) - (once s).length = (repC s s.length : Nat) := by omega
    rw [hre]
    rw [ha] at hask
    have HFI := hid_of hfi
    have HR2 := hid_of hR2
    have hrl : ∀ k, repC s k ≤ k := fun k => by
      induction k with
      | zero => simp [repC]
      | succ k ih =>
        unfold repC
        repeat' split
        all_goals omega
    have HRL := hid_of hrl
    clear hR1 hR2 ha hfi hrc hre hrl
    go_enter Try.func25, Try.ntmps25
    go_wp2_with fail
    refine hask.mono ?_
    rintro e w2 ⟨rfl, hb⟩
    have HB2 := hid_of hb
    clear hask hb
    go_wp2_with fail
    go_loopg [7, 8] s.length (fun gg s7 s8 wr => ∃ (k u : Nat), k ≤ s.length ∧ s.length - k ≤ gg ∧ s8 = .int .i64 k ∧ s7 = .int .i64 u ∧ wr = w2 ∧ Hid (u = repC s k))
    case atStart => exact ⟨0, 0, Nat.zero_le _, by omega, rfl, rfl, rfl, rfl⟩
    case round =>
      obtain ⟨k, u, hk, hg, rfl, rfl, rfl, HU⟩ := hrel
      have hul := HRL.out k
      rw [← HU.out] at hul
      by_cases hlt : k < s.length
      · obtain ⟨ad, rfl, c0⟩ := I.at_ (HR2.out.below HB2.out) k hlt
        have hsn : repC s (k + 1) = if fstI s s[k] < (k : Int) then repC s k + 1 else repC s k := by
          conv => lhs; unfold repC
          rw [dif_pos hlt]
        rw [← HU.out] at hsn
        have hc := HFI.out s[k] wr HB2.out
        generalize s[k] = x at c0 hsn hc
        generalize fstI s x = f at hsn hc
        have HSN := hid_of hsn
        clear hsn
        by_cases hf : f < (k : Int)
        · have HF := hid_of hf
          go_wp2_with fail
          refine hc.mono ?_
          rintro e w3 ⟨rfl, rfl⟩
          go_wp2_with fail
          go_roundg (s.length - (k + 1))
          case measure => omega
          case rel =>
            refine ⟨k + 1, u + 1, by omega, Nat.le_refl _, by go_num, by go_num, rfl, ?_⟩
            show _ = _
            rw [HSN.out, if_pos HF.out]
        · have hf2 : decide (f < (k : Int)) = false := by simpa using hf
          have HF := hid_of hf2
          clear hf
          go_wp2_with fail
          refine hc.mono ?_
          rintro e w3 ⟨rfl, rfl⟩
          go_wp2_with fail
          go_roundg (s.length - (k + 1))
          case measure => omega
          case rel =>
            refine ⟨k + 1, u, by omega, Nat.le_refl _, by go_num, by go_num, rfl, ?_⟩
            show _ = _
            rw [HSN.out, if_neg (by simpa using HF.out)]
      · have hkl : k = s.length := by omega
        subst hkl
        have hu := HU.out
        subst hu
        go_wp2_with fail
        go_ret2
        exact ⟨rfl, HB2.out⟩
  · rw [if_pos ha]
    generalize askR l s = a at hask ha ⊢
    have hne : (a != 0) = true := by simpa using ha
    clear hR1 hR2 ha
    go_enter Try.func25, Try.ntmps25
    go_wp2_with fail
    refine hask.mono ?_
    rintro e w1 ⟨rfl, hb⟩
    have HB := hid_of hb
    clear hask hb
    go_wp2_with fail
    go_ret2
    exact ⟨rfl, HB.out⟩
end Go.Proofs.Ytfhlkkjochjhoaa
