/- Joined texts of the seat: contracts and plain laws that the rows import. -/
import Derived.Test.YtgcnklnhambpjaaK5
import Derived.Test.YtgcnklnhambpjaaK2
import Derived.Test.YtgcnklnhambpjaaK3
import Derived.Laws.AppendOwn
import Derived.Deep.RegionHeld3
set_option linter.unusedVariables false
set_option linter.unusedSimpArgs false
/- The reference's Node, Check. -/
namespace Go.Proofs.Ytgcnklnhambpjaa
open Go.RowKit
set_option maxHeartbeats 1000000 in
theorem rnode_any (n : Int) (w : World) : Calls Try.prog 45 #[.int .i64 n] w fun e w' => e = .returned (.bool (nodeB n)) ∧ w = w' := by
  go_enter Try.func45, Try.ntmps45
  go_wp2
  all_goals (go_ret; refine ⟨ret_b ?_, rfl⟩; simp [nodeB]; try omega)
def RInt (r : Int) (w : World) (e : Ending) (w' : World) : Prop := e = .returned (.int .i64 r) ∧ Below w.heap.size w w'
def startR (l : List Msg) : Int := if l.length > 64 then 8 else if l.any badM = true then 1 else 0
set_option maxHeartbeats 8000000 in
set_option maxRecDepth 100000 in
theorem rcheck_any (m : Msg) (w : World) : Calls Try.prog 16 #[m.v] w (RInt (chkM m) w) := by
  have hg : chkM m = chkM m := rfl
  conv at hg => rhs; unfold chkM nodeB
  generalize chkM m = r at hg ⊢
  have HG := hid_of hg
  clear hg
  unfold RInt
  obtain ⟨a0, a1, a2, a3, a4, a5, a6⟩ := m
  by_cases h : a0 < 1 ∨ a0 > 1073741824 ∨ a1 < 1 ∨ a1 > 5 ∨ a3 < 0 ∨ a3 > 100000
  · have hr := HG.out
    rw [if_pos h] at hr
    subst hr
    clear HG
    go_enter Try.func16, Try.ntmps16
    go_wp2
    all_goals first | (exfalso; omega) | skip
    all_goals (first | go_ret | skip)
    all_goals first | exact ⟨rfl, (Below.refl _ _).alloc (Nat.le_refl _) _⟩ | (exfalso; omega) | (exfalso; simp_all; done) | (exfalso; simp_all; omega)
  · have h0 : 1 ≤ a0 := by omega
    have h1 : a0 ≤ 1073741824 := by omega
    have h4 : 0 ≤ a3 := by omega
    have h5 : a3 ≤ 100000 := by omega
    have hk : a1 = 1 ∨ a1 = 2 ∨ a1 = 3 ∨ a1 = 4 ∨ a1 = 5 := by omega
    rcases hk with rfl | rfl | rfl | rfl | rfl
    · skip
      clear h
      go_enter Try.func16, Try.ntmps16
      go_wp2
      all_goals first | (exfalso; omega) | skip
      all_goals (first | go_ret | skip)
      all_goals refine ⟨ret_i ?_, (Below.refl _ _).alloc (Nat.le_refl _) _⟩
      all_goals rw [HG.out, if_neg (by omega)]
      all_goals clear HG
      all_goals simp only [if_true, if_false, decide_eq_true_eq, Int.reduceEq]
      all_goals first | (rw [if_pos (by omega)]; done) | (rw [if_neg (by omega)]; done) | (simp_all; done) | (simp_all; omega) | ((repeat' split) <;> first | rfl | (exfalso; omega) | (exfalso; simp_all; done) | (exfalso; simp_all; omega))
    · skip
      clear h
      go_enter Try.func16, Try.ntmps16
      go_wp2
      all_goals first | (exfalso; omega) | skip
      all_goals (first | go_ret | skip)
      all_goals refine ⟨ret_i ?_, (Below.refl _ _).alloc (Nat.le_refl _) _⟩
      all_goals rw [HG.out, if_neg (by omega)]
      all_goals clear HG
      all_goals simp only [if_true, if_false, decide_eq_true_eq, Int.reduceEq]
      all_goals first | (rw [if_pos (by omega)]; done) | (rw [if_neg (by omega)]; done) | (simp_all; done) | (simp_all; omega) | ((repeat' split) <;> first | rfl | (exfalso; omega) | (exfalso; simp_all; done) | (exfalso; simp_all; omega))
    · skip
      clear h
      go_enter Try.func16, Try.ntmps16
      go_wp2
      all_goals first | (exfalso; omega) | skip
      all_goals (first | go_ret | skip)
      all_goals refine ⟨ret_i ?_, (Below.refl _ _).alloc (Nat.le_refl _) _⟩
      all_goals rw [HG.out, if_neg (by omega)]
      all_goals clear HG
      all_goals simp only [if_true, if_false, decide_eq_true_eq, Int.reduceEq]
      all_goals first | (rw [if_pos (by omega)]; done) | (rw [if_neg (by omega)]; done) | (simp_all; done) | (simp_all; omega) | ((repeat' split) <;> first | rfl | (exfalso; omega) | (exfalso; simp_all; done) | (exfalso; simp_all; omega))
    · skip
      clear h
      go_enter Try.func16, Try.ntmps16
      go_wp2
      all_goals first | (exfalso; omega) | skip
      all_goals (first | go_ret | skip)
      all_goals refine ⟨ret_i ?_, (Below.refl _ _).alloc (Nat.le_refl _) _⟩
      all_goals rw [HG.out, if_neg (by omega)]
      all_goals clear HG
      all_goals simp only [if_true, if_false, decide_eq_true_eq, Int.reduceEq]
      all_goals first | (rw [if_pos (by omega)]; done) | (rw [if_neg (by omega)]; done) | (simp_all; done) | (simp_all; omega) | ((repeat' split) <;> first | rfl | (exfalso; omega) | (exfalso; simp_all; done) | (exfalso; simp_all; omega))
    · skip
      clear h
      go_enter Try.func16, Try.ntmps16
      go_wp2
      all_goals first | (exfalso; omega) | skip
      all_goals (first | go_ret | skip)
      all_goals refine ⟨ret_i ?_, (Below.refl _ _).alloc (Nat.le_refl _) _⟩
      all_goals rw [HG.out, if_neg (by omega)]
      all_goals clear HG
      all_goals simp only [if_true, if_false, decide_eq_true_eq, Int.reduceEq]
      all_goals first | (rw [if_pos (by omega)]; done) | (rw [if_neg (by omega)]; done) | (simp_all; done) | (simp_all; omega) | ((repeat' split) <;> first | rfl | (exfalso; omega) | (exfalso; simp_all; done) | (exfalso; simp_all; omega))
end Go.Proofs.Ytgcnklnhambpjaa
/- The reference's Start: what it returns for every slice of messages. -/
namespace Go.Proofs.Ytgcnklnhambpjaa
open Go.RowKit
theorem badM_ne (m : Msg) : badM m = (chkM m != 0) := rfl
set_option maxHeartbeats 4000000 in
set_option maxRecDepth 100000 in
theorem rstart_any (l : List Msg) (A : Option Addr) (c : Nat) (w : World) (hR : Rd EMsg w A l) : Calls Try.prog 42 #[.slice A l.length c] w (RInt (startR l) w) := by
  have hle := hR.le
  have hg : startR l = startR l := rfl
  conv at hg => rhs; unfold startR
  generalize startR l = r at hg ⊢
  have HG := hid_of hg
  have HR := hid_of hR
  clear hg hR
  have hchk := fun (m : Msg) (W : World) => rcheck_any m W
  unfold RInt at hchk ⊢
  by_cases h64 : l.length > 64
  · have hr := HG.out
    rw [if_pos h64] at hr
    subst hr
    clear HG HR hchk
    go_enter Try.func42, Try.ntmps42
    go_wp2
    go_ret
    exact ⟨rfl, Below.refl _ _⟩
  · have hs : l.length ≤ 64 := by omega
    have hr := HG.out
    rw [if_neg h64] at hr
    have HG := hid_of hr
    clear hr h64
    go_enter Try.func42, Try.ntmps42
    go_wp2_with fail
    go_loopg [3] l.length (fun gg s3 wr => ∃ k : Nat, k ≤ l.length ∧ l.length - k ≤ gg ∧ s3 = .int .i64 k ∧ Hid (∀ j (hj : j < l.length), j < k → badM l[j] = false) ∧ Hid (Below w.heap.size w wr))
    case atStart => exact ⟨0, Nat.zero_le _, by omega, rfl, fun j _ h => absurd h (by omega), Below.refl _ _⟩
    case round =>
      obtain ⟨k, hk, hg, rfl, HA, BW⟩ := hrel
      by_cases hlt : k < l.length
      · obtain ⟨ad, rfl, c0, c1, c2, c3, c4, c5, c6⟩ := Msg.at_ (HR.out.below BW.out) k hlt
        have hc := hchk l[k]
        have hb := badM_ne l[k]
        generalize hx : l[k] = x at hc hb c0 c1 c2 c3 c4 c5 c6
        have HX := hid_of hx
        clear hx hchk
        generalize chkM x = q at hc hb
        by_cases hq : q = 0
        · subst hq
          have HB := hid_of hb
          clear hb
          go_wp2_with fail
          refine (hc _).mono ?_
          rintro e w1 ⟨rfl, hb1⟩
          go_wp2_with fail
          go_roundg (l.length - (k + 1))
          case measure => omega
          case rel =>
            refine ⟨k + 1, by omega, Nat.le_refl _, by go_num, (show Hid _ from fun j hj hjk => ?_), below_then BW.out BW.out.size hb1⟩
            by_cases e : j = k
            · subst e
              rw [HX.out, HB.out]; rfl
            · exact HA.out j hj (by omega)
        · have hne : (q != 0) = true := by simpa using hq
          have HB := hid_of hb
          clear hb hq
          go_wp2_with fail
          refine (hc _).mono ?_
          rintro e w1 ⟨rfl, hb1⟩
          go_wp2_with fail
          go_ret
          refine ⟨ret_i ?_, below_then BW.out BW.out.size hb1⟩
          rw [HG.out, if_pos]
          rw [List.any_eq_true]
          exact ⟨l[k], List.getElem_mem _, by rw [HX.out, HB.out]; exact hne⟩
      · go_wp2_with fail
        go_ret
        refine ⟨ret_i ?_, BW.out⟩
        rw [HG.out, if_neg]
        rw [Bool.not_eq_true, List.any_eq_false]
        intro x hx
        obtain ⟨i, hi, rfl⟩ := List.getElem_of_mem hx
        rw [HA.out i hi (by omega)]; simp
end Go.Proofs.Ytgcnklnhambpjaa
/- What Start returns is the error of Normal. -/
namespace Go.Proofs.Ytgcnklnhambpjaa
open Go.RowKit
theorem start_norm (l : List Msg) : startR l = (normR l).2 := by
  unfold startR normR
  split
  · rfl
  · split <;> rfl
theorem normR_fst (l : List Msg) (h : (normR l).2 = 0) : normR l = (normL l, 0) := by
  unfold normR at *
  split
  · rename_i h1; rw [if_pos h1] at h; simp at h
  · rename_i h1
    rw [if_neg h1] at h
    split
    · rename_i h2; rw [if_pos h2] at h; simp at h
    · rfl
end Go.Proofs.Ytgcnklnhambpjaa
/- An insertion by swaps into a list in strict order: plain lists. -/
namespace Go.Proofs.Ytgcnklnhambpjaa
open Go.RowKit
/-- ys is xs with x at place j; what is behind it is greater. -/
structure InsI (xs : List Msg) (x : Msg) (j : Nat) (ys : List Msg) : Prop where
  le : j ≤ xs.length
  eq : ys = xs.take j ++ x :: xs.drop j
  gt : ∀ y ∈ xs.drop j, ltM x y
theorem InsI.start (xs : List Msg) (x : Msg) : InsI xs x xs.length (xs ++ [x]) := ⟨Nat.le_refl _, by simp, by simp⟩
theorem InsI.len {xs ys : List Msg} {x : Msg} {j : Nat} (h : InsI xs x j ys) : ys.length = xs.length + 1 := by
  rw [h.eq]; simp; have := h.le; omega
theorem InsI.here {xs ys : List Msg} {x : Msg} {j : Nat} (h : InsI xs x j ys) (hj : j < ys.length) : ys[j] = x := by
  have := h.le
  simp only [h.eq]
  rw [List.getElem_append_right (by simp; omega)]
  simp [Nat.min_eq_left h.le]
theorem InsI.prev {xs ys : List Msg} {x : Msg} {j : Nat} (h : InsI xs x j ys) (h0 : 0 < j) (hj : j - 1 < ys.length) : ys[j - 1] = xs[j - 1]'(by have := h.le; omega) := by
  have := h.le
  simp only [h.eq]
  rw [List.getElem_append_left (by simp; omega)]
  simp
theorem InsI.step {xs ys : List Msg} {x y : Msg} {j : Nat} (h : InsI xs x j ys) (h0 : 0 < j) (hy : xs[j - 1]'(by have := h.le; omega) = y) (hl : ltM x y) : InsI xs x (j - 1) ((ys.set (j - 1) x).set j y) := by
  have hle := h.le
  refine ⟨by omega, ?_, ?_⟩
  · apply List.ext_getElem?
    intro i
    rw [h.eq]
    simp only [List.getElem?_set, List.length_set, List.length_append, List.length_take, List.length_cons, List.length_drop, Nat.min_eq_left hle, Nat.min_eq_left (show j - 1 ≤ xs.length by omega)]
    by_cases h1 : j = i
    · subst h1
      rw [if_pos rfl, if_pos (by omega), List.getElem?_append_right (by simp; omega)]
      simp only [List.length_take, Nat.min_eq_left (show j - 1 ≤ xs.length by omega)]
      rw [show j - (j - 1) = 0 + 1 by omega, List.getElem?_cons_succ, List.getElem?_drop, Nat.add_zero, List.getElem?_eq_getElem (by omega), hy]
    · rw [if_neg h1]
      by_cases h2 : j - 1 = i
      · subst h2
        rw [if_pos rfl, if_pos (by omega), List.getElem?_append_right (by simp; omega)]
        simp [Nat.min_eq_left (show j - 1 ≤ xs.length by omega)]
      · rw [if_neg h2]
        by_cases h3 : i < j - 1
        · rw [List.getElem?_append_left (by simp; omega), List.getElem?_append_left (by simp; omega), List.getElem?_take, List.getElem?_take, if_pos (by omega), if_pos h3]
        · rw [List.getElem?_append_right (by simp; omega), List.getElem?_append_right (by simp; omega)]
          simp only [List.length_take, Nat.min_eq_left hle, Nat.min_eq_left (show j - 1 ≤ xs.length by omega)]
          rw [show i - j = (i - j - 1) + 1 by omega, show i - (j - 1) = (i - j - 1) + 1 + 1 by omega, List.getElem?_cons_succ, List.getElem?_cons_succ, List.getElem?_drop, List.getElem?_drop]
          congr 1; omega
  · intro z hz
    rw [List.drop_eq_getElem_cons (by omega)] at hz
    rcases List.mem_cons.1 hz with rfl | hz
    · rw [hy]; exact hl
    · rw [show j - 1 + 1 = j by omega] at hz
      exact h.gt z hz
theorem ltM_tot {a b : Msg} (hne : a ≠ b) (h : ¬ ltM a b) : ltM b a := by
  refine leM_lt ?_ (fun e => hne e.symm)
  simp only [leM, Bool.not_eq_true', decide_eq_false_iff_not]
  exact h
theorem InsI.done {xs ys : List Msg} {x : Msg} {j : Nat} (h : InsI xs x j ys) (hs : xs.Pairwise ltM) (hx : x ∉ xs) (hj : j = 0 ∨ ∃ hj : j - 1 < xs.length, ¬ ltM x xs[j - 1]) : ys.Pairwise ltM ∧ ∀ z, z ∈ ys ↔ z ∈ xs ∨ z = x := by
  have hle := h.le
  have hlow : ∀ z ∈ xs.take j, ltM z x := by
    intro z hz
    rcases hj with rfl | ⟨hj, hn⟩
    · simp at hz
    · obtain ⟨i, hi, rfl⟩ := List.getElem_of_mem hz
      have hi' : i < j := by have := hi; simp at this; omega
      rw [List.getElem_take]
      have hl1 : ltM xs[j - 1] x := ltM_tot (fun e => hx (by rw [e]; exact List.getElem_mem hj)) hn
      by_cases e : i = j - 1
      · subst e; exact hl1
      · exact ltM_tr ((List.pairwise_iff_getElem.1 hs) i (j - 1) (by omega) hj (by omega)) hl1
  have hsp : xs = xs.take j ++ xs.drop j := (List.take_append_drop j xs).symm
  constructor
  · rw [h.eq, List.pairwise_append]
    rw [hsp, List.pairwise_append] at hs
    refine ⟨hs.1, List.pairwise_cons.2 ⟨h.gt, hs.2.1⟩, fun a ha b hb => ?_⟩
    rcases List.mem_cons.1 hb with rfl | hb
    · exact hlow a ha
    · exact hs.2.2 a ha b hb
  · intro z
    rw [h.eq]
    conv => rhs; rw [hsp]
    simp only [List.mem_append, List.mem_cons]
    constructor
    · rintro (h | h | h)
      · exact .inl (.inl h)
      · exact .inr h
      · exact .inl (.inr h)
    · rintro ((h | h) | h)
      · exact .inl h
      · exact .inr (.inr h)
      · exact .inr (.inl h)
/-- A list so far: in strict order, with the members of the first k. -/
structure NormI (l : List Msg) (k : Nat) (xs : List Msg) : Prop where
  srt : xs.Pairwise ltM
  mem : ∀ z, z ∈ xs ↔ z ∈ l.take k
  len : xs.length ≤ k
theorem NormI.start (l : List Msg) : NormI l 0 [] := ⟨by simp, by simp, by simp⟩
theorem NormI.skip {l xs : List Msg} {k : Nat} (h : NormI l k xs) (hk : k < l.length) (hm : l[k] ∈ xs) : NormI l (k + 1) xs := by
  refine ⟨h.srt, fun z => ?_, by have := h.len; omega⟩
  rw [List.take_succ_eq_append_getElem hk, List.mem_append, List.mem_singleton, ← h.mem z]
  constructor
  · exact .inl
  · rintro (h | rfl)
    · exact h
    · exact hm
theorem NormI.add {l xs ys : List Msg} {k j : Nat} {x : Msg} (h : NormI l k xs) (hk : k < l.length) (hx : l[k] = x) (hm : x ∉ xs) (hi : InsI xs x j ys) (hj : j = 0 ∨ ∃ hj : j - 1 < xs.length, ¬ ltM x xs[j - 1]) : NormI l (k + 1) ys := by
  obtain ⟨h1, h2⟩ := hi.done h.srt hm hj
  refine ⟨h1, fun z => ?_, by rw [hi.len]; have := h.len; omega⟩
  rw [List.take_succ_eq_append_getElem hk, List.mem_append, List.mem_singleton, ← h.mem z, h2 z, hx]
theorem NormI.done {l xs : List Msg} (h : NormI l l.length xs) : xs = normL l := normL_of h.srt (fun z => by rw [h.mem z, List.take_length])
end Go.Proofs.Ytgcnklnhambpjaa
/- The reference's less: it is document.compare's order. -/
namespace Go.Proofs.Ytgcnklnhambpjaa
open Go.RowKit
def lessB (a b : Msg) : Bool := decide (cmpM a b < 0)
def Msg.key (a : Msg) : Nat → Int
  | 0 => a.mv | 1 => a.kd | 2 => a.nu | 3 => a.dy | 4 => a.fr | 5 => a.tt | _ => a.al
set_option maxHeartbeats 8000000 in
set_option maxRecDepth 100000 in
theorem rless_any (a b : Msg) (w : World) : Calls Try.prog 59 #[a.v, b.v] w fun e w' => e = .returned (.bool (lessB a b)) ∧ Below w.heap.size w w' := by
  have hg : (lessB a b = true) ↔ _ := (decide_eq_true_iff (p := cmpM a b < 0)).trans (cmpM_neg a b)
  generalize lessB a b = r at hg ⊢
  have HG := hid_of hg
  clear hg
  obtain ⟨a0, a1, a2, a3, a4, a5, a6⟩ := a
  obtain ⟨b0, b1, b2, b3, b4, b5, b6⟩ := b
  go_enter Try.func59, Try.ntmps59
  go_upto_region 3 with (fail)
  refine nameW (fun W hW => ?_)
  have hx : W.heap[w.heap.size + 1 + 1]? = some (.cells #[.int .i64 a0, .int .i64 a1, .int .i64 a2, .int .i64 a3, .int .i64 a4, .int .i64 a5, .int .i64 a6] 3 (0, 0)) := by
    rw [hW]
    refine blkA ?_
    have := blkN ((w.alloc (.cells #[.int .i64 a0, .int .i64 a1, .int .i64 a2, .int .i64 a3, .int .i64 a4, .int .i64 a5, .int .i64 a6] 23)).alloc (.cells #[.int .i64 b0, .int .i64 b1, .int .i64 b2, .int .i64 b3, .int .i64 b4, .int .i64 b5, .int .i64 b6] 23)) (.cells #[.int .i64 a0, .int .i64 a1, .int .i64 a2, .int .i64 a3, .int .i64 a4, .int .i64 a5, .int .i64 a6] 3)
    rw [World.size_alloc, World.size_alloc] at this
    exact this
  have hy : W.heap[w.heap.size + 1 + 1 + 1]? = some (.cells #[.int .i64 b0, .int .i64 b1, .int .i64 b2, .int .i64 b3, .int .i64 b4, .int .i64 b5, .int .i64 b6] 3 (0, 0)) := by
    rw [hW]
    have := blkN (((w.alloc (.cells #[.int .i64 a0, .int .i64 a1, .int .i64 a2, .int .i64 a3, .int .i64 a4, .int .i64 a5, .int .i64 a6] 23)).alloc (.cells #[.int .i64 b0, .int .i64 b1, .int .i64 b2, .int .i64 b3, .int .i64 b4, .int .i64 b5, .int .i64 b6] 23)).alloc (.cells #[.int .i64 a0, .int .i64 a1, .int .i64 a2, .int .i64 a3, .int .i64 a4, .int .i64 a5, .int .i64 a6] 3)) (.cells #[.int .i64 b0, .int .i64 b1, .int .i64 b2, .int .i64 b3, .int .i64 b4, .int .i64 b5, .int .i64 b6] 3)
    rw [World.size_alloc, World.size_alloc, World.size_alloc] at this
    exact this
  have hb : Below w.heap.size w W := by rw [hW]; exact ((((Below.refl _ _).alloc (Nat.le_refl _) _).alloc (by simp) _).alloc (by simp; omega) _).alloc (by simp; omega) _
  clear hW
  have x0 := (blk_cell hx 0).trans (show _ = some (.int .i64 a0) from rfl)
  have y0 := (blk_cell hy 0).trans (show _ = some (.int .i64 b0) from rfl)
  have x1 := (blk_cell hx 1).trans (show _ = some (.int .i64 a1) from rfl)
  have y1 := (blk_cell hy 1).trans (show _ = some (.int .i64 b1) from rfl)
  have x2 := (blk_cell hx 2).trans (show _ = some (.int .i64 a2) from rfl)
  have y2 := (blk_cell hy 2).trans (show _ = some (.int .i64 b2) from rfl)
  have x3 := (blk_cell hx 3).trans (show _ = some (.int .i64 a3) from rfl)
  have y3 := (blk_cell hy 3).trans (show _ = some (.int .i64 b3) from rfl)
  have x4 := (blk_cell hx 4).trans (show _ = some (.int .i64 a4) from rfl)
  have y4 := (blk_cell hy 4).trans (show _ = some (.int .i64 b4) from rfl)
  have x5 := (blk_cell hx 5).trans (show _ = some (.int .i64 a5) from rfl)
  have y5 := (blk_cell hy 5).trans (show _ = some (.int .i64 b5) from rfl)
  have x6 := (blk_cell hx 6).trans (show _ = some (.int .i64 a6) from rfl)
  have y6 := (blk_cell hy 6).trans (show _ = some (.int .i64 b6) from rfl)
  have HB := hid_of hb
  clear hx hy hb
  go_wp2_with fail
  go_loopg [7] 7 (fun gg s7 wr => ∃ k q : Nat, k ≤ 7 ∧ 7 - k ≤ gg ∧ s7 = .int .i64 k ∧ wr = W.drewN q ∧ Hid (∀ j, j < k → (Msg.mk a0 a1 a2 a3 a4 a5 a6).key j = (Msg.mk b0 b1 b2 b3 b4 b5 b6).key j))
  case atStart => exact ⟨0, 0, by omega, by omega, rfl, rfl, fun j h => absurd h (by omega)⟩
  case round =>
    obtain ⟨k, q, hk, hgg, rfl, rfl, HE⟩ := hrel
    have hc : k = 0 ∨ k = 1 ∨ k = 2 ∨ k = 3 ∨ k = 4 ∨ k = 5 ∨ k = 6 ∨ k = 7 := by omega
    rcases hc with rfl | rfl | rfl | rfl | rfl | rfl | rfl | rfl
    · by_cases hn : a0 = b0
      · have HN := hid_of hn
        have hn1 : (a0 != b0) = false := by simpa using hn
        clear hn
        go_wp2_with fail
        go_quiet (fail)
        go_wp2_with fail
        go_roundg (7 - 1)
        case measure => omega
        case rel =>
          refine ⟨1, q + nq, by omega, Nat.le_refl _, by go_num, by first | rfl | simp, (show Hid _ from fun i hi => ?_)⟩
          by_cases e : i = 0
          · subst e; exact HN.out
          · exact HE.out i (by omega)
      · have hn1 : (a0 != b0) = true := by simpa using hn
        have HN := hid_of hn
        clear hn
        go_wp2_with fail
        go_quiet (fail)
        go_wp2_with fail
        go_quiet (fail)
        go_wp2_with fail
        go_ret
        refine ⟨ret_b ?_, by repeat (first | exact HB.out | apply below_drewN)⟩
        have hg := HG.out
        have hn := HN.out
        rw [Bool.eq_iff_iff, hg]
        simp only [decide_eq_true_eq]
        omega
    · by_cases hn : a1 = b1
      · have HN := hid_of hn
        have hn1 : (a1 != b1) = false := by simpa using hn
        clear hn
        go_wp2_with fail
        go_quiet (fail)
        go_wp2_with fail
        go_roundg (7 - 2)
        case measure => omega
        case rel =>
          refine ⟨2, q + nq, by omega, Nat.le_refl _, by go_num, by first | rfl | simp, (show Hid _ from fun i hi => ?_)⟩
          by_cases e : i = 1
          · subst e; exact HN.out
          · exact HE.out i (by omega)
      · have hn1 : (a1 != b1) = true := by simpa using hn
        have HN := hid_of hn
        clear hn
        go_wp2_with fail
        go_quiet (fail)
        go_wp2_with fail
        go_quiet (fail)
        go_wp2_with fail
        go_ret
        refine ⟨ret_b ?_, by repeat (first | exact HB.out | apply below_drewN)⟩
        have hg := HG.out
        have hn := HN.out
        have q0 : a0 = b0 := HE.out 0 (by decide)
        rw [Bool.eq_iff_iff, hg]
        simp only [decide_eq_true_eq]
        omega
    · by_cases hn : a2 = b2
      · have HN := hid_of hn
        have hn1 : (a2 != b2) = false := by simpa using hn
        clear hn
        go_wp2_with fail
        go_quiet (fail)
        go_wp2_with fail
        go_roundg (7 - 3)
        case measure => omega
        case rel =>
          refine ⟨3, q + nq, by omega, Nat.le_refl _, by go_num, by first | rfl | simp, (show Hid _ from fun i hi => ?_)⟩
          by_cases e : i = 2
          · subst e; exact HN.out
          · exact HE.out i (by omega)
      · have hn1 : (a2 != b2) = true := by simpa using hn
        have HN := hid_of hn
        clear hn
        go_wp2_with fail
        go_quiet (fail)
        go_wp2_with fail
        go_quiet (fail)
        go_wp2_with fail
        go_ret
        refine ⟨ret_b ?_, by repeat (first | exact HB.out | apply below_drewN)⟩
        have hg := HG.out
        have hn := HN.out
        have q0 : a0 = b0 := HE.out 0 (by decide)
        have q1 : a1 = b1 := HE.out 1 (by decide)
        rw [Bool.eq_iff_iff, hg]
        simp only [decide_eq_true_eq]
        omega
    · by_cases hn : a3 = b3
      · have HN := hid_of hn
        have hn1 : (a3 != b3) = false := by simpa using hn
        clear hn
        go_wp2_with fail
        go_quiet (fail)
        go_wp2_with fail
        go_roundg (7 - 4)
        case measure => omega
        case rel =>
          refine ⟨4, q + nq, by omega, Nat.le_refl _, by go_num, by first | rfl | simp, (show Hid _ from fun i hi => ?_)⟩
          by_cases e : i = 3
          · subst e; exact HN.out
          · exact HE.out i (by omega)
      · have hn1 : (a3 != b3) = true := by simpa using hn
        have HN := hid_of hn
        clear hn
        go_wp2_with fail
        go_quiet (fail)
        go_wp2_with fail
        go_quiet (fail)
        go_wp2_with fail
        go_ret
        refine ⟨ret_b ?_, by repeat (first | exact HB.out | apply below_drewN)⟩
        have hg := HG.out
        have hn := HN.out
        have q0 : a0 = b0 := HE.out 0 (by decide)
        have q1 : a1 = b1 := HE.out 1 (by decide)
        have q2 : a2 = b2 := HE.out 2 (by decide)
        rw [Bool.eq_iff_iff, hg]
        simp only [decide_eq_true_eq]
        omega
    · by_cases hn : a4 = b4
      · have HN := hid_of hn
        have hn1 : (a4 != b4) = false := by simpa using hn
        clear hn
        go_wp2_with fail
        go_quiet (fail)
        go_wp2_with fail
        go_roundg (7 - 5)
        case measure => omega
        case rel =>
          refine ⟨5, q + nq, by omega, Nat.le_refl _, by go_num, by first | rfl | simp, (show Hid _ from fun i hi => ?_)⟩
          by_cases e : i = 4
          · subst e; exact HN.out
          · exact HE.out i (by omega)
      · have hn1 : (a4 != b4) = true := by simpa using hn
        have HN := hid_of hn
        clear hn
        go_wp2_with fail
        go_quiet (fail)
        go_wp2_with fail
        go_quiet (fail)
        go_wp2_with fail
        go_ret
        refine ⟨ret_b ?_, by repeat (first | exact HB.out | apply below_drewN)⟩
        have hg := HG.out
        have hn := HN.out
        have q0 : a0 = b0 := HE.out 0 (by decide)
        have q1 : a1 = b1 := HE.out 1 (by decide)
        have q2 : a2 = b2 := HE.out 2 (by decide)
        have q3 : a3 = b3 := HE.out 3 (by decide)
        rw [Bool.eq_iff_iff, hg]
        simp only [decide_eq_true_eq]
        omega
    · by_cases hn : a5 = b5
      · have HN := hid_of hn
        have hn1 : (a5 != b5) = false := by simpa using hn
        clear hn
        go_wp2_with fail
        go_quiet (fail)
        go_wp2_with fail
        go_roundg (7 - 6)
        case measure => omega
        case rel =>
          refine ⟨6, q + nq, by omega, Nat.le_refl _, by go_num, by first | rfl | simp, (show Hid _ from fun i hi => ?_)⟩
          by_cases e : i = 5
          · subst e; exact HN.out
          · exact HE.out i (by omega)
      · have hn1 : (a5 != b5) = true := by simpa using hn
        have HN := hid_of hn
        clear hn
        go_wp2_with fail
        go_quiet (fail)
        go_wp2_with fail
        go_quiet (fail)
        go_wp2_with fail
        go_ret
        refine ⟨ret_b ?_, by repeat (first | exact HB.out | apply below_drewN)⟩
        have hg := HG.out
        have hn := HN.out
        have q0 : a0 = b0 := HE.out 0 (by decide)
        have q1 : a1 = b1 := HE.out 1 (by decide)
        have q2 : a2 = b2 := HE.out 2 (by decide)
        have q3 : a3 = b3 := HE.out 3 (by decide)
        have q4 : a4 = b4 := HE.out 4 (by decide)
        rw [Bool.eq_iff_iff, hg]
        simp only [decide_eq_true_eq]
        omega
    · by_cases hn : a6 = b6
      · have HN := hid_of hn
        have hn1 : (a6 != b6) = false := by simpa using hn
        clear hn
        go_wp2_with fail
        go_quiet (fail)
        go_wp2_with fail
        go_roundg (7 - 7)
        case measure => omega
        case rel =>
          refine ⟨7, q + nq, by omega, Nat.le_refl _, by go_num, by first | rfl | simp, (show Hid _ from fun i hi => ?_)⟩
          by_cases e : i = 6
          · subst e; exact HN.out
          · exact HE.out i (by omega)
      · have hn1 : (a6 != b6) = true := by simpa using hn
        have HN := hid_of hn
        clear hn
        go_wp2_with fail
        go_quiet (fail)
        go_wp2_with fail
        go_quiet (fail)
        go_wp2_with fail
        go_ret
        refine ⟨ret_b ?_, by repeat (first | exact HB.out | apply below_drewN)⟩
        have hg := HG.out
        have hn := HN.out
        have q0 : a0 = b0 := HE.out 0 (by decide)
        have q1 : a1 = b1 := HE.out 1 (by decide)
        have q2 : a2 = b2 := HE.out 2 (by decide)
        have q3 : a3 = b3 := HE.out 3 (by decide)
        have q4 : a4 = b4 := HE.out 4 (by decide)
        have q5 : a5 = b5 := HE.out 5 (by decide)
        rw [Bool.eq_iff_iff, hg]
        simp only [decide_eq_true_eq]
        omega
    · go_wp2_with fail
      go_ret
      refine ⟨ret_b ?_, by repeat (first | exact HB.out | apply below_drewN)⟩
      have hg := HG.out
      have q0 : a0 = b0 := HE.out 0 (by decide)
      have q1 : a1 = b1 := HE.out 1 (by decide)
      have q2 : a2 = b2 := HE.out 2 (by decide)
      have q3 : a3 = b3 := HE.out 3 (by decide)
      have q4 : a4 = b4 := HE.out 4 (by decide)
      have q5 : a5 = b5 := HE.out 5 (by decide)
      have q6 : a6 = b6 := HE.out 6 (by decide)
      cases r with
      | false => rfl
      | true => exact absurd (hg.1 rfl) (by intro h; (try dsimp only at h); omega)
end Go.Proofs.Ytgcnklnhambpjaa
/- The reference's normal: the different messages in strict order, for every slice of at most 64 messages. -/
namespace Go.Proofs.Ytgcnklnhambpjaa
open Go.RowKit
attribute [local go_sem high] eqMsg
theorem any_take_succ {α : Type} (p : α → Bool) (xs : List α) (k : Nat) (hk : k < xs.length) : (xs.take (k + 1)).any p = ((xs.take k).any p || p xs[k]) := by
  rw [List.take_succ_eq_append_getElem hk, List.any_append]; simp
theorem lessB_lt {x y : Msg} (h : lessB x y = true) : ltM x y := by
  exact (decide_eq_true_iff (p := cmpM x y < 0)).1 h
theorem lessB_nlt {x y : Msg} (h : lessB x y = false) : ¬ ltM x y := by
  exact (decide_eq_false_iff_not (p := cmpM x y < 0)).1 h
theorem keep14 {w W W' : World} {p0 p1 p2 p3 p4 p5 p6 q0 q1 q2 q3 q4 q5 q6 : Addr} {a0 a1 a2 a3 a4 a5 a6 b0 b1 b2 b3 b4 b5 b6 : Value} (h : Below w.heap.size w W ∧ W.cell? p0 = some a0 ∧ W.cell? p1 = some a1 ∧ W.cell? p2 = some a2 ∧ W.cell? p3 = some a3 ∧ W.cell? p4 = some a4 ∧ W.cell? p5 = some a5 ∧ W.cell? p6 = some a6 ∧ W.cell? q0 = some b0 ∧ W.cell? q1 = some b1 ∧ W.cell? q2 = some b2 ∧ W.cell? q3 = some b3 ∧ W.cell? q4 = some b4 ∧ W.cell? q5 = some b5 ∧ W.cell? q6 = some b6) (k : Below W.heap.size W W') : Below w.heap.size w W' ∧ W'.cell? p0 = some a0 ∧ W'.cell? p1 = some a1 ∧ W'.cell? p2 = some a2 ∧ W'.cell? p3 = some a3 ∧ W'.cell? p4 = some a4 ∧ W'.cell? p5 = some a5 ∧ W'.cell? p6 = some a6 ∧ W'.cell? q0 = some b0 ∧ W'.cell? q1 = some b1 ∧ W'.cell? q2 = some b2 ∧ W'.cell? q3 = some b3 ∧ W'.cell? q4 = some b4 ∧ W'.cell? q5 = some b5 ∧ W'.cell? q6 = some b6 := by
  obtain ⟨h0, h1, h2, h3, h4, h5, h6, h7, h8, h9, h10, h11, h12, h13, h14⟩ := h
  exact ⟨below_then h0 h0.size k, cell_below k h1, cell_below k h2, cell_below k h3, cell_below k h4, cell_below k h5, cell_below k h6, cell_below k h7, cell_below k h8, cell_below k h9, cell_below k h10, cell_below k h11, cell_below k h12, cell_below k h13, cell_below k h14⟩
set_option maxHeartbeats 8000000 in
set_option maxRecDepth 100000 in
theorem rnormal_any (l : List Msg) (A : Option Addr) (c : Nat) (w : World) (hR : Rd EMsg w A l) (hl64 : l.length ≤ 64) : Calls Try.prog 43 #[.slice A l.length c] w (Made EMsg 23 (normL l) w) := by
  obtain ⟨i0, hi, hzz⟩ := Option.map_eq_some_iff.1 infoM
  simp only [Prod.mk.injEq] at hzz
  obtain ⟨hz0, hz1, hz2⟩ := hzz
  have HI : Hid (Try.prog.info? 23 = some i0 ∧ i0.zero = some (.agg #[.int .i64 0, .int .i64 0, .int .i64 0, .int .i64 0, .int .i64 0, .int .i64 0, .int .i64 0]) ∧ i0.size = 7 ∧ i0.bytes = 56) := ⟨hi, hz0, hz1, hz2⟩
  clear hi hz0 hz1 hz2
  have hless := fun (a b : Msg) W => rless_any a b W
  have HR := hid_of hR
  clear hR
  go_enter Try.func43, Try.ntmps43
  go_wp2_with fail
  go_loopg [3, 4] l.length (fun gg s3 s4 wr => ∃ (k : Nat) (xs : List Msg), k ≤ l.length ∧ l.length - k ≤ gg ∧ s4 = .int .i64 k ∧ Hid (NormI l k xs) ∧ Hid (Own EMsg 23 wr w.heap.size s3 xs) ∧ Hid (Below w.heap.size w wr))
  case atStart => exact ⟨0, [], Nat.zero_le _, by omega, rfl, NormI.start l, World.ownsRow_made w #[] 0 (Nat.le_refl _) (Nat.zero_le _) (by simp), (Below.refl _ _).alloc (Nat.le_refl _) _⟩
  case round =>
    obtain ⟨k, xs, hk, hg, rfl, HN, HO, BW⟩ := hrel
    by_cases hlt : k < l.length
    · obtain ⟨ad, rfl, c0, c1, c2, c3, c4, c5, c6⟩ := Msg.at_ (HR.out.below BW.out) k hlt
      generalize hx : l[k] = x at c0 c1 c2 c3 c4 c5 c6
      have HX := hid_of hx
      clear hx
      obtain ⟨A1, c1', rfl, hcap, hR1⟩ := HO.out.rd
      have HR1 := hid_of hR1
      have hxl := HN.out.len
      clear hR1
      go_wp2_with fail
      go_loopg [5, 6] xs.length (fun gg s5 s6 wq => ∃ (kk q : Nat) (b : Bool), kk ≤ xs.length ∧ xs.length - kk ≤ gg ∧ s6 = .int .i64 kk ∧ s5 = .bool b ∧ wq = wr.drewN q ∧ Hid (b = (xs.take kk).any (fun y => decide (y = x))))
      case atStart => exact ⟨0, 0, false, Nat.zero_le _, by omega, rfl, rfl, rfl, rfl⟩
      case round =>
        obtain ⟨kk, q, b, hkk, hgk, rfl, rfl, rfl, HB⟩ := hrel
        by_cases hltk : kk < xs.length
        · have hat := any_take_succ (fun y => decide (y = x)) xs kk hltk
          rw [← HB.out] at hat
          obtain ⟨ad1, rfl, d0, d1, d2, d3, d4, d5, d6⟩ := Msg.at_ HR1.out kk hltk
          generalize hy : xs[kk] = y at d0 d1 d2 d3 d4 d5 d6 hat
          have HAT := hid_of hat
          clear hat hy
          cases b with
          | true =>
            clear d0 d1 d2 d3 d4 d5 d6
            go_wp2_with fail
            go_quiet (fail)
            go_wp2_with fail
            go_roundg (xs.length - (kk + 1))
            case measure => omega
            case rel => exact ⟨kk + 1, q + nq, true, by omega, Nat.le_refl _, by go_num, rfl, by first | rfl | simp [World.drewN, Nat.add_assoc] | exact World.drewN_add .., (show Hid _ from by show _ = _; rw [HAT.out]; rfl)⟩
          | false =>
            by_cases hxy : y = x
            · have hd : decide (y = x) = true := by simpa using hxy
              subst hxy
              clear hd
              go_wp2_with fail
              go_quiet (fail)
              go_wp2_with fail
              go_roundg (xs.length - (kk + 1))
              case measure => omega
              case rel => exact ⟨kk + 1, q + nq, true, by omega, Nat.le_refl _, by go_num, rfl, by first | rfl | simp [World.drewN, Nat.add_assoc] | exact World.drewN_add .., (show Hid _ from by show _ = _; rw [HAT.out]; simp)⟩
            · have hd : decide (y = x) = false := by simpa using hxy
              have HXY := hid_of hxy
              clear hxy
              go_wp2_with fail
              go_quiet (fail)
              go_wp2_with fail
              go_roundg (xs.length - (kk + 1))
              case measure => omega
              case rel => exact ⟨kk + 1, q + nq, false, by omega, Nat.le_refl _, by go_num, rfl, by first | rfl | simp [World.drewN, Nat.add_assoc] | exact World.drewN_add .., (show Hid _ from by show _ = _; rw [HAT.out]; simp [HXY.out])⟩
        · have hkx : kk = xs.length := by omega
          subst hkx
          cases b with
          | true =>
            go_wp2_with fail
            go_roundg (l.length - (k + 1))
            case measure => omega
            case rel =>
              refine ⟨k + 1, xs, by omega, Nat.le_refl _, by go_num, HN.out.skip hlt ?_, HO.out.drewN _, below_drewN BW.out _⟩
              have hb := HB.out
              rw [List.take_length] at hb
              obtain ⟨y, hy, he⟩ := List.any_eq_true.1 hb.symm
              rw [HX.out, ← of_decide_eq_true he]; exact hy
          | false =>
            have HNX : Hid (x ∉ xs) := by
              show x ∉ xs
              intro hmem
              have hb := HB.out
              rw [List.take_length] at hb
              exact absurd (List.any_eq_false.1 hb.symm x hmem) (by simp)
            clear HB
            have hxb := BW.out.size
            go_wp2_with (at_builtin; refine wpList_append_own _ rfl _ _ 24 rfl w.heap.size 23 i0 _ 7 56 Try.underlying24 HI.out.1 HI.out.2.1 HI.out.2.2.1 HI.out.2.2.2 rfl (by decide) _ _ _ rfl ((HO.out.drewN _).alloc _) _ 1 _ (EMsg.flat [x]) rfl ?qc1 ?qc2 ?qc3 ?qc4 ?qc5 ?qc6 ?_)
            case qc1 => rfl
            case qc2 =>
              intro j u hj
              have hb := blkN (wr.drewN q) (.cells #[.int .i64 x.mv, .int .i64 x.kd, .int .i64 x.nu, .int .i64 x.dy, .int .i64 x.fr, .int .i64 x.tt, .int .i64 x.al] 23)
              rw [show (wr.drewN q).heap.size = wr.heap.size from rfl] at hb
              rw [addr_plain, blk_cell hb j]
              simpa [Enc.flat, EMsg, Msg.cells] using hj
            case qc3 => exact EMsg.flat_one' _
            case qc4 => simp only [maxLen]; omega
            case qc5 => omega
            case qc6 => simp; omega
            intro v' w1 hown hgrow hnil
            have hown' : Own EMsg 23 w1 w.heap.size v' (xs ++ [x]) := by
              unfold Own; rw [EMsg.flat_append, List.length_append, List.length_singleton]; exact hown
            have hnb := fun k h => (HO.out.block k h).1
            have HB1 := hid_of (((below_drewN BW.out q).alloc hxb (.cells #[.int .i64 x.mv, .int .i64 x.kd, .int .i64 x.nu, .int .i64 x.dy, .int .i64 x.fr, .int .i64 x.tt, .int .i64 x.al] 23)).grown hgrow (by simp; omega) hnb)
            obtain ⟨g, cap, hv', hbg, hgl, hcap'⟩ := hown'.open_ (by simp)
            subst hv'
            have hrow := hown'.row
            have HRow := hid_of hrow.1
            have HBG := hid_of hbg
            have hcapl := hrow.1.cap_le
            have hll : (xs ++ [x]).length = xs.length + 1 := by simp
            rw [hll] at hcap'
            clear hown hown' hgrow hnil hnb HO BW hbg hrow c0 c1 c2 c3 c4 c5 c6 hgl HR1
            rw [hll]
            clear hll
            go_wp2_with fail
            go_loopg [7] xs.length (fun gg s7 wi => ∃ (j : Nat) (ys : List Msg), j ≤ xs.length ∧ j ≤ gg ∧ s7 = .int .i64 j ∧ Hid (InsI xs x j ys) ∧ Hid (Row EMsg 23 wi g cap ys) ∧ Hid (Below w.heap.size w wi))
            case atStart => exact ⟨xs.length, _, Nat.le_refl _, Nat.le_refl _, rfl, InsI.start xs x, HRow.out, HB1.out⟩
            case round =>
              obtain ⟨j, ys, hjl, hjg, rfl, HJ, HRw, BI⟩ := hrel
              have hown : Hid (Own EMsg 23 wr w.heap.size (.slice (some ⟨g, 0, none⟩) (xs.length + 1) cap) ys) := by
                have h := HRw.out.own HBG.out
                rw [HJ.out.len] at h
                exact h
              by_cases hj0 : j = 0
              · subst hj0
                go_wp2_with fail
                go_quiet (fail)
                go_wp2_with fail
                go_roundg (l.length - (k + 1))
                case measure => omega
                case rel => exact ⟨k + 1, ys, by omega, Nat.le_refl _, by go_num, HN.out.add hlt HX.out HNX.out HJ.out (.inl rfl), hown.out.drewN _, below_drewN BI.out _⟩
              · have hj1 : 1 ≤ j := by omega
                have hwr : IntKind.i64.wrap ((j : Int) - 1) = ((j - 1 : Nat) : Int) := by rw [IntKind.wrap_i64]; omega
                have hjp : 0 < j := by omega
                have hjb : (j : Int) < (xs.length : Int) + 1 := by omega
                have hjb2 : j < xs.length + 1 := by omega
                have hjb3 : ((j - 1 : Nat) : Int) < (xs.length : Int) + 1 := by omega
                have hjb4 : j - 1 < xs.length + 1 := by omega
                have hjd : decide ((0 : Int) < (j : Int)) = true := by simp; omega
                have hyl := HJ.out.len
                obtain ⟨ad, had, c0, c1, c2, c3, c4, c5, c6⟩ := Msg.at_ HRw.out.rd j (by omega)
                obtain ⟨ad', had', d0, d1, d2, d3, d4, d5, d6⟩ := Msg.at_ HRw.out.rd (j - 1) (by omega)
                cases had
                cases had'
                simp only [addr_plain] at c0 c1 c2 c3 c4 c5 c6 d0 d1 d2 d3 d4 d5 d6
                rw [HJ.out.here] at c0 c1 c2 c3 c4 c5 c6
                rw [HJ.out.prev (by omega)] at d0 d1 d2 d3 d4 d5 d6
                generalize hp : xs[j - 1]'(by omega) = y at d0 d1 d2 d3 d4 d5 d6
                have HP := hid_of hp
                clear hp hj0
                have HC := hid_of (And.intro c0 (And.intro c1 (And.intro c2 (And.intro c3 (And.intro c4 (And.intro c5 c6))))))
                have HD := hid_of (And.intro d0 (And.intro d1 (And.intro d2 (And.intro d3 (And.intro d4 (And.intro d5 d6))))))
                have HS0 := hid_of (show _ ∧ _ ∧ _ ∧ _ ∧ _ ∧ _ ∧ _ ∧ _ ∧ _ ∧ _ ∧ _ ∧ _ ∧ _ ∧ _ ∧ _ from ⟨(below_drewN (Below.refl _ _) 1 : Below wr.heap.size wr wr.drew), (c0 : wr.drew.cell? _ = _), (c1 : wr.drew.cell? _ = _), (c2 : wr.drew.cell? _ = _), (c3 : wr.drew.cell? _ = _), (c4 : wr.drew.cell? _ = _), (c5 : wr.drew.cell? _ = _), (c6 : wr.drew.cell? _ = _), (d0 : wr.drew.cell? _ = _), (d1 : wr.drew.cell? _ = _), (d2 : wr.drew.cell? _ = _), (d3 : wr.drew.cell? _ = _), (d4 : wr.drew.cell? _ = _), (d5 : wr.drew.cell? _ = _), (d6 : wr.drew.cell? _ = _)⟩)
                clear c0 c1 c2 c3 c4 c5 c6 d0 d1 d2 d3 d4 d5 d6
                have hls := fun W => hless x y W
                by_cases hxy : lessB x y = true
                · rw [hxy] at hls
                  have HXY := hid_of hxy
                  clear hxy hless
                  go_wp2_with fail
                  go_region_held3 (fun w' => Below wr.heap.size wr w' ∧ w'.cell? ⟨g, j * 7, none⟩ = some (.int .i64 x.mv) ∧ w'.cell? ⟨g, j * 7 + 1, none⟩ = some (.int .i64 x.kd) ∧ w'.cell? ⟨g, j * 7 + 2, none⟩ = some (.int .i64 x.nu) ∧ w'.cell? ⟨g, j * 7 + 3, none⟩ = some (.int .i64 x.dy) ∧ w'.cell? ⟨g, j * 7 + 4, none⟩ = some (.int .i64 x.fr) ∧ w'.cell? ⟨g, j * 7 + 5, none⟩ = some (.int .i64 x.tt) ∧ w'.cell? ⟨g, j * 7 + 6, none⟩ = some (.int .i64 x.al) ∧ w'.cell? ⟨g, (j - 1) * 7, none⟩ = some (.int .i64 y.mv) ∧ w'.cell? ⟨g, (j - 1) * 7 + 1, none⟩ = some (.int .i64 y.kd) ∧ w'.cell? ⟨g, (j - 1) * 7 + 2, none⟩ = some (.int .i64 y.nu) ∧ w'.cell? ⟨g, (j - 1) * 7 + 3, none⟩ = some (.int .i64 y.dy) ∧ w'.cell? ⟨g, (j - 1) * 7 + 4, none⟩ = some (.int .i64 y.fr) ∧ w'.cell? ⟨g, (j - 1) * 7 + 5, none⟩ = some (.int .i64 y.tt) ∧ w'.cell? ⟨g, (j - 1) * 7 + 6, none⟩ = some (.int .i64 y.al))
                    (first
                      | exact HS0.out
                      | exact keep14 (by assumption) hbk)
                    (first
                      | (go_at_call 59; with_reducible (refine (hls _).mono ?_); rintro e w' ⟨rfl, hbk⟩))
                  go_wp2
                  go_split_ands
                  have hbw : Below wr.heap.size wr w' := by assumption
                  have hfz := fun i => (HRw.out.below hbw).frozen i
                  have HRW := hid_of (HRw.out.below hbw)
                  have HBW := hid_of (below_then BI.out BI.out.size hbw)
                  clear hbk hbw HC HD HS0 hls
                  go_region
                  clear hfz
                  have hs1 := HRW.out.set (j - 1) (by omega) x
                  have hs2 := hs1.1.set j (by rw [List.length_set]; omega) y
                  have HS1 := hid_of hs1.2
                  have HS2 := hid_of hs2
                  clear hs1 hs2
                  go_wp2_with fail
                  go_roundg (j - 1)
                  case measure => omega
                  case rel =>
                    refine ⟨j - 1, (ys.set (j - 1) x).set j y, by omega, Nat.le_refl _, by go_num, HJ.out.step (by omega) HP.out (lessB_lt HXY.out), HS2.out.1.drew, ?_⟩
                    exact ((HBW.out.grown HS1.out HBW.out.size (fun k hk => by cases hk; exact HBG.out)).grown HS2.out.2 (by have := HS1.out.size; have := HBW.out.size; omega) (fun k hk => by cases hk; exact HBG.out)).drew
                · have hxy' : lessB x y = false := by simpa using hxy
                  rw [hxy'] at hls
                  have HXY := hid_of hxy'
                  clear hxy hxy' hless
                  go_wp2_with fail
                  go_region_held3 (fun w' => Below wr.heap.size wr w' ∧ w'.cell? ⟨g, j * 7, none⟩ = some (.int .i64 x.mv) ∧ w'.cell? ⟨g, j * 7 + 1, none⟩ = some (.int .i64 x.kd) ∧ w'.cell? ⟨g, j * 7 + 2, none⟩ = some (.int .i64 x.nu) ∧ w'.cell? ⟨g, j * 7 + 3, none⟩ = some (.int .i64 x.dy) ∧ w'.cell? ⟨g, j * 7 + 4, none⟩ = some (.int .i64 x.fr) ∧ w'.cell? ⟨g, j * 7 + 5, none⟩ = some (.int .i64 x.tt) ∧ w'.cell? ⟨g, j * 7 + 6, none⟩ = some (.int .i64 x.al) ∧ w'.cell? ⟨g, (j - 1) * 7, none⟩ = some (.int .i64 y.mv) ∧ w'.cell? ⟨g, (j - 1) * 7 + 1, none⟩ = some (.int .i64 y.kd) ∧ w'.cell? ⟨g, (j - 1) * 7 + 2, none⟩ = some (.int .i64 y.nu) ∧ w'.cell? ⟨g, (j - 1) * 7 + 3, none⟩ = some (.int .i64 y.dy) ∧ w'.cell? ⟨g, (j - 1) * 7 + 4, none⟩ = some (.int .i64 y.fr) ∧ w'.cell? ⟨g, (j - 1) * 7 + 5, none⟩ = some (.int .i64 y.tt) ∧ w'.cell? ⟨g, (j - 1) * 7 + 6, none⟩ = some (.int .i64 y.al))
                    (first
                      | exact HS0.out
                      | exact keep14 (by assumption) hbk)
                    (first
                      | (go_at_call 59; with_reducible (refine (hls _).mono ?_); rintro e w' ⟨rfl, hbk⟩))
                  go_wp2
                  go_split_ands
                  have hbw : Below wr.heap.size wr w' := by assumption
                  have HRW := hid_of (HRw.out.below hbw)
                  have HOW := hid_of (hown.out.below hbw)
                  have HBW := hid_of (below_then BI.out BI.out.size hbw)
                  clear hbk hbw HC HD HS0 hls
                  go_roundg (l.length - (k + 1))
                  case measure => omega
                  case rel =>
                    refine ⟨k + 1, ys, by omega, Nat.le_refl _, by go_num, HN.out.add hlt HX.out HNX.out HJ.out (.inr ⟨by omega, ?_⟩), HOW.out, HBW.out⟩
                    rw [HP.out]
                    exact lessB_nlt HXY.out
    · have hkl : k = l.length := by omega
      subst hkl
      go_wp2_with fail
      go_ret
      refine ⟨_, rfl, ?_, BW.out⟩
      rw [← HN.out.done]
      exact HO.out
end Go.Proofs.Ytgcnklnhambpjaa
