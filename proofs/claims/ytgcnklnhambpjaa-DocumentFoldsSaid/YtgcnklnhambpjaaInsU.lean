/- An insertion by swaps into a list in strict order: plain lists. -/
import Derived.Test.YtgcnklnhambpjaaRNormU
namespace Go.Proofs.Ytgcnklnhambpjaa
open Go.RowKit
/-- ys is xs with x at place j; what is behind it is greater. -/
structure InsI (xs : List Msg) (x : Msg) (j : Nat) (ys : List Msg) : Prop where
  le : j ≤ xs.length
  eq : ys = xs.take j ++ x :: xs.drop j
  gt : ∀ y ∈ xs.drop j, ltM x y
theorem InsI.start (xs : List Msg) (x : Msg) : InsI xs x xs.length (xs ++ [x]) := ⟨Nat.le_refl _, by simp, by simp⟩
theorem InsI.len {xs ys : List Msg} {x : Msg} {j : Nat} (h : InsI xs x j ys) : ys.length = xs.length + 1 := by
  rw [h.eq]; simp; have := h.le; omega
theorem InsI.here {xs ys : List Msg} {x : Msg} {j : Nat} (h : InsI xs x j ys) (hj : j < ys.length) : ys[j] = x := by
  have := h.le
  simp only [h.eq]
  rw [List.getElem_append_right (by simp; omega)]
  simp [Nat.min_eq_left h.le]
theorem InsI.prev {xs ys : List Msg} {x : Msg} {j : Nat} (h : InsI xs x j ys) (h0 : 0 < j) (hj : j - 1 < ys.length) : ys[j - 1] = xs[j - 1]'(by have := h.le; omega) := by
  have := h.le
  simp only [h.eq]
  rw [List.getElem_append_left (by simp; omega)]
  simp
theorem InsI.step {xs ys : List Msg} {x y : Msg} {j : Nat} (h : InsI xs x j ys) (h0 : 0 < j) (hy : xs[j - 1]'(by have := h.le; omega) = y) (hl : ltM x y) : InsI xs x (j - 1) ((ys.set (j - 1) x).set j y) := by
  have hle := h.le
  refine ⟨by omega, ?_, ?_⟩
  · apply List.ext_getElem?
    intro i
    rw [h.eq]
    simp only [List.getElem?_set, List.length_set, List.length_append, List.length_take, List.length_cons, List.length_drop, Nat.min_eq_left hle, Nat.min_eq_left (show j - 1 ≤ xs.length by omega)]
    by_cases h1 : j = i
    · subst h1
      rw [if_pos rfl, if_pos (by omega), List.getElem?_append_right (by simp; omega)]
      simp only [List.length_take, Nat.min_eq_left (show j - 1 ≤ xs.length by omega)]
      rw [show j - (j - 1) = 0 + 1 by omega, List.getElem?_cons_succ, List.getElem?_drop, Nat.add_zero, List.getElem?_eq_getElem (by omega), hy]
    · rw [if_neg h1]
      by_cases h2 : j - 1 = i
      · subst h2
        rw [if_pos rfl, if_pos (by omega), List.getElem?_append_right (by simp; omega)]
        simp [Nat.min_eq_left (show j - 1 ≤ xs.length by omega)]
      · rw [if_neg h2]
        by_cases h3 : i < j - 1
        · rw [List.getElem?_append_left (by simp; omega), List.getElem?_append_left (by simp; omega), List.getElem?_take, List.getElem?_take, if_pos (by omega), if_pos h3]
        · rw [List.getElem?_append_right (by simp; omega), List.getElem?_append_right (by simp; omega)]
          simp only [List.length_take, Nat.min_eq_left hle, Nat.min_eq_left (show j - 1 ≤ xs.length by omega)]
          rw [show i - j = (i - j - 1) + 1 by omega, show i - (j - 1) = (i - j - 1) + 1 + 1 by omega, List.getElem?_cons_succ, List.getElem?_cons_succ, List.getElem?_drop, List.getElem?_drop]
          congr 1; omega
  · intro z hz
    rw [List.drop_eq_getElem_cons (by omega)] at hz
    rcases List.mem_cons.1 hz with rfl | hz
    · rw [hy]; exact hl
    · rw [show j - 1 + 1 = j by omega] at hz
      exact h.gt z hz
theorem ltM_tot {a b : Msg} (hne : a ≠ b) (h : ¬ ltM a b) : ltM b a := by
  refine leM_lt ?_ (fun e => hne e.symm)
  simp only [leM, Bool.not_eq_true', decide_eq_false_iff_not]
  exact h
theorem InsI.done {xs ys : List Msg} {x : Msg} {j : Nat} (h : InsI xs x j ys) (hs : xs.Pairwise ltM) (hx : x ∉ xs) (hj : j = 0 ∨ ∃ hj : j - 1 < xs.length, ¬ ltM x xs[j - 1]) : ys.Pairwise ltM ∧ ∀ z, z ∈ ys ↔ z ∈ xs ∨ z = x := by
  have hle := h.le
  have hlow : ∀ z ∈ xs.take j, ltM z x := by
    intro z hz
    rcases hj with rfl | ⟨hj, hn⟩
    · simp at hz
    · obtain ⟨i, hi, rfl⟩ := List.getElem_of_mem hz
      have hi' : i < j := by have := hi; simp at this; omega
      rw [List.getElem_take]
      have hl1 : ltM xs[j - 1] x := ltM_tot (fun e => hx (by rw [e]; exact List.getElem_mem hj)) hn
      by_cases e : i = j - 1
      · subst e; exact hl1
      · exact ltM_tr ((List.pairwise_iff_getElem.1 hs) i (j - 1) (by omega) hj (by omega)) hl1
  have hsp : xs = xs.take j ++ xs.drop j := (List.take_append_drop j xs).symm
  constructor
  · rw [h.eq, List.pairwise_append]
    rw [hsp, List.pairwise_append] at hs
    refine ⟨hs.1, List.pairwise_cons.2 ⟨h.gt, hs.2.1⟩, fun a ha b hb => ?_⟩
    rcases List.mem_cons.1 hb with rfl | hb
    · exact hlow a ha
    · exact hs.2.2 a ha b hb
  · intro z
    rw [h.eq]
    conv => rhs; rw [hsp]
    simp only [List.mem_append, List.mem_cons]
    constructor
    · rintro (h | h | h)
      · exact .inl (.inl h)
      · exact .inr h
      · exact .inl (.inr h)
    · rintro ((h | h) | h)
      · exact .inl h
      · exact .inr (.inr h)
      · exact .inr (.inl h)
/-- A list so far: in strict order, with the members of the first k. -/
structure NormI (l : List Msg) (k : Nat) (xs : List Msg) : Prop where
  srt : xs.Pairwise ltM
  mem : ∀ z, z ∈ xs ↔ z ∈ l.take k
  len : xs.length ≤ k
theorem NormI.start (l : List Msg) : NormI l 0 [] := ⟨by simp, by simp, by simp⟩
theorem NormI.skip {l xs : List Msg} {k : Nat} (h : NormI l k xs) (hk : k < l.length) (hm : l[k] ∈ xs) : NormI l (k + 1) xs := by
  refine ⟨h.srt, fun z => ?_, by have := h.len; omega⟩
  rw [List.take_succ_eq_append_getElem hk, List.mem_append, List.mem_singleton, ← h.mem z]
  constructor
  · exact .inl
  · rintro (h | rfl)
    · exact h
    · exact hm
theorem NormI.add {l xs ys : List Msg} {k j : Nat} {x : Msg} (h : NormI l k xs) (hk : k < l.length) (hx : l[k] = x) (hm : x ∉ xs) (hi : InsI xs x j ys) (hj : j = 0 ∨ ∃ hj : j - 1 < xs.length, ¬ ltM x xs[j - 1]) : NormI l (k + 1) ys := by
  obtain ⟨h1, h2⟩ := hi.done h.srt hm hj
  refine ⟨h1, fun z => ?_, by rw [hi.len]; have := h.len; omega⟩
  rw [List.take_succ_eq_append_getElem hk, List.mem_append, List.mem_singleton, ← h.mem z, h2 z, hx]
theorem NormI.done {l xs : List Msg} (h : NormI l l.length xs) : xs = normL l := normL_of h.srt (fun z => by rw [h.mem z, List.take_length])
end Go.Proofs.Ytgcnklnhambpjaa
