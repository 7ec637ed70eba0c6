/- Lists of messages in strict order: one with given members is unique; normL is that one. -/
import Derived.Test.YtgcnklnhambpjaaAwakeF
namespace Go.Proofs.Ytgcnklnhambpjaa
open Go.RowKit
def ltM (a b : Msg) : Prop := cmpM a b < 0
theorem ltM_irr (a : Msg) : ¬ ltM a a := by simp only [ltM, cmpM_neg]; omega
theorem ltM_tr {a b c : Msg} (h1 : ltM a b) (h2 : ltM b c) : ltM a c := by simp only [ltM, cmpM_neg] at *; omega
theorem ltM_le {a b : Msg} (h : ltM a b) : leM a b = true := by
  simp only [leM, Bool.not_eq_true', decide_eq_false_iff_not]
  intro h2; exact ltM_irr a (ltM_tr h h2)
theorem leM_lt {a b : Msg} (h : leM a b = true) (hne : a ≠ b) : ltM a b := by
  by_cases hl : ltM a b
  · exact hl
  · refine absurd (leM_anti a b h ?_) hne
    simp only [leM, Bool.not_eq_true', decide_eq_false_iff_not]
    exact hl
theorem ltM_nodup {l : List Msg} (h : l.Pairwise ltM) : l.Nodup := h.imp (fun {a b} hab e => by subst e; exact ltM_irr _ hab)
theorem strict_unique {l1 l2 : List Msg} (h1 : l1.Pairwise ltM) (h2 : l2.Pairwise ltM) (hm : ∀ x, x ∈ l1 ↔ x ∈ l2) : l1 = l2 :=
  List.Perm.eq_of_pairwise (le := fun a b => leM a b = true) (fun a b _ _ h1 h2 => leM_anti a b h1 h2) (h1.imp ltM_le) (h2.imp ltM_le)
    ((List.perm_ext_iff_of_nodup (ltM_nodup h1) (ltM_nodup h2)).2 hm)
theorem compU_snoc (l : List Msg) (x : Msg) : comp (l ++ [x]) = if (comp l).getLast? = some x then comp l else comp l ++ [x] := by
  unfold comp; rw [List.foldl_append]; rfl
theorem snoc_ind {P : List Msg → Prop} (h0 : P []) (h1 : ∀ l x, P l → P (l ++ [x])) : ∀ l, P l := by
  intro l
  rw [← List.reverse_reverse l]
  induction l.reverse with
  | nil => exact h0
  | cons x r ih => rw [List.reverse_cons]; exact h1 _ _ ih
theorem compU_last : ∀ l : List Msg, (comp l).getLast? = l.getLast? := by
  refine snoc_ind rfl (fun l x ih => ?_)
  rw [compU_snoc]
  split
  · rename_i h; rw [h]; simp
  · simp
theorem comp_mem : ∀ (l : List Msg) (x : Msg), x ∈ comp l ↔ x ∈ l := by
  refine snoc_ind (fun x => by simp [comp]) (fun l y ih x => ?_)
  rw [compU_snoc]
  split
  · rename_i h
    rw [ih x, List.mem_append, List.mem_singleton]
    constructor
    · exact .inl
    · rintro (h2 | rfl)
      · exact h2
      · exact (ih x).1 (List.mem_of_getLast? h)
  · rw [List.mem_append, List.mem_append, ih x]
theorem comp_strict : ∀ l : List Msg, l.Pairwise (fun a b => leM a b = true) → (comp l).Pairwise ltM := by
  refine snoc_ind (fun _ => by simp [comp]) (fun l y ih h => ?_)
  rw [List.pairwise_append] at h
  have ihl := ih h.1
  rw [compU_snoc]
  split
  · exact ihl
  · rename_i hne
    rw [List.pairwise_append]
    refine ⟨ihl, by simp, fun a ha b hb => ?_⟩
    simp only [List.mem_singleton] at hb
    subst hb
    have hle : leM a b = true := h.2.2 a ((comp_mem l a).1 ha) b (by simp)
    refine leM_lt hle (fun e => ?_)
    subst e
    -- a is a member and every later one is not less: so it is the last
    have hal : a ∈ l := (comp_mem l a).1 ha
    obtain ⟨z, hz⟩ : ∃ z, l.getLast? = some z := by
      cases hl : l.getLast? with
      | none => rw [List.getLast?_eq_none_iff] at hl; subst hl; simp at hal
      | some z => exact ⟨z, rfl⟩
    have hza : leM z a = true := h.2.2 z (List.mem_of_getLast? hz) a (by simp)
    have haz : leM a z = true := by
      rcases List.getLast?_eq_some_iff.1 hz with ⟨r, hr⟩
      rw [hr] at hal h
      rcases List.mem_append.1 hal with hm | hm
      · exact (List.pairwise_append.1 h.1).2.2 a hm z (by simp)
      · simp only [List.mem_singleton] at hm; subst hm; exact hza
    have := leM_anti a z haz hza
    subst this
    exact hne ((compU_last l).trans hz)
theorem normL_strict (l : List Msg) : (normL l).Pairwise ltM := comp_strict _ (sort_sorted l)
theorem normL_mem (l : List Msg) (x : Msg) : x ∈ normL l ↔ x ∈ l := by unfold normL; rw [comp_mem, (List.mergeSort_perm l leM).mem_iff]
theorem normL_of {l out : List Msg} (h : out.Pairwise ltM) (hm : ∀ x, x ∈ out ↔ x ∈ l) : out = normL l := strict_unique h (normL_strict l) (fun x => (hm x).trans (normL_mem l x).symm)
end Go.Proofs.Ytgcnklnhambpjaa
