/- What the functions return for the example. -/
import Derived.Test.YtgcnklnhambpjaaEx
namespace Go.Proofs.Ytgcnklnhambpjaa
open Go.RowKit
theorem leM_tr (a b c : Msg) (h1 : leM a b = true) (h2 : leM b c = true) : leM a c = true := by
  simp only [leM, Bool.not_eq_true', decide_eq_false_iff_not, cmpM_neg] at *; omega
theorem leM_tot (a b : Msg) : (leM a b || leM b a) = true := by
  simp only [leM, Bool.or_eq_true, Bool.not_eq_true', decide_eq_false_iff_not, cmpM_neg]; omega
theorem leM_anti (a b : Msg) (h1 : leM a b = true) (h2 : leM b a = true) : a = b := by
  simp only [leM, Bool.not_eq_true'] at h1 h2
  exact totM a b h2 h1
theorem sort_sorted (l : List Msg) : (l.mergeSort leM).Pairwise (fun a b => leM a b = true) := List.pairwise_mergeSort leM_tr leM_tot l
theorem sort_eq (xs ys : List Msg) (hp : xs.Perm ys) (hs : ys.Pairwise (fun a b => leM a b = true)) : xs.mergeSort leM = ys :=
  List.Perm.eq_of_pairwise (le := fun a b => leM a b = true) (fun a b _ _ h1 h2 => leM_anti a b h1 h2) (sort_sorted xs) hs ((List.mergeSort_perm xs leM).trans hp)
theorem normR_of (xs ys : List Msg) (hl : xs.length ≤ 64) (hb : xs.any badM = false) (hp : xs.Perm ys) (hs : ys.Pairwise (fun a b => leM a b = true)) : normR xs = (comp ys, 0) := by
  unfold normR normL
  rw [if_neg (by omega), if_neg (by rw [hb]; simp), sort_eq xs ys hp hs]
theorem awk1 : normR exL = (exL, 0) := normR_of exL exL (by decide) (by decide +kernel) (.refl _) (by decide +kernel)
theorem awk2 : normR (exL ++ [⟨5, 3, 0, 4, 0, 0, 97⟩]) = (exL.take 2 ++ [⟨5, 3, 0, 4, 0, 0, 97⟩, ⟨5, 3, 0, 4, 0, 0, 98⟩], 0) :=
  normR_of _ (exL.take 2 ++ [⟨5, 3, 0, 4, 0, 0, 97⟩, ⟨5, 3, 0, 4, 0, 0, 98⟩]) (by decide) (by decide +kernel) (by decide +kernel) (by decide +kernel)
theorem awk3 : normR (exL.take 1) = (exL.take 1, 0) := normR_of _ _ (by decide) (by decide +kernel) (.refl _) (by decide +kernel)
def wantD : Doc := ⟨5, 2, 1, 3, 100, 98, 1⟩
theorem awk4 : ofP exL 5 = (wantD, 0) := by unfold ofP; rw [awk1]; decide +kernel
theorem awk5 : ofP (exL ++ [⟨5, 3, 0, 4, 0, 0, 97⟩]) 5 = (⟨5, 5, 0, 0, 0, 0, 0⟩, 0) := by unfold ofP; rw [awk2]; decide +kernel
theorem awk6 : openP (exL.take 1) 2 = (100, 0) := by unfold openP allP; rw [awk3]; decide +kernel
theorem awk7 : allP exL = ([wantD], 0) := by unfold allP; rw [awk1]; decide +kernel
theorem awk8 : laterB wantD ⟨5, 5, 0, 0, 0, 0, 0⟩ = true := by decide +kernel
theorem awk9 : laterB ⟨5, 5, 0, 0, 0, 0, 0⟩ wantD = false := by decide +kernel
theorem awk10 : chkM ⟨5, 1, 0, 1, 1, 2, 100⟩ = 0 := by decide +kernel
end Go.Proofs.Ytgcnklnhambpjaa
