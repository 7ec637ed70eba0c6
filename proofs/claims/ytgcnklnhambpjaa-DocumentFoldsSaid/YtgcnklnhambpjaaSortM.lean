/- slices.SortFunc of messages by compare, on a row of the call's own: the row is sorted. -/
import Derived.Test.YtgcnklnhambpjaaLaySort
import Derived.Test.YtgcnklnhambpjaaCmpM
import Derived.Test.YtgcnklnhambpjaaRow
import Derived.Shelf.SlSortCmp.NoneTotal
namespace Go.Proofs.Ytgcnklnhambpjaa
open Go.RowKit Go.Sort Go.Shelf
theorem isAggM : ∀ w, (isAgg 23).run Try.prog w = .ok true w := Try.isAgg23
theorem sizeOfM : ∀ w, (Go.sizeOf 23).run Try.prog w = .ok 7 w := Try.sizeOf23
theorem cmpI_neg (x y : Int) : (cmpI x y < 0) ↔ x < y := by unfold cmpI; split <;> (try split) <;> omega
theorem cmpI_zero (x y : Int) : (cmpI x y = 0) ↔ x = y := by unfold cmpI; split <;> (try split) <;> omega
theorem cmpLaysM (blk off size : Nat) (w : World) : CmpLays Try.prog 40 #[] EMsg.enc 7 cmpM blk off size w :=
  fun _ _ _ _ x y => compareM_any x y _

section
variable {α : Type} [Inhabited α]
theorem flatK_flat (E : Enc α) (xs : List α) : (flatK E.enc E.k xs.toArray).toList = E.flat xs := by
  apply List.ext_getElem?
  intro t
  by_cases ht : t < xs.length * E.k
  · have hk := E.pos
    have hi : t / E.k < xs.length := Nat.div_lt_of_lt_mul (by rwa [Nat.mul_comm])
    have hm : t % E.k < E.k := Nat.mod_lt _ hk
    have h1 : (E.enc xs[t / E.k])[t % E.k]? = some ((E.enc xs[t / E.k])[t % E.k]'(by rw [E.len]; exact hm)) := List.getElem?_eq_getElem _
    have h2 := E.flat_get xs (t / E.k) (t % E.k) hi _ h1
    rw [Nat.div_add_mod'] at h2
    rw [h2, Array.getElem?_toList]
    simp [flatK, ht, hi, E.len, hm]
  · rw [List.getElem?_eq_none (by simp [flatK]; omega), List.getElem?_eq_none (by rw [E.flat_length]; omega)]
theorem Row.holds {E : Enc α} {t : TypeId} {w : World} {g cap : Nat} {xs : List α} (h : Row E t w g cap xs) : HoldsK E.enc E.k w g 0 xs.toArray := by
  intro j hj
  have hrd := h.rd
  have hj' : j < xs.length * E.k := by simpa using hj
  have hpos : 0 < xs.length := by
    rcases Nat.eq_zero_or_pos xs.length with h0 | h0
    · rw [h0] at hj'; omega
    · exact h0
  obtain ⟨ad, had, hc⟩ := hrd.2 hpos
  cases had
  refine ⟨?_, h.frozen _⟩
  have hv : (E.flat xs)[j]? = some ((flatK E.enc E.k xs.toArray)[j]!) := by
    rw [← flatK_flat, Array.getElem?_toList, getElem!_pos (flatK E.enc E.k xs.toArray) j hj]
    exact Array.getElem?_eq_getElem hj
  have := hc j _ hv
  rw [addr_plain] at this
  rw [Nat.zero_add]
  exact this
theorem putCells_take (F cur : Array Value) (hs : F.size ≤ cur.size) : (putCells id 0 F cur).size = cur.size ∧ (putCells id 0 F cur).toList.take F.size = F.toList := by
  refine ⟨by simp [putCells], ?_⟩
  apply List.ext_getElem?
  intro j
  rw [List.getElem?_take]
  by_cases hj : j < F.size
  · rw [if_pos hj, Array.getElem?_toList, Array.getElem?_toList]
    simp only [putCells, Array.getElem?_mapIdx, Array.getElem?_eq_getElem (show j < cur.size by omega), Option.map_some]
    rw [if_pos ⟨by omega, by omega⟩, Array.getElem?_eq_getElem hj]
    simp [hj]
  · rw [if_neg hj, List.getElem?_eq_none (by simpa using hj)]
theorem Row.sorted {E : Enc α} {t : TypeId} {w : World} {g cap : Nat} {xs ys : List α} (h : Row E t w g cap xs) (hl : ys.length = xs.length) (n : Nat) (os : Array Obj) :
    Row E t (sortWorldK E.enc E.k w g 0 n ys.toArray os) g cap ys ∧ w.grownBy (sortWorldK E.enc E.k w g 0 n ys.toArray os) (some g) := by
  have hlt := h.lt
  obtain ⟨cur, hg, hcs, hcm, hnc, htake⟩ := h
  have hb : ys.length * E.k ≤ cap * E.k := Nat.mul_le_mul_right _ (by omega)
  obtain ⟨h1, h2⟩ := putCells_take (flatK E.enc E.k ys.toArray) cur (by simp; omega)
  have hm : (putRow id (Sort.ahead w n) g 0 (flatK E.enc E.k ys.toArray)).heap[g]? = some (.cells (putCells id 0 (flatK E.enc E.k ys.toArray) cur) t (0, 0)) := by
    show (w.heap.modify g _)[g]? = _
    rw [Array.getElem?_modify, if_pos rfl, hg]
    rfl
  have hsz : g < (putRow id (Sort.ahead w n) g 0 (flatK E.enc E.k ys.toArray)).heap.size := (Array.getElem?_eq_some_iff.1 hm).1
  refine ⟨⟨putCells id 0 (flatK E.enc E.k ys.toArray) cur, (heap_grow_old _ os hsz).trans hm, by rw [h1, hcs], hcm, by omega, ?_⟩, ⟨rfl, rfl, rfl, ?_, ?_⟩⟩
  · rw [← flatK_flat, ← h2]; simp
  · show w.heap.size ≤ ((w.heap.modify g _) ++ os).size
    simp
  · intro k hk hne
    have hk2 : k < (putRow id (Sort.ahead w n) g 0 (flatK E.enc E.k ys.toArray)).heap.size := by show k < (w.heap.modify g _).size; simpa using hk
    refine (heap_grow_old _ os hk2).trans ?_
    show (w.heap.modify g _)[k]? = _
    rw [Array.getElem?_modify, if_neg (fun e => hne (by rw [e]))]
end
/-- Not behind. -/
def leM (x y : Msg) : Bool := !decide (cmpM y x < 0)
theorem cmpM_neg (x y : Msg) : cmpM x y < 0 ↔ (x.mv < y.mv ∨ (x.mv = y.mv ∧ (x.kd < y.kd ∨ (x.kd = y.kd ∧ (x.nu < y.nu ∨ (x.nu = y.nu ∧ (x.dy < y.dy ∨ (x.dy = y.dy ∧ (x.fr < y.fr ∨ (x.fr = y.fr ∧ (x.tt < y.tt ∨ (x.tt = y.tt ∧ x.al < y.al)))))))))))) := by
  unfold cmpM orI
  have step : ∀ (a b : Int) (l : List Int) (r : Prop), ((match l.find? (fun x => x != 0) with | some x => x | none => (0 : Int)) < 0 ↔ r) → ((match (cmpI a b :: l).find? (fun x => x != 0) with | some x => x | none => (0 : Int)) < 0 ↔ (a < b ∨ (a = b ∧ r))) := by
    intro a b l r h
    by_cases he : a = b
    · have : cmpI a b = 0 := (cmpI_zero a b).2 he
      rw [List.find?_cons_of_neg (by simp [this]), h]
      constructor
      · intro h; exact .inr ⟨he, h⟩
      · rintro (h | h)
        · omega
        · exact h.2
    · have : cmpI a b ≠ 0 := fun h => he ((cmpI_zero a b).1 h)
      rw [List.find?_cons_of_pos (by simpa using this)]
      show cmpI a b < 0 ↔ _
      rw [cmpI_neg]
      constructor
      · intro h; exact .inl h
      · rintro (h | h)
        · exact h
        · exact absurd h.1 he
  refine step _ _ _ _ (step _ _ _ _ (step _ _ _ _ (step _ _ _ _ (step _ _ _ _ (step _ _ _ _ ?_)))))
  refine (step _ _ [] False ?_).trans ?_
  · simp
  · simp
theorem swoM : SWO (ltOf cmpM) where
  irrefl x := by simp only [ltOf, decide_eq_false_iff_not, cmpM_neg]; omega
  trans x y z h1 h2 := by simp only [ltOf, decide_eq_true_eq, cmpM_neg] at *; omega
  ntrans x y z h1 h2 := by simp only [ltOf, decide_eq_false_iff_not, cmpM_neg] at *; omega
theorem totM (x y : Msg) (h1 : ltOf cmpM x y = false) (h2 : ltOf cmpM y x = false) : x = y := by
  simp only [ltOf, decide_eq_false_iff_not, cmpM_neg] at h1 h2
  obtain ⟨a0, a1, a2, a3, a4, a5, a6⟩ := x
  obtain ⟨b0, b1, b2, b3, b4, b5, b6⟩ := y
  simp only [Msg.mk.injEq]
  dsimp only at h1 h2
  omega
theorem sortM (xs : List Msg) (g cap : Nat) (w : World) (hO : Row EMsg 23 w g cap xs) (hl : xs.length < 4611686018427387904) :
    Calls Try.prog 39 #[.slice (some ⟨g, 0, none⟩) xs.length cap, .func (.func 40) #[] #[]] w fun e w' => e = .returned (.tuple #[]) ∧ Row EMsg 23 w' g cap (xs.mergeSort leM) ∧ w.grownBy w' (some g) := by
  have eg : ∀ args w, (callFunc 40 args).run Try.prog w = .ok (.enter 40 args) w := enters_of Try.func40 (by kernel_rfl) rfl
  have hcon := AnyQ.slices_SortFunc_total sortMsg 7 isAggM sizeOfM EMsg.enc EMsg.len EMsg.one cmpM swoM 40 #[] g 0 cap xs.toArray w eg (cmpLaysM g 0 _ w) hO.holds hO.lt (by simpa using hl) totM
  refine Calls.mono (show Calls Try.prog 39 _ _ _ from hcon) ?_
  rintro e w' ⟨he, n, os, rfl⟩
  have hs := hO.sorted (ys := xs.mergeSort leM) (by simp) n os
  exact ⟨he, hs.1, hs.2⟩
theorem sortM_none (A : Option Addr) (c : Nat) (fv : Value) (w : World) : Calls Try.prog 39 #[.slice A 0 c, fv] w fun e w' => e = .returned (.tuple #[]) ∧ w' = w :=
  AnyF.slices_SortFunc_none { sortMsg with } A c fv w
end Go.Proofs.Ytgcnklnhambpjaa
