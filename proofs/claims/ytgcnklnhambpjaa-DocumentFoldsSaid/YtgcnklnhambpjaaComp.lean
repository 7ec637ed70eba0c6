/- Runs of equal elements become one: plain lists. -/
import Derived.Test.YtgcnklnhambpjaaRow
namespace Go.Proofs.Ytgcnklnhambpjaa
variable {α : Type} [DecidableEq α]
def comp (l : List α) : List α := l.foldl (fun acc x => if acc.getLast? = some x then acc else acc ++ [x]) []
theorem comp_snoc (l : List α) (x : α) : comp (l ++ [x]) = if (comp l).getLast? = some x then comp l else comp l ++ [x] := by
  unfold comp
  rw [List.foldl_append]
  rfl
theorem comp_last (l : List α) : (comp l).getLast? = l.getLast? := by
  rcases List.eq_nil_or_concat l with rfl | ⟨l', x, rfl⟩
  · rfl
  · rw [List.concat_eq_append, comp_snoc]
    split
    · rename_i h; rw [h]; simp
    · simp
theorem comp_length_le (l : List α) : (comp l).length ≤ l.length := by
  suffices h : ∀ n, ∀ l : List α, l.length = n → (comp l).length ≤ l.length from h _ l rfl
  intro n
  induction n with
  | zero => intro l h; rw [List.eq_nil_of_length_eq_zero h]; simp [comp]
  | succ n ih =>
    intro l h
    rcases List.eq_nil_or_concat l with rfl | ⟨l', x, rfl⟩
    · simp at h
    · have := ih l' (by simpa using h)
      rw [List.concat_eq_append, comp_snoc]
      split <;> simp <;> omega
theorem comp_take_eq (l : List α) (m : Nat) (h0 : 0 < m) (hm : m < l.length) (h : l[m] = l[m - 1]) : comp (l.take (m + 1)) = comp (l.take m) := by
  rw [List.take_succ_eq_append_getElem hm, comp_snoc, if_pos]
  rw [comp_last, List.getLast?_eq_getElem?, h, List.getElem?_take]
  have : (l.take m).length = m := by rw [List.length_take]; omega
  rw [this, if_pos (by omega), List.getElem?_eq_getElem]
theorem comp_take_ne (l : List α) (m : Nat) (h0 : 0 < m) (hm : m < l.length) (h : l[m] ≠ l[m - 1]) : comp (l.take (m + 1)) = comp (l.take m) ++ [l[m]] := by
  rw [List.take_succ_eq_append_getElem hm, comp_snoc, if_neg]
  rw [comp_last, List.getLast?_eq_getElem?, List.getElem?_take]
  have : (l.take m).length = m := by rw [List.length_take]; omega
  rw [this, if_pos (by omega), List.getElem?_eq_getElem]
  · intro e
    injection e with e
    exact h e.symm
  · omega
theorem comp_take_all (l : List α) (m : Nat) (hm : m ≤ l.length) (h : ∀ j, 0 < j → (hj : j < m) → l[j] ≠ l[j - 1]) : comp (l.take m) = l.take m := by
  induction m with
  | zero => simp [comp]
  | succ m ih =>
    have ih := ih (by omega) (fun j h0 hj => h j h0 (by omega))
    rcases Nat.eq_zero_or_pos m with rfl | h0
    · rw [List.take_succ_eq_append_getElem hm, comp_snoc]; simp [comp]
    · rw [comp_take_ne l m h0 hm (h m h0 (by omega)), ih, List.take_succ_eq_append_getElem hm]
theorem comp_one (l : List α) (h : l.length < 2) : comp l = l := by
  match l, h with
  | [], _ => rfl
  | [x], _ => simp [comp]
/-- What holds behind m elements: kk of them are kept, and stand in front; from m - 1 on all is as it was. -/
structure CInv (xs dk : List α) (m kk : Nat) : Prop where
  len : dk.length = xs.length
  m0 : 0 < m
  mle : m ≤ xs.length
  hk : kk = (comp (xs.take m)).length
  lt : kk < m
  front : dk.take kk = comp (xs.take m)
  high : ∀ j, m - 1 ≤ j → dk[j]? = xs[j]?
theorem CInv.start {xs : List α} {k : Nat} (h0 : 0 < k) (hk : k < xs.length) (ha : ∀ j, 0 < j → (hj : j < k) → xs[j] ≠ xs[j - 1]) (he : xs[k] = xs[k - 1]) : CInv xs xs (k + 1) k := by
  have h1 : comp (xs.take (k + 1)) = xs.take k := by rw [comp_take_eq xs k h0 hk he, comp_take_all xs k (by omega) ha]
  exact ⟨rfl, by omega, hk, by rw [h1, List.length_take]; omega, by omega, h1.symm, fun _ _ => rfl⟩
theorem CInv.skip {xs dk : List α} {m kk : Nat} (h : CInv xs dk m kk) (hm : m < xs.length) (he : xs[m] = xs[m - 1]'(by omega)) : CInv xs dk (m + 1) kk := by
  have e := comp_take_eq xs m h.m0 hm he
  exact ⟨h.len, by omega, hm, by rw [e]; exact h.hk, by have := h.lt; omega, by rw [e]; exact h.front, fun j hj => h.high j (by omega)⟩
theorem CInv.keep {xs dk : List α} {m kk : Nat} (h : CInv xs dk m kk) (hm : m < xs.length) (he : xs[m] ≠ xs[m - 1]'(by omega)) : CInv xs (dk.set kk xs[m]) (m + 1) (kk + 1) := by
  have e := comp_take_ne xs m h.m0 hm he
  have hlt := h.lt
  have hlen := h.len
  refine ⟨by simp [hlen], by omega, hm, by rw [e]; simp [← h.hk], by omega, ?_, fun j hj => ?_⟩
  · rw [e, ← h.front, List.set_eq_take_append_cons_drop, if_pos (by omega), List.take_append, List.take_of_length_le (by simp; omega)]
    have : kk + 1 - (dk.take kk).length = 1 := by rw [List.length_take]; omega
    rw [this]; rfl
  · rw [List.getElem?_set, if_neg (by omega)]
    exact h.high j (by omega)
theorem CInv.done {xs dk : List α} {kk : Nat} (h : CInv xs dk xs.length kk) : dk.take kk = comp xs ∧ kk = (comp xs).length ∧ kk < xs.length := by
  have h1 := h.front
  have h2 := h.hk
  have h3 := h.lt
  rw [List.take_of_length_le (Nat.le_refl _)] at h1 h2
  exact ⟨h1, h2, h3⟩
end Go.Proofs.Ytgcnklnhambpjaa
