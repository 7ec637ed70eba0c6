/- Joined texts of the seat: contracts and plain laws that the rows import. -/
import Derived.Test.YtgcnklnhambpjaaLaySort
import Derived.Test.YtgcnklnhambpjaaK1
import Derived.Shelf.SlSortCmp.NoneTotal
import Derived.Laws.StructEq
import Derived.BigRegion
import Derived.BigQuiet
import Derived.Deep.QuietTactic
import Derived.RegionTactic
import Derived.Deep.LoopGhost
import Derived.Outline
import Derived.Lib.SliceRun
import Derived.Sort.Grow
set_option linter.unusedVariables false
set_option linter.unusedSimpArgs false
/- slices.SortFunc of messages by compare, on a row of the call's own: the row is sorted. -/
namespace Go.Proofs.Ytgcnklnhambpjaa
open Go.RowKit Go.Sort Go.Shelf
theorem isAggM : ∀ w, (isAgg 23).run Try.prog w = .ok true w := Try.isAgg23
theorem sizeOfM : ∀ w, (Go.sizeOf 23).run Try.prog w = .ok 7 w := Try.sizeOf23
theorem cmpI_neg (x y : Int) : (cmpI x y < 0) ↔ x < y := by unfold cmpI; split <;> (try split) <;> omega
theorem cmpI_zero (x y : Int) : (cmpI x y = 0) ↔ x = y := by unfold cmpI; split <;> (try split) <;> omega
theorem cmpLaysM (blk off size : Nat) (w : World) : CmpLays Try.prog 40 #[] EMsg.enc 7 cmpM blk off size w :=
  fun _ _ _ _ x y => compareM_any x y _

section
variable {α : Type} [Inhabited α]
theorem flatK_flat (E : Enc α) (xs : List α) : (flatK E.enc E.k xs.toArray).toList = E.flat xs := by
  apply List.ext_getElem?
  intro t
  by_cases ht : t < xs.length * E.k
  · have hk := E.pos
    have hi : t / E.k < xs.length := Nat.div_lt_of_lt_mul (by rwa [Nat.mul_comm])
    have hm : t % E.k < E.k := Nat.mod_lt _ hk
    have h1 : (E.enc xs[t / E.k])[t % E.k]? = some ((E.enc xs[t / E.k])[t % E.k]'(by rw [E.len]; exact hm)) := List.getElem?_eq_getElem _
    have h2 := E.flat_get xs (t / E.k) (t % E.k) hi _ h1
    rw [Nat.div_add_mod'] at h2
    rw [h2, Array.getElem?_toList]
    simp [flatK, ht, hi, E.len, hm]
  · rw [List.getElem?_eq_none (by simp [flatK]; omega), List.getElem?_eq_none (by rw [E.flat_length]; omega)]
theorem Row.holds {E : Enc α} {t : TypeId} {w : World} {g cap : Nat} {xs : List α} (h : Row E t w g cap xs) : HoldsK E.enc E.k w g 0 xs.toArray := by
  intro j hj
  have hrd := h.rd
  have hj' : j < xs.length * E.k := by simpa using hj
  have hpos : 0 < xs.length := by
    rcases Nat.eq_zero_or_pos xs.length with h0 | h0
    · rw [h0] at hj'; omega
    · exact h0
  obtain ⟨ad, had, hc⟩ := hrd.2 hpos
  cases had
  refine ⟨?_, h.frozen _⟩
  have hv : (E.flat xs)[j]? = some ((flatK E.enc E.k xs.toArray)[j]!) := by
    rw [← flatK_flat, Array.getElem?_toList, getElem!_pos (flatK E.enc E.k xs.toArray) j hj]
    exact Array.getElem?_eq_getElem hj
  have := hc j _ hv
  rw [addr_plain] at this
  rw [Nat.zero_add]
  exact this
theorem putCells_take (F cur : Array Value) (hs : F.size ≤ cur.size) : (putCells id 0 F cur).size = cur.size ∧ (putCells id 0 F cur).toList.take F.size = F.toList := by
  refine ⟨by simp [putCells], ?_⟩
  apply List.ext_getElem?
  intro j
  rw [List.getElem?_take]
  by_cases hj : j < F.size
  · rw [if_pos hj, Array.getElem?_toList, Array.getElem?_toList]
    simp only [putCells, Array.getElem?_mapIdx, Array.getElem?_eq_getElem (show j < cur.size by omega), Option.map_some]
    rw [if_pos ⟨by omega, by omega⟩, Array.getElem?_eq_getElem hj]
    simp [hj]
  · rw [if_neg hj, List.getElem?_eq_none (by simpa using hj)]
theorem Row.sorted {E : Enc α} {t : TypeId} {w : World} {g cap : Nat} {xs ys : List α} (h : Row E t w g cap xs) (hl : ys.length = xs.length) (n : Nat) (os : Array Obj) :
    Row E t (sortWorldK E.enc E.k w g 0 n ys.toArray os) g cap ys ∧ w.grownBy (sortWorldK E.enc E.k w g 0 n ys.toArray os) (some g) := by
  have hlt := h.lt
  obtain ⟨cur, hg, hcs, hcm, hnc, htake⟩ := h
  have hb : ys.length * E.k ≤ cap * E.k := Nat.mul_le_mul_right _ (by omega)
  obtain ⟨h1, h2⟩ := putCells_take (flatK E.enc E.k ys.toArray) cur (by simp; omega)
  have hm : (putRow id (Sort.ahead w n) g 0 (flatK E.enc E.k ys.toArray)).heap[g]? = some (.cells (putCells id 0 (flatK E.enc E.k ys.toArray) cur) t (0, 0)) := by
    show (w.heap.modify g _)[g]? = _
    rw [Array.getElem?_modify, if_pos rfl, hg]
    rfl
  have hsz : g < (putRow id (Sort.ahead w n) g 0 (flatK E.enc E.k ys.toArray)).heap.size := (Array.getElem?_eq_some_iff.1 hm).1
  refine ⟨⟨putCells id 0 (flatK E.enc E.k ys.toArray) cur, (heap_grow_old _ os hsz).trans hm, by rw [h1, hcs], hcm, by omega, ?_⟩, ⟨rfl, rfl, rfl, ?_, ?_⟩⟩
  · rw [← flatK_flat, ← h2]; simp
  · show w.heap.size ≤ ((w.heap.modify g _) ++ os).size
    simp
  · intro k hk hne
    have hk2 : k < (putRow id (Sort.ahead w n) g 0 (flatK E.enc E.k ys.toArray)).heap.size := by show k < (w.heap.modify g _).size; simpa using hk
    refine (heap_grow_old _ os hk2).trans ?_
    show (w.heap.modify g _)[k]? = _
    rw [Array.getElem?_modify, if_neg (fun e => hne (by rw [e]))]
end
/-- Not behind. -/
def leM (x y : Msg) : Bool := !decide (cmpM y x < 0)
theorem cmpM_neg (x y : Msg) : cmpM x y < 0 ↔ (x.mv < y.mv ∨ (x.mv = y.mv ∧ (x.kd < y.kd ∨ (x.kd = y.kd ∧ (x.nu < y.nu ∨ (x.nu = y.nu ∧ (x.dy < y.dy ∨ (x.dy = y.dy ∧ (x.fr < y.fr ∨ (x.fr = y.fr ∧ (x.tt < y.tt ∨ (x.tt = y.tt ∧ x.al < y.al)))))))))))) := by
  unfold cmpM orI
  have step : ∀ (a b : Int) (l : List Int) (r : Prop), ((match l.find? (fun x => x != 0) with | some x => x | none => (0 : Int)) < 0 ↔ r) → ((match (cmpI a b :: l).find? (fun x => x != 0) with | some x => x | none => (0 : Int)) < 0 ↔ (a < b ∨ (a = b ∧ r))) := by
    intro a b l r h
    by_cases he : a = b
    · have : cmpI a b = 0 := (cmpI_zero a b).2 he
      rw [List.find?_cons_of_neg (by simp [this]), h]
      constructor
      · intro h; exact .inr ⟨he, h⟩
      · rintro (h | h)
        · omega
        · exact h.2
    · have : cmpI a b ≠ 0 := fun h => he ((cmpI_zero a b).1 h)
      rw [List.find?_cons_of_pos (by simpa using this)]
      show cmpI a b < 0 ↔ _
      rw [cmpI_neg]
      constructor
      · intro h; exact .inl h
      · rintro (h | h)
        · exact h
        · exact absurd h.1 he
  refine step _ _ _ _ (step _ _ _ _ (step _ _ _ _ (step _ _ _ _ (step _ _ _ _ (step _ _ _ _ ?_)))))
  refine (step _ _ [] False ?_).trans ?_
  · simp
  · simp
theorem swoM : SWO (ltOf cmpM) where
  irrefl x := by simp only [ltOf, decide_eq_false_iff_not, cmpM_neg]; omega
  trans x y z h1 h2 := by simp only [ltOf, decide_eq_true_eq, cmpM_neg] at *; omega
  ntrans x y z h1 h2 := by simp only [ltOf, decide_eq_false_iff_not, cmpM_neg] at *; omega
theorem totM (x y : Msg) (h1 : ltOf cmpM x y = false) (h2 : ltOf cmpM y x = false) : x = y := by
  simp only [ltOf, decide_eq_false_iff_not, cmpM_neg] at h1 h2
  obtain ⟨a0, a1, a2, a3, a4, a5, a6⟩ := x
  obtain ⟨b0, b1, b2, b3, b4, b5, b6⟩ := y
  simp only [Msg.mk.injEq]
  dsimp only at h1 h2
  omega
theorem sortM (xs : List Msg) (g cap : Nat) (w : World) (hO : Row EMsg 23 w g cap xs) (hl : xs.length < 4611686018427387904) :
    Calls Try.prog 39 #[.slice (some ⟨g, 0, none⟩) xs.length cap, .func (.func 40) #[] #[]] w fun e w' => e = .returned (.tuple #[]) ∧ Row EMsg 23 w' g cap (xs.mergeSort leM) ∧ w.grownBy w' (some g) := by
  have eg : ∀ args w, (callFunc 40 args).run Try.prog w = .ok (.enter 40 args) w := enters_of Try.func40 (by kernel_rfl) rfl
  have hcon := AnyQ.slices_SortFunc_total sortMsg 7 isAggM sizeOfM EMsg.enc EMsg.len EMsg.one cmpM swoM 40 #[] g 0 cap xs.toArray w eg (cmpLaysM g 0 _ w) hO.holds hO.lt (by simpa using hl) totM
  refine Calls.mono (show Calls Try.prog 39 _ _ _ from hcon) ?_
  rintro e w' ⟨he, n, os, rfl⟩
  have hs := hO.sorted (ys := xs.mergeSort leM) (by simp) n os
  exact ⟨he, hs.1, hs.2⟩
theorem sortM_none (A : Option Addr) (c : Nat) (fv : Value) (w : World) : Calls Try.prog 39 #[.slice A 0 c, fv] w fun e w' => e = .returned (.tuple #[]) ∧ w' = w :=
  AnyF.slices_SortFunc_none { sortMsg with } A c fv w
end Go.Proofs.Ytgcnklnhambpjaa
/- Runs of equal elements become one: plain lists. -/
namespace Go.Proofs.Ytgcnklnhambpjaa
variable {α : Type} [DecidableEq α]
def comp (l : List α) : List α := l.foldl (fun acc x => if acc.getLast? = some x then acc else acc ++ [x]) []
theorem comp_snoc (l : List α) (x : α) : comp (l ++ [x]) = if (comp l).getLast? = some x then comp l else comp l ++ [x] := by
  unfold comp
  rw [List.foldl_append]
  rfl
theorem comp_last (l : List α) : (comp l).getLast? = l.getLast? := by
  rcases List.eq_nil_or_concat l with rfl | ⟨l', x, rfl⟩
  · rfl
  · rw [List.concat_eq_append, comp_snoc]
    split
    · rename_i h; rw [h]; simp
    · simp
theorem comp_length_le (l : List α) : (comp l).length ≤ l.length := by
  suffices h : ∀ n, ∀ l : List α, l.length = n → (comp l).length ≤ l.length from h _ l rfl
  intro n
  induction n with
  | zero => intro l h; rw [List.eq_nil_of_length_eq_zero h]; simp [comp]
  | succ n ih =>
    intro l h
    rcases List.eq_nil_or_concat l with rfl | ⟨l', x, rfl⟩
    · simp at h
    · have := ih l' (by simpa using h)
      rw [List.concat_eq_append, comp_snoc]
      split <;> simp <;> omega
theorem comp_take_eq (l : List α) (m : Nat) (h0 : 0 < m) (hm : m < l.length) (h : l[m] = l[m - 1]) : comp (l.take (m + 1)) = comp (l.take m) := by
  rw [List.take_succ_eq_append_getElem hm, comp_snoc, if_pos]
  rw [comp_last, List.getLast?_eq_getElem?, h, List.getElem?_take]
  have : (l.take m).length = m := by rw [List.length_take]; omega
  rw [this, if_pos (by omega), List.getElem?_eq_getElem]
theorem comp_take_ne (l : List α) (m : Nat) (h0 : 0 < m) (hm : m < l.length) (h : l[m] ≠ l[m - 1]) : comp (l.take (m + 1)) = comp (l.take m) ++ [l[m]] := by
  rw [List.take_succ_eq_append_getElem hm, comp_snoc, if_neg]
  rw [comp_last, List.getLast?_eq_getElem?, List.getElem?_take]
  have : (l.take m).length = m := by rw [List.length_take]; omega
  rw [this, if_pos (by omega), List.getElem?_eq_getElem]
  · intro e
    injection e with e
    exact h e.symm
  · omega
theorem comp_take_all (l : List α) (m : Nat) (hm : m ≤ l.length) (h : ∀ j, 0 < j → (hj : j < m) → l[j] ≠ l[j - 1]) : comp (l.take m) = l.take m := by
  induction m with
  | zero => simp [comp]
  | succ m ih =>
    have ih := ih (by omega) (fun j h0 hj => h j h0 (by omega))
    rcases Nat.eq_zero_or_pos m with rfl | h0
    · rw [List.take_succ_eq_append_getElem hm, comp_snoc]; simp [comp]
    · rw [comp_take_ne l m h0 hm (h m h0 (by omega)), ih, List.take_succ_eq_append_getElem hm]
theorem comp_one (l : List α) (h : l.length < 2) : comp l = l := by
  match l, h with
  | [], _ => rfl
  | [x], _ => simp [comp]
/-- What holds behind m elements: kk of them are kept, and stand in front; from m - 1 on all is as it was. -/
structure CInv (xs dk : List α) (m kk : Nat) : Prop where
  len : dk.length = xs.length
  m0 : 0 < m
  mle : m ≤ xs.length
  hk : kk = (comp (xs.take m)).length
  lt : kk < m
  front : dk.take kk = comp (xs.take m)
  high : ∀ j, m - 1 ≤ j → dk[j]? = xs[j]?
theorem CInv.start {xs : List α} {k : Nat} (h0 : 0 < k) (hk : k < xs.length) (ha : ∀ j, 0 < j → (hj : j < k) → xs[j] ≠ xs[j - 1]) (he : xs[k] = xs[k - 1]) : CInv xs xs (k + 1) k := by
  have h1 : comp (xs.take (k + 1)) = xs.take k := by rw [comp_take_eq xs k h0 hk he, comp_take_all xs k (by omega) ha]
  exact ⟨rfl, by omega, hk, by rw [h1, List.length_take]; omega, by omega, h1.symm, fun _ _ => rfl⟩
theorem CInv.skip {xs dk : List α} {m kk : Nat} (h : CInv xs dk m kk) (hm : m < xs.length) (he : xs[m] = xs[m - 1]'(by omega)) : CInv xs dk (m + 1) kk := by
  have e := comp_take_eq xs m h.m0 hm he
  exact ⟨h.len, by omega, hm, by rw [e]; exact h.hk, by have := h.lt; omega, by rw [e]; exact h.front, fun j hj => h.high j (by omega)⟩
theorem CInv.keep {xs dk : List α} {m kk : Nat} (h : CInv xs dk m kk) (hm : m < xs.length) (he : xs[m] ≠ xs[m - 1]'(by omega)) : CInv xs (dk.set kk xs[m]) (m + 1) (kk + 1) := by
  have e := comp_take_ne xs m h.m0 hm he
  have hlt := h.lt
  have hlen := h.len
  refine ⟨by simp [hlen], by omega, hm, by rw [e]; simp [← h.hk], by omega, ?_, fun j hj => ?_⟩
  · rw [e, ← h.front, List.set_eq_take_append_cons_drop, if_pos (by omega), List.take_append, List.take_of_length_le (by simp; omega)]
    have : kk + 1 - (dk.take kk).length = 1 := by rw [List.length_take]; omega
    rw [this]; rfl
  · rw [List.getElem?_set, if_neg (by omega)]
    exact h.high j (by omega)
theorem CInv.done {xs dk : List α} {kk : Nat} (h : CInv xs dk xs.length kk) : dk.take kk = comp xs ∧ kk = (comp xs).length ∧ kk < xs.length := by
  have h1 := h.front
  have h2 := h.hk
  have h3 := h.lt
  rw [List.take_of_length_le (Nat.le_refl _)] at h1 h2
  exact ⟨h1, h2, h3⟩
end Go.Proofs.Ytgcnklnhambpjaa
/- '==' of the structs of the document layer as equality. -/
namespace Go.Proofs.Ytgcnklnhambpjaa
open Go.RowKit
section
variable {P : Program} {d : Nat} {xs ys : Array Value} {f : Field} {fs : List Field} {a b : Value} {r s : Bool} {w : World}
theorem eqFields_last (hn : (f.name == "_") = false) (ha : (part f.type xs f.offset).run P w = .ok a w) (hb : (part f.type ys f.offset).run P w = .ok b w) (he : (Op.equalIn d f.type a b).run P w = .ok r w) : (Op.eqFields d xs ys [f]).run P w = .ok r w := by
  have hn' : f.name ≠ "_" := by simpa using hn
  simp only [Op.eqFields, if_pos hn', Sem.run_bind, ha, hb, he, Result.andThen_ok]
  cases r <;> simp
theorem eqFields_cons (hn : (f.name == "_") = false) (ha : (part f.type xs f.offset).run P w = .ok a w) (hb : (part f.type ys f.offset).run P w = .ok b w) (he : (Op.equalIn d f.type a b).run P w = .ok r w) (hr : (Op.eqFields d xs ys fs).run P w = .ok s w) : (Op.eqFields d xs ys (f :: fs)).run P w = .ok (r && s) w := by
  have hn' : f.name ≠ "_" := by simpa using hn
  rw [Op.eqFields]
  simp only [if_pos hn', Sem.run_bind, ha, hb, he, Result.andThen_ok]
  cases r
  · simp
  · simpa using hr
theorem eqAgg_of {t : TypeId} {fs : Array Field} (hu : P.underlying t = some (.struct fs)) (hp : P.stoodInHeld t = false) (h : (Op.eqFields d xs ys fs.toList).run P w = .ok r w) : (Op.equalIn (d + 1) t (.agg xs) (.agg ys)).run P w = .ok r w := by
  have hf : P.fieldsOf t = fs := by simp [Program.fieldsOf, hu]
  rw [run_equalIn_struct (P := P) w d t xs ys (by rw [hf]; exact hu) hp, hf]
  exact h
end
theorem eqMsg (d : Nat) (w : World) (x y : Msg) :
    (Op.equalIn (d + 2) 23 (.agg #[.int .i64 x.mv, .int .i64 x.kd, .int .i64 x.nu, .int .i64 x.dy, .int .i64 x.fr, .int .i64 x.tt, .int .i64 x.al]) (.agg #[.int .i64 y.mv, .int .i64 y.kd, .int .i64 y.nu, .int .i64 y.dy, .int .i64 y.fr, .int .i64 y.tt, .int .i64 y.al])).run Try.prog w = .ok (decide (x = y)) w := by
  have e : decide (x = y) = (x.mv == y.mv && (x.kd == y.kd && (x.nu == y.nu && (x.dy == y.dy && (x.fr == y.fr && (x.tt == y.tt && (x.al == y.al))))))) := by
    obtain ⟨a0, a1, a2, a3, a4, a5, a6⟩ := x
    obtain ⟨b0, b1, b2, b3, b4, b5, b6⟩ := y
    rw [Bool.eq_iff_iff]
    simp
  rw [e]
  refine eqAgg_of Try.underlying23 (by kernel_rfl) ?_
  iterate 6 refine eqFields_cons (by rfl) (by go_simp; rfl) (by go_simp; rfl) (by go_simp) ?_
  exact eqFields_last (by rfl) (by go_simp; rfl) (by go_simp; rfl) (by go_simp)
theorem eqDoc (d : Nat) (w : World) (x y : Doc) :
    (Op.equalIn (d + 2) 35 (.agg #[.int .i64 x.mv, .int .i64 x.st, .int .i64 x.fr, .int .i64 x.tt, .int .i64 x.se, .int .i64 x.re, .int .i64 x.ch]) (.agg #[.int .i64 y.mv, .int .i64 y.st, .int .i64 y.fr, .int .i64 y.tt, .int .i64 y.se, .int .i64 y.re, .int .i64 y.ch])).run Try.prog w = .ok (decide (x = y)) w := by
  have e : decide (x = y) = (x.mv == y.mv && (x.st == y.st && (x.fr == y.fr && (x.tt == y.tt && (x.se == y.se && (x.re == y.re && (x.ch == y.ch))))))) := by
    obtain ⟨a0, a1, a2, a3, a4, a5, a6⟩ := x
    obtain ⟨b0, b1, b2, b3, b4, b5, b6⟩ := y
    rw [Bool.eq_iff_iff]
    simp
  rw [e]
  refine eqAgg_of Try.underlying35 (by kernel_rfl) ?_
  iterate 6 refine eqFields_cons (by rfl) (by go_simp; rfl) (by go_simp; rfl) (by go_simp) ?_
  exact eqFields_last (by rfl) (by go_simp; rfl) (by go_simp; rfl) (by go_simp)
end Go.Proofs.Ytgcnklnhambpjaa
/- slices.Compact of messages, on a row of the call's own. -/
namespace Go.Proofs.Ytgcnklnhambpjaa
open Go.RowKit
attribute [local go_sem high] eqMsg
theorem EMsg_zero : ∀ v ∈ (Value.agg #[.int .i64 0, .int .i64 0, .int .i64 0, .int .i64 0, .int .i64 0, .int .i64 0, .int .i64 0]).cells, v.oneCell' = true := by decide
set_option maxHeartbeats 4000000 in
set_option maxRecDepth 100000 in
theorem compactM (xs : List Msg) (g cap : Nat) (w : World) (hO : Row EMsg 23 w g cap xs) :
    Calls Try.prog 41 #[.slice (some ⟨g, 0, none⟩) xs.length cap] w fun e w' => e = .returned (.slice (some ⟨g, 0, none⟩) (comp xs).length cap) ∧ Row EMsg 23 w' g cap (comp xs) ∧ w.grownBy w' (some g) := by
  have hle := hO.le
  have hcl := hO.cap_le
  by_cases h2 : xs.length < 2
  · have HO := hid_of hO
    clear hO
    go_enter Try.func41, Try.ntmps41
    go_wp2
    go_ret
    rw [comp_one xs h2]
    exact ⟨rfl, HO.out, World.grownBy.refl _ _⟩
  · have HO := hid_of hO
    clear hO
    go_enter Try.func41, Try.ntmps41
    go_wp2
    go_loopg [3] xs.length (fun gg s3 wr => ∃ k q : Nat, 1 ≤ k ∧ k ≤ xs.length ∧ xs.length - k ≤ gg ∧ s3 = .int .i64 k ∧ wr = w.drewN q ∧ Hid (∀ j, 0 < j → (hj : j < xs.length) → j < k → xs[j] ≠ xs[j - 1]))
    case atStart => exact ⟨1, 0, Nat.le_refl _, by omega, by omega, rfl, rfl, fun j h0 _ hj => by omega⟩
    case round =>
      obtain ⟨k, q, hk1, hk, hg, rfl, rfl, HA⟩ := hrel
      by_cases hlt : k < xs.length
      · obtain ⟨ad, had, c0, c1, c2, c3, c4, c5, c6⟩ := Msg.at_ HO.out.rd k hlt
        obtain ⟨ad', had', d0, d1, d2, d3, d4, d5, d6⟩ := Msg.at_ HO.out.rd (k - 1) (by omega)
        cases had
        cases had'
        simp only [addr_plain] at c0 c1 c2 c3 c4 c5 c6 d0 d1 d2 d3 d4 d5 d6
        generalize hx : xs[k] = x at c0 c1 c2 c3 c4 c5 c6
        generalize hy : xs[k - 1] = y at d0 d1 d2 d3 d4 d5 d6
        have HX : Hid (xs[k] = x ∧ xs[k - 1]'(by omega) = y) := ⟨hx, hy⟩
        clear hx hy
        by_cases hxy : x = y
        · have hd : decide (x = y) = true := by simpa using hxy
          subst hxy
          clear hd
          go_wp2_with fail
          go_quiet (fail)
          go_wp2
          clear c0 c1 c2 c3 c4 c5 c6 d0 d1 d2 d3 d4 d5 d6
          have HI := hid_of (CInv.start (xs := xs) (by omega) hlt (fun j h0 hj => HA.out j h0 (by omega) hj) (HX.out.1.trans HX.out.2.symm))
          go_loopg [3, 5] xs.length (fun gg s3 s5 wr => ∃ (kk k2 : Nat) (dk : List Msg), s3 = .int .i64 kk ∧ s5 = .int .i64 k2 ∧ 1 ≤ k2 ∧ k + k2 ≤ xs.length ∧ xs.length - (k + k2) ≤ gg ∧ Hid (Row EMsg 23 wr g cap dk) ∧ Hid (w.grownBy wr (some g)) ∧ Hid (CInv xs dk (k + k2) kk))
          case atStart => exact ⟨k, 1, xs, rfl, rfl, Nat.le_refl _, by omega, by omega, HO.out.drewN _, ⟨rfl, rfl, rfl, Nat.le_refl _, fun _ _ _ => rfl⟩, HI.out⟩
          case round =>
            obtain ⟨kk, k2, dk, rfl, rfl, h1, hle2, hg2, HR, HG, HI2⟩ := hrel
            have hkk := HI2.out.lt
            have hl1 : dk.length ≤ xs.length := by rw [HI2.out.len]; exact Nat.le_refl _
            have hl2 : xs.length ≤ dk.length := by rw [HI2.out.len]; exact Nat.le_refl _
            by_cases hlt2 : k + k2 < xs.length
            · obtain ⟨ad, had, c0, c1, c2, c3, c4, c5, c6⟩ := Msg.at_ HR.out.rd (k + k2) (by omega)
              obtain ⟨ad', had', d0, d1, d2, d3, d4, d5, d6⟩ := Msg.at_ HR.out.rd (k + k2 - 1) (by omega)
              obtain ⟨ad'', had'', e0, e1, e2, e3, e4, e5, e6⟩ := Msg.at_ HR.out.rd kk (by omega)
              cases had
              cases had'
              cases had''
              have hfz := fun j => HR.out.frozen j
              simp only [addr_plain] at c0 c1 c2 c3 c4 c5 c6 d0 d1 d2 d3 d4 d5 d6 e0 e1 e2 e3 e4 e5 e6
              have q1 : (k + k2) * 7 = k * 7 + k2 * 7 := by omega
              have q2 : (k + k2 - 1) * 7 = k * 7 + (k2 - 1) * 7 := by omega
              rw [q1] at c0 c1 c2 c3 c4 c5 c6
              rw [q2] at d0 d1 d2 d3 d4 d5 d6
              clear q1 q2
              have hu0 : dk[k + k2]'(by omega) = xs[k + k2] := by
                have := HI2.out.high (k + k2) (by omega)
                rwa [List.getElem?_eq_getElem (by omega), List.getElem?_eq_getElem hlt2, Option.some.injEq] at this
              have hv0 : dk[k + k2 - 1]'(by omega) = xs[k + k2 - 1] := by
                have := HI2.out.high (k + k2 - 1) (by omega)
                rwa [List.getElem?_eq_getElem (by omega), List.getElem?_eq_getElem (by omega), Option.some.injEq] at this
              rw [hu0] at c0 c1 c2 c3 c4 c5 c6
              rw [hv0] at d0 d1 d2 d3 d4 d5 d6
              clear hu0 hv0
              generalize hu : xs[k + k2] = u at c0 c1 c2 c3 c4 c5 c6
              generalize hv : xs[k + k2 - 1] = v at d0 d1 d2 d3 d4 d5 d6
              generalize dk[kk] = old at e0 e1 e2 e3 e4 e5 e6
              have HC := hid_of hu
              have HD := hid_of hv
              clear hu hv
              by_cases huv : u = v
              · subst huv
                clear e0 e1 e2 e3 e4 e5 e6 hfz
                go_wp2_with fail
                go_quiet (fail)
                go_wp2
                go_roundg (xs.length - (k + (k2 + 1)))
                case measure => omega
                case rel => exact ⟨kk, k2 + 1, dk, rfl, by go_num, by omega, by omega, Nat.le_refl _, HR.out.drewN _, World.grownBy.trans HG.out ⟨rfl, rfl, rfl, Nat.le_refl _, fun _ _ _ => rfl⟩, HI2.out.skip hlt2 (HC.out.trans HD.out.symm)⟩
              · have hd : decide (u = v) = false := by simpa using huv
                have HUV := hid_of huv
                clear huv
                go_wp2_with fail
                go_quiet (fail)
                go_wp2
                go_roundg (xs.length - (k + (k2 + 1)))
                case measure => omega
                case rel =>
                  have hs := (HR.out.drewN nq).set kk (by omega) u
                  refine ⟨kk + 1, k2 + 1, dk.set kk u, by go_num, by go_num, by omega, by omega, Nat.le_refl _, hs.1, World.grownBy.trans HG.out (World.grownBy.trans (b := wr.drewN nq) ⟨rfl, rfl, rfl, Nat.le_refl _, fun _ _ _ => rfl⟩ hs.2), ?_⟩
                  have hc := HI2.out.keep hlt2 (by rw [HC.out, HD.out]; exact HUV.out)
                  rw [HC.out] at hc
                  exact hc
            · have hend : k + k2 = xs.length := by omega
              obtain ⟨w2, hcl2, hrow, hgr⟩ := HR.out.clear kk (xs.length - kk) (cap - kk) Try.underlying24 Try.zeroValue23 rfl EMsg_zero (by omega) (by omega)
              have hcl3 : ∀ ty, (Builtin.clear_ #[24] ty #[.slice (some ⟨g, kk * 7, none⟩) (xs.length - kk) (cap - kk)]).run Try.prog wr = .ok (.tuple #[]) w2 := hcl2
              have HH := hid_of hend
              have HRow := hid_of hrow
              have HGr := hid_of hgr
              clear hcl2 hrow hgr hend
              go_wp2
              go_ret
              have hd := HI2.out
              rw [HH.out] at hd
              obtain ⟨e1, e2, e3⟩ := hd.done
              have hr := HRow.out
              rw [e1] at hr
              rw [← e2]
              exact ⟨rfl, hr, World.grownBy.trans HG.out HGr.out⟩
        · have hd : decide (x = y) = false := by simpa using hxy
          have HXY := hid_of hxy
          clear hxy
          go_wp2_with fail
          go_quiet (fail)
          go_wp2
          go_roundg (xs.length - (k + 1))
          case measure => omega
          case rel =>
            refine ⟨k + 1, q + nq, by omega, by omega, Nat.le_refl _, by go_num, rfl, (show Hid _ from fun j h0 hj hjk => ?_)⟩
            by_cases e : j = k
            · subst e
              rw [HX.out.1, HX.out.2]
              exact HXY.out
            · exact HA.out j h0 hj (by omega)
      · have : k = xs.length := by omega
        subst this
        go_wp2
        go_ret
        have hall : comp xs = xs := by
          have := comp_take_all xs xs.length (Nat.le_refl _) (fun j h0 hj => HA.out j h0 hj hj)
          rwa [List.take_of_length_le (Nat.le_refl _)] at this
        rw [hall]
        exact ⟨rfl, HO.out.drewN _, ⟨rfl, rfl, rfl, Nat.le_refl _, fun _ _ _ => rfl⟩⟩
end Go.Proofs.Ytgcnklnhambpjaa
/- slices.Clone of messages. -/
namespace Go.Proofs.Ytgcnklnhambpjaa
open Go.RowKit
theorem infoM : (Try.prog.info? 23).map (fun i => (i.zero, i.size, i.bytes)) = some (some (.agg #[.int .i64 0, .int .i64 0, .int .i64 0, .int .i64 0, .int .i64 0, .int .i64 0, .int .i64 0]), 7, 56) := by kernel_rfl
set_option maxHeartbeats 2000000 in
theorem cloneM (xs : List Msg) (A : Option Addr) (c : Nat) (w : World) (hR : Rd EMsg w A xs) (hl : xs.length * 56 ≤ 140737488355328) :
    Calls Try.prog 13 #[.slice A xs.length c] w (Made EMsg 23 xs w) := by
  have hq : ∀ (w : World) (a : Option Addr) (n c n' c' : Nat), (binOp .eql 24 (.slice a n c) (.slice none n' c')).run Try.prog w = .ok (.bool a.isNone) w := fun w a n c n' c' => Lib.run_eql_slice_nil w _ _ a n c n' c' Try.underlying24
  obtain ⟨i0, hi, hzz⟩ := Option.map_eq_some_iff.1 infoM
  simp only [Prod.mk.injEq] at hzz
  obtain ⟨hz0, hz1, hz2⟩ := hzz
  cases A with
  | none =>
    have h0 : xs = [] := by
      rcases Nat.eq_zero_or_pos xs.length with h | h
      · exact List.eq_nil_of_length_eq_zero h
      · obtain ⟨ad, h, _⟩ := hR.2 h; cases h
    subst h0
    clear hR hl hi hz0 hz1 hz2
    go_enter Try.func13, Try.ntmps13
    go_wp2
    go_ret
    exact ⟨_, rfl, Own.nil _ _ _ _, Below.refl _ _⟩
  | some ad =>
    have hc : ∀ j u, (EMsg.flat xs)[j]? = some u → w.cell? (ad.add j) = some u := fun j u hu => by
      have hlen : 0 < xs.length := by
        rcases Nat.eq_zero_or_pos xs.length with h | h
        · rw [List.eq_nil_of_length_eq_zero h] at hu; simp [Enc.flat] at hu
        · exact h
      obtain ⟨ad', h, hc⟩ := hR.2 hlen
      cases h
      exact hc j u hu
    have HC : Hid (∀ j u, (EMsg.flat xs)[j]? = some u → w.cell? (ad.add j) = some u) := hc
    clear hc hR
    go_enter Try.func13, Try.ntmps13
    go_wp2_with (at_builtin; refine wpList_append_own _ rfl _ _ 24 rfl w.heap.size 23 i0 _ 7 56 Try.underlying24 hi hz0 hz1 hz2 rfl (by decide) _ _ _ rfl (World.ownsRow_made w #[] 0 (Nat.le_refl _) (Nat.zero_le _) (by simp)) ad xs.length c (EMsg.flat xs) rfl ?qc1 ?qc2 ?qc3 ?qc4 ?qc5 ?qc6 ?_)
    case qc1 => exact EMsg.flat_length xs
    case qc2 => intro j u hj; exact cell_below ((Below.refl _ _).alloc (Nat.le_refl _) _) (HC.out j u hj)
    case qc3 => exact EMsg.flat_one' xs
    case qc4 => simp only [maxLen]; omega
    case qc5 => rw [Nat.zero_add]; exact hl
    case qc6 => simp
    intro v' w1 hown hgrow hnil
    have hb : Below w.heap.size w w1 := ((Below.refl _ w).alloc (Nat.le_refl _) _).grown hgrow (by simp) (by intro k hk; simp [Value.ownBlock] at hk; omega)
    have HO : Hid (Own EMsg 23 w1 w.heap.size v' xs) := hown
    clear hown hgrow hnil
    go_wp2
    go_ret
    exact ⟨_, rfl, HO.out, hb⟩
end Go.Proofs.Ytgcnklnhambpjaa
/- document.node and document.Check: what they return for every message. -/
namespace Go.Proofs.Ytgcnklnhambpjaa
open Go.RowKit
def nodeB (n : Int) : Bool := decide (1 ≤ n ∧ n ≤ 99)
set_option maxHeartbeats 1000000 in
theorem node_any (n : Int) (w : World) : Calls Try.prog 44 #[.int .i64 n] w fun e w' => e = .returned (.bool (nodeB n)) ∧ w = w' := by
  go_enter Try.func44, Try.ntmps44
  go_wp2
  all_goals (go_ret; refine ⟨ret_b ?_, rfl⟩; simp [nodeB]; try omega)
/-- The error of a message. -/
def chkM (m : Msg) : Int :=
  if m.mv < 1 ∨ m.mv > 1073741824 ∨ m.kd < 1 ∨ m.kd > 5 ∨ m.dy < 0 ∨ m.dy > 100000 then 2
  else if m.kd = 1 then (if m.nu = 0 ∧ nodeB m.fr = true ∧ nodeB m.tt = true ∧ m.fr ≠ m.tt ∧ 1 ≤ m.al ∧ m.al ≤ 10737418240000 then 0 else 1)
  else if m.kd = 2 then (if 1 ≤ m.nu ∧ m.nu ≤ 64 ∧ m.fr = 0 ∧ nodeB m.tt = true ∧ m.al = 0 then 0 else 1)
  else if m.kd = 3 then (if m.nu = 0 ∧ m.fr = 0 ∧ m.tt = 0 ∧ 0 ≤ m.al ∧ m.al ≤ 10737418240000 then 0 else 1)
  else (if m.nu = 0 ∧ m.fr = 0 ∧ m.tt = 0 ∧ m.al = 0 then 0 else 1)

end Go.Proofs.Ytgcnklnhambpjaa
/- document.Check: what it returns for every message. -/
namespace Go.Proofs.Ytgcnklnhambpjaa
open Go.RowKit
def ChkPost (m : Msg) (w : World) (e : Ending) (w' : World) : Prop := e = .returned (.int .i64 (chkM m)) ∧ Below w.heap.size w w'
set_option maxHeartbeats 4000000 in
set_option maxRecDepth 100000 in
theorem check_range (m : Msg) (w : World) (h : m.mv < 1 ∨ m.mv > 1073741824 ∨ m.kd < 1 ∨ m.kd > 5 ∨ m.dy < 0 ∨ m.dy > 100000) : Calls Try.prog 15 #[m.v] w (ChkPost m w) := by
  have hc : chkM m = 2 := by unfold chkM; rw [if_pos h]
  have HC := hid_of hc
  have HH := hid_of h
  clear hc h
  obtain ⟨a0, a1, a2, a3, a4, a5, a6⟩ := m
  go_enter Try.func15, Try.ntmps15
  by_cases h0 : a0 < 1
  · go_wp2
    go_ret
    exact ⟨ret_i HC.out.symm, (Below.refl _ _).alloc (Nat.le_refl _) _⟩
  by_cases h1 : a0 > 1073741824
  · go_wp2
    go_ret
    exact ⟨ret_i HC.out.symm, (Below.refl _ _).alloc (Nat.le_refl _) _⟩
  by_cases h2 : a1 < 1
  · go_wp2
    go_ret
    exact ⟨ret_i HC.out.symm, (Below.refl _ _).alloc (Nat.le_refl _) _⟩
  by_cases h3 : a1 > 5
  · go_wp2
    go_ret
    exact ⟨ret_i HC.out.symm, (Below.refl _ _).alloc (Nat.le_refl _) _⟩
  by_cases h4 : a3 < 0
  · go_wp2
    go_ret
    exact ⟨ret_i HC.out.symm, (Below.refl _ _).alloc (Nat.le_refl _) _⟩
  · have h5 : a3 > 100000 := by have := HH.out; dsimp only at this; omega
    go_wp2
    go_ret
    exact ⟨ret_i HC.out.symm, (Below.refl _ _).alloc (Nat.le_refl _) _⟩
end Go.Proofs.Ytgcnklnhambpjaa
/- document.Check: what it returns for every message. -/
namespace Go.Proofs.Ytgcnklnhambpjaa
open Go.RowKit
theorem chk_k1 (m : Msg) (h : ¬ (m.mv < 1 ∨ m.mv > 1073741824 ∨ m.kd < 1 ∨ m.kd > 5 ∨ m.dy < 0 ∨ m.dy > 100000)) (hk : m.kd = 1) : chkM m = (if m.nu = 0 ∧ nodeB m.fr = true ∧ nodeB m.tt = true ∧ m.fr ≠ m.tt ∧ 1 ≤ m.al ∧ m.al ≤ 10737418240000 then 0 else 1) := by
  unfold chkM; rw [if_neg h, if_pos hk]
set_option maxHeartbeats 8000000 in
set_option maxRecDepth 100000 in
theorem check_k1 (m : Msg) (w : World) (h : ¬ (m.mv < 1 ∨ m.mv > 1073741824 ∨ m.kd < 1 ∨ m.kd > 5 ∨ m.dy < 0 ∨ m.dy > 100000)) (hk : m.kd = 1) : Calls Try.prog 15 #[m.v] w (ChkPost m w) := by
  unfold ChkPost
  have hc0 := chk_k1 m h hk
  generalize chkM m = r at hc0 ⊢
  have HC := hid_of hc0
  clear hc0
  obtain ⟨a0, a1, a2, a3, a4, a5, a6⟩ := m
  dsimp only at h hk
  subst hk
  have h0 : 1 ≤ a0 := by omega
  have h1 : a0 ≤ 1073741824 := by omega
  have h4 : 0 ≤ a3 := by omega
  have h5 : a3 ≤ 100000 := by omega
  clear h
  go_enter Try.func15, Try.ntmps15
  go_wp2
  go_big_region
  all_goals go_wp2_with (go_at_call 44; refine (node_any _ _).mono ?_; rintro e w' ⟨rfl, rfl⟩)
  all_goals go_ret
  all_goals refine ⟨ret_i ?_, by repeat (first | exact Below.refl _ _ | apply Below.drew | refine Below.alloc ?_ (by simp) _)⟩
  all_goals rw [HC.out]
  all_goals (split <;> rename_i hq <;> first | rfl | (exfalso; omega) | (exfalso; simp_all; done) | (exfalso; simp_all <;> omega))

theorem chk_k2 (m : Msg) (h : ¬ (m.mv < 1 ∨ m.mv > 1073741824 ∨ m.kd < 1 ∨ m.kd > 5 ∨ m.dy < 0 ∨ m.dy > 100000)) (hk : m.kd = 2) : chkM m = (if 1 ≤ m.nu ∧ m.nu ≤ 64 ∧ m.fr = 0 ∧ nodeB m.tt = true ∧ m.al = 0 then 0 else 1) := by
  unfold chkM; rw [if_neg h, if_neg (by omega), if_pos hk]
set_option maxHeartbeats 8000000 in
set_option maxRecDepth 100000 in
theorem check_k2 (m : Msg) (w : World) (h : ¬ (m.mv < 1 ∨ m.mv > 1073741824 ∨ m.kd < 1 ∨ m.kd > 5 ∨ m.dy < 0 ∨ m.dy > 100000)) (hk : m.kd = 2) : Calls Try.prog 15 #[m.v] w (ChkPost m w) := by
  unfold ChkPost
  have hc0 := chk_k2 m h hk
  generalize chkM m = r at hc0 ⊢
  have HC := hid_of hc0
  clear hc0
  obtain ⟨a0, a1, a2, a3, a4, a5, a6⟩ := m
  dsimp only at h hk
  subst hk
  have h0 : 1 ≤ a0 := by omega
  have h1 : a0 ≤ 1073741824 := by omega
  have h4 : 0 ≤ a3 := by omega
  have h5 : a3 ≤ 100000 := by omega
  clear h
  go_enter Try.func15, Try.ntmps15
  go_wp2
  go_big_region
  all_goals go_wp2_with (go_at_call 44; refine (node_any _ _).mono ?_; rintro e w' ⟨rfl, rfl⟩)
  all_goals go_ret
  all_goals refine ⟨ret_i ?_, by repeat (first | exact Below.refl _ _ | apply Below.drew | refine Below.alloc ?_ (by simp) _)⟩
  all_goals rw [HC.out]
  all_goals (split <;> rename_i hq <;> first | rfl | (exfalso; omega) | (exfalso; simp_all; done) | (exfalso; simp_all <;> omega))

theorem chk_k3 (m : Msg) (h : ¬ (m.mv < 1 ∨ m.mv > 1073741824 ∨ m.kd < 1 ∨ m.kd > 5 ∨ m.dy < 0 ∨ m.dy > 100000)) (hk : m.kd = 3) : chkM m = (if m.nu = 0 ∧ m.fr = 0 ∧ m.tt = 0 ∧ 0 ≤ m.al ∧ m.al ≤ 10737418240000 then 0 else 1) := by
  unfold chkM; rw [if_neg h, if_neg (by omega), if_neg (by omega), if_pos hk]
set_option maxHeartbeats 8000000 in
set_option maxRecDepth 100000 in
theorem check_k3 (m : Msg) (w : World) (h : ¬ (m.mv < 1 ∨ m.mv > 1073741824 ∨ m.kd < 1 ∨ m.kd > 5 ∨ m.dy < 0 ∨ m.dy > 100000)) (hk : m.kd = 3) : Calls Try.prog 15 #[m.v] w (ChkPost m w) := by
  unfold ChkPost
  have hc0 := chk_k3 m h hk
  generalize chkM m = r at hc0 ⊢
  have HC := hid_of hc0
  clear hc0
  obtain ⟨a0, a1, a2, a3, a4, a5, a6⟩ := m
  dsimp only at h hk
  subst hk
  have h0 : 1 ≤ a0 := by omega
  have h1 : a0 ≤ 1073741824 := by omega
  have h4 : 0 ≤ a3 := by omega
  have h5 : a3 ≤ 100000 := by omega
  clear h
  go_enter Try.func15, Try.ntmps15
  go_wp2
  all_goals go_ret
  all_goals refine ⟨ret_i ?_, by repeat (first | exact Below.refl _ _ | apply Below.drew | refine Below.alloc ?_ (by simp) _)⟩
  all_goals rw [HC.out]
  all_goals (split <;> rename_i hq <;> first | rfl | (exfalso; omega) | (exfalso; simp_all; done) | (exfalso; simp_all <;> omega))

theorem chk_k4 (m : Msg) (h : ¬ (m.mv < 1 ∨ m.mv > 1073741824 ∨ m.kd < 1 ∨ m.kd > 5 ∨ m.dy < 0 ∨ m.dy > 100000)) (hk : m.kd = 4) : chkM m = (if m.nu = 0 ∧ m.fr = 0 ∧ m.tt = 0 ∧ m.al = 0 then 0 else 1) := by
  unfold chkM; rw [if_neg h, if_neg (by omega), if_neg (by omega), if_neg (by omega)]
set_option maxHeartbeats 8000000 in
set_option maxRecDepth 100000 in
theorem check_k4 (m : Msg) (w : World) (h : ¬ (m.mv < 1 ∨ m.mv > 1073741824 ∨ m.kd < 1 ∨ m.kd > 5 ∨ m.dy < 0 ∨ m.dy > 100000)) (hk : m.kd = 4) : Calls Try.prog 15 #[m.v] w (ChkPost m w) := by
  unfold ChkPost
  have hc0 := chk_k4 m h hk
  generalize chkM m = r at hc0 ⊢
  have HC := hid_of hc0
  clear hc0
  obtain ⟨a0, a1, a2, a3, a4, a5, a6⟩ := m
  dsimp only at h hk
  subst hk
  have h0 : 1 ≤ a0 := by omega
  have h1 : a0 ≤ 1073741824 := by omega
  have h4 : 0 ≤ a3 := by omega
  have h5 : a3 ≤ 100000 := by omega
  clear h
  go_enter Try.func15, Try.ntmps15
  go_wp2
  all_goals go_ret
  all_goals refine ⟨ret_i ?_, by repeat (first | exact Below.refl _ _ | apply Below.drew | refine Below.alloc ?_ (by simp) _)⟩
  all_goals rw [HC.out]
  all_goals (split <;> rename_i hq <;> first | rfl | (exfalso; omega) | (exfalso; simp_all; done) | (exfalso; simp_all <;> omega))

theorem chk_k5 (m : Msg) (h : ¬ (m.mv < 1 ∨ m.mv > 1073741824 ∨ m.kd < 1 ∨ m.kd > 5 ∨ m.dy < 0 ∨ m.dy > 100000)) (hk : m.kd = 5) : chkM m = (if m.nu = 0 ∧ m.fr = 0 ∧ m.tt = 0 ∧ m.al = 0 then 0 else 1) := by
  unfold chkM; rw [if_neg h, if_neg (by omega), if_neg (by omega), if_neg (by omega)]
set_option maxHeartbeats 8000000 in
set_option maxRecDepth 100000 in
theorem check_k5 (m : Msg) (w : World) (h : ¬ (m.mv < 1 ∨ m.mv > 1073741824 ∨ m.kd < 1 ∨ m.kd > 5 ∨ m.dy < 0 ∨ m.dy > 100000)) (hk : m.kd = 5) : Calls Try.prog 15 #[m.v] w (ChkPost m w) := by
  unfold ChkPost
  have hc0 := chk_k5 m h hk
  generalize chkM m = r at hc0 ⊢
  have HC := hid_of hc0
  clear hc0
  obtain ⟨a0, a1, a2, a3, a4, a5, a6⟩ := m
  dsimp only at h hk
  subst hk
  have h0 : 1 ≤ a0 := by omega
  have h1 : a0 ≤ 1073741824 := by omega
  have h4 : 0 ≤ a3 := by omega
  have h5 : a3 ≤ 100000 := by omega
  clear h
  go_enter Try.func15, Try.ntmps15
  go_wp2
  all_goals go_ret
  all_goals refine ⟨ret_i ?_, by repeat (first | exact Below.refl _ _ | apply Below.drew | refine Below.alloc ?_ (by simp) _)⟩
  all_goals rw [HC.out]
  all_goals (split <;> rename_i hq <;> first | rfl | (exfalso; omega) | (exfalso; simp_all; done) | (exfalso; simp_all <;> omega))

/-- What document.Check returns, for every message; it only makes memory. -/
theorem check_any (m : Msg) (w : World) : Calls Try.prog 15 #[m.v] w (ChkPost m w) := by
  by_cases h : m.mv < 1 ∨ m.mv > 1073741824 ∨ m.kd < 1 ∨ m.kd > 5 ∨ m.dy < 0 ∨ m.dy > 100000
  · exact check_range m w h
  · have : m.kd = 1 ∨ m.kd = 2 ∨ m.kd = 3 ∨ m.kd = 4 ∨ m.kd = 5 := by omega
    rcases this with hk | hk | hk | hk | hk
    · exact check_k1 m w h hk
    · exact check_k2 m w h hk
    · exact check_k3 m w h hk
    · exact check_k4 m w h hk
    · exact check_k5 m w h hk
end Go.Proofs.Ytgcnklnhambpjaa
/- document.Normal: what it returns for every slice of messages. -/
namespace Go.Proofs.Ytgcnklnhambpjaa
open Go.RowKit
/-- A new row and a number. -/
def Made2 {α : Type} (E : Enc α) (t : TypeId) (xs : List α) (n : Int) (w : World) (e : Ending) (w' : World) : Prop := ∃ v, e = .returned (.tuple #[v, .int .i64 n]) ∧ Own E t w' w.heap.size v xs ∧ Below w.heap.size w w'
def badM (m : Msg) : Bool := chkM m != 0
def normL (l : List Msg) : List Msg := comp (l.mergeSort leM)
def normR (l : List Msg) : List Msg × Int := if l.length > 64 then ([], 8) else if l.any badM = true then ([], 1) else (normL l, 0)
set_option maxHeartbeats 1000000 in
theorem compactM_none (A : Option Addr) (c : Nat) (w : World) : Calls Try.prog 41 #[.slice A 0 c] w fun e w' => e = .returned (.slice A 0 c) ∧ w = w' := by
  go_enter Try.func41, Try.ntmps41
  go_wp2
  go_ret
  exact ⟨rfl, rfl⟩
set_option maxHeartbeats 1000000 in
theorem bad_any (x : Msg) (w : World) : Calls Try.prog 38 #[x.v] w fun e w' => e = .returned (.bool (badM x)) ∧ Below w.heap.size w w' := by
  have hc := fun W => check_any x W
  unfold ChkPost at hc
  unfold badM
  generalize chkM x = r at hc ⊢
  go_enter Try.func38, Try.ntmps38
  go_wp2_with (go_at_call 15; refine (hc _).mono ?_; rintro e w' ⟨rfl, hb⟩)
  go_ret
  exact ⟨ret_b (by simp), below_then ((Below.refl _ _).alloc (Nat.le_refl _) _) (by simp) hb⟩
theorem enters38 : ∀ args w, (callFunc 38 args).run Try.prog w = .ok (.enter 38 args) w := enters_of Try.func38 (by kernel_rfl) rfl
theorem anyBad (l : List Msg) (A : Option Addr) (c : Nat) (w : World) (hR : Rd EMsg w A l) :
    Calls Try.prog 37 #[.slice A l.length c, .func (.func 38) #[] #[]] w fun e w' => e = .returned (.bool (l.any badM)) ∧ Below w.heap.size w w' :=
  containsFuncM l badM _ _ A c w hR enters38 (fun x W _ => bad_any x W)
set_option maxHeartbeats 2000000 in
theorem normal_large (l : List Msg) (A : Option Addr) (c : Nat) (w : World) (hR : Rd EMsg w A l) (h : l.length > 64) : Calls Try.prog 12 #[.slice A l.length c] w (Made2 EMsg 23 [] 8 w) := by
  have hle := hR.le
  clear hR
  go_enter Try.func12, Try.ntmps12
  go_wp2
  go_ret2
  exact ⟨_, rfl, Own.nil _ _ _ _, Below.refl _ _⟩
set_option maxHeartbeats 2000000 in
theorem normal_bad (l : List Msg) (A : Option Addr) (c : Nat) (w : World) (hR : Rd EMsg w A l) (h : l.length ≤ 64) (hb : l.any badM = true) : Calls Try.prog 12 #[.slice A l.length c] w (Made2 EMsg 23 [] 1 w) := by
  have hcon := anyBad l A c w hR
  rw [hb] at hcon
  clear hR hb
  go_enter Try.func12, Try.ntmps12
  go_wp2_with (go_at_call 37; refine hcon.mono ?_; rintro e w' ⟨rfl, hb'⟩)
  go_ret2
  exact ⟨_, rfl, Own.nil _ _ _ _, hb'⟩
set_option maxHeartbeats 4000000 in
theorem normal_ok (l : List Msg) (A : Option Addr) (c : Nat) (w : World) (hR : Rd EMsg w A l) (h : l.length ≤ 64) (hb : l.any badM = false) : Calls Try.prog 12 #[.slice A l.length c] w (Made2 EMsg 23 (normL l) 0 w) := by
  have hcon := anyBad l A c w hR
  rw [hb] at hcon
  have HR := hid_of hR
  clear hR hb
  go_enter Try.func12, Try.ntmps12
  go_wp2_with (go_at_call 37; refine hcon.mono ?_; rintro e w1 ⟨rfl, hb1⟩)
  clear hcon
  have hcl := cloneM l A c w1 (HR.out.below hb1) (by omega)
  unfold Made at hcl
  have HB1 := hid_of hb1
  clear hb1
  refine hcl.mono ?_
  rintro e w2 ⟨v, rfl, hO, hb2⟩
  clear hcl
  have HO := hid_of hO
  have HB2 := hid_of (below_then HB1.out HB1.out.size hb2)
  have hsz := HB1.out.size
  clear hO hb2
  by_cases hl0 : l = []
  · subst hl0
    obtain ⟨A', c', rfl, _, _⟩ := HO.out.rd
    go_wp2_with fail
    refine (sortM_none A' c' _ _).mono ?_
    rintro e w3 ⟨rfl, rfl⟩
    go_wp2_with fail
    refine (compactM_none A' c' _).mono ?_
    rintro e w4 ⟨rfl, rfl⟩
    go_wp2
    go_ret2
    rw [show normL [] = [] by simp [normL, comp]]
    exact ⟨_, rfl, HO.out.lower hsz, HB2.out⟩
  · have hpos : 0 < l.length := List.length_pos_iff.2 hl0
    have hh := HO.out
    obtain ⟨g, cap, rfl, hbg, hgl, hcap⟩ := HO.out.open_ hpos
    have hrow := HO.out.row
    have hs := sortM l g cap w2 hrow.1 (by omega)
    clear hh hl0
    go_wp2_with fail
    refine hs.mono ?_
    rintro e w3 ⟨rfl, hr3, hg3⟩
    have hc := compactM (l.mergeSort leM) g cap w3 hr3
    rw [List.length_mergeSort] at hc
    have HG3 := hid_of hg3
    clear hr3 hg3 hs hrow
    go_wp2_with fail
    refine hc.mono ?_
    rintro e w4 ⟨rfl, hr4, hg4⟩
    have HR4 := hid_of hr4
    have HG4 := hid_of hg4
    clear hr4 hg4 hc
    go_wp2
    go_ret2
    refine ⟨_, rfl, HR4.out.own (by omega), HB2.out.grown (World.grownBy.trans HG3.out HG4.out) HB2.out.size (fun k hk => by cases hk; omega)⟩
/-- What Normal returns. -/
theorem normal_any (l : List Msg) (A : Option Addr) (c : Nat) (w : World) (hR : Rd EMsg w A l) : Calls Try.prog 12 #[.slice A l.length c] w (Made2 EMsg 23 (normR l).1 (normR l).2 w) := by
  unfold normR
  by_cases h : l.length > 64
  · rw [if_pos h]; exact normal_large l A c w hR h
  · rw [if_neg h]
    by_cases hb : l.any badM = true
    · rw [if_pos hb]; exact normal_bad l A c w hR (by omega) hb
    · rw [if_neg hb]; exact normal_ok l A c w hR (by omega) (by simpa using hb)
end Go.Proofs.Ytgcnklnhambpjaa
/- The sort of messages: one sorted list for each list; plain lists. -/
namespace Go.Proofs.Ytgcnklnhambpjaa
open Go.RowKit
theorem leM_tr (a b c : Msg) (h1 : leM a b = true) (h2 : leM b c = true) : leM a c = true := by
  simp only [leM, Bool.not_eq_true', decide_eq_false_iff_not, cmpM_neg] at *; omega
theorem leM_tot (a b : Msg) : (leM a b || leM b a) = true := by
  simp only [leM, Bool.or_eq_true, Bool.not_eq_true', decide_eq_false_iff_not, cmpM_neg]; omega
theorem leM_anti (a b : Msg) (h1 : leM a b = true) (h2 : leM b a = true) : a = b := by
  simp only [leM, Bool.not_eq_true'] at h1 h2
  exact totM a b h2 h1
theorem sort_sorted (l : List Msg) : (l.mergeSort leM).Pairwise (fun a b => leM a b = true) := List.pairwise_mergeSort leM_tr leM_tot l
theorem sort_eq (xs ys : List Msg) (hp : xs.Perm ys) (hs : ys.Pairwise (fun a b => leM a b = true)) : xs.mergeSort leM = ys :=
  List.Perm.eq_of_pairwise (le := fun a b => leM a b = true) (fun a b _ _ h1 h2 => leM_anti a b h1 h2) (sort_sorted xs) hs ((List.mergeSort_perm xs leM).trans hp)
theorem normR_of (xs ys : List Msg) (hl : xs.length ≤ 64) (hb : xs.any badM = false) (hp : xs.Perm ys) (hs : ys.Pairwise (fun a b => leM a b = true)) : normR xs = (comp ys, 0) := by
  unfold normR normL
  rw [if_neg (by omega), if_neg (by rw [hb]; simp), sort_eq xs ys hp hs]
end Go.Proofs.Ytgcnklnhambpjaa
