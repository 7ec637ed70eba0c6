/- Joined texts of the seat: contracts and plain laws that the rows import. -/
import Derived.Test.YtgcnklnhambpjaaK1
import Derived.Laws.IdiomCopy
import Derived.Test.YtgcnklnhambpjaaK7
import Derived.Shelf.Spec.SlicesInsert
import Derived.Lib.Overlaps
import Derived.Lib.AppendZerosOnto
import Derived.Deep.RegionHeld3
import Derived.Test.YtgcnklnhambpjaaK8
import Derived.Test.YtgcnklnhambpjaaK3
import Derived.Deep.LoopGhost
import Derived.Deep.QuietTactic
import Derived.BigQuiet
import Derived.Outline
import Derived.Deep.Slices
import Derived.Deep.Fields
import Derived.ChangeSame
import Derived.ChangeArms
import Derived.WideShapes
import Derived.OpenShut
set_option linter.unusedVariables false
set_option linter.unusedSimpArgs false
/- copy into a row: elements put in at a place. -/
namespace Go.Proofs.Ytgcnklnhambpjaa
open Go.RowKit
variable {α : Type} {E : Enc α} {t : TypeId} {w : World} {g cap : Nat} {xs : List α}
theorem Row.put (h : Row E t w g cap xs) (m : Nat) (ys : List α) (hm : m ≤ xs.length) (hc : m + ys.length ≤ cap) (P : Program) :
    ∃ w', (storeCells ⟨g, m * E.k, none⟩ (E.flat ys) 0).run P w = .ok () w' ∧ Row E t w' g cap (xs.take m ++ ys ++ xs.drop (m + ys.length)) ∧ w.grownBy w' (some g) := by
  have hx := h
  obtain ⟨w', hr, _, hg, cur, cur', hc1, hc2, hs, he⟩ := h.setRow m (E.flat ys) (by rw [E.flat_length, ← Nat.add_mul]; exact Nat.mul_le_mul_right _ hc) (E.flat_one' ys) P
  refine ⟨w', hr, ?_, hg⟩
  obtain ⟨cur2, hg2, hcs, hcm, hnc, htake⟩ := hx
  rw [hc1] at hg2
  simp only [Option.some.injEq, Obj.cells.injEq, and_true] at hg2
  subst hg2
  have hle : m * E.k + ys.length * E.k ≤ cap * E.k := by rw [← Nat.add_mul]; exact Nat.mul_le_mul_right _ hc
  have hmx : m * E.k ≤ xs.length * E.k := Nat.mul_le_mul_right _ hm
  have hxc : xs.length * E.k ≤ cap * E.k := Nat.mul_le_mul_right _ hnc
  have hsz : cur'.size = cap * E.k := by
    rw [← Array.length_toList, he]
    simp only [List.length_append, List.length_take, List.length_drop, Array.length_toList, E.flat_length]
    omega
  refine ⟨cur', hc2, hsz, hcm, ?_, ?_⟩
  · simp only [List.length_append, List.length_take, List.length_drop]; omega
  · rw [he, E.flat_append, E.flat_append, E.flat_take, E.flat_drop, ← htake, E.flat_length]
    have e1 : (xs.take m ++ ys ++ xs.drop (m + ys.length)).length * E.k = m * E.k + ys.length * E.k + (xs.length * E.k - (m + ys.length) * E.k) := by
      simp only [List.length_append, List.length_take, List.length_drop, Nat.add_mul, Nat.sub_mul]
      rw [Nat.min_eq_left hm]
    rw [e1, Nat.add_mul]
    have l1 : (cur.toList.take (m * E.k)).length = m * E.k := by rw [List.length_take, Array.length_toList]; omega
    rw [List.take_append, List.take_append, List.length_append, l1, E.flat_length, List.take_take, List.take_take]
    rw [List.take_of_length_le (l := E.flat ys) (by rw [E.flat_length]; omega)]
    rw [Nat.min_eq_right (by omega), Nat.min_eq_left hmx]
    congr 1
    rw [List.drop_take]
    congr 1
    omega
theorem Row.copy (h : Row E t w g cap xs) (m : Nat) (ys : List α) (hm : m ≤ xs.length) (hc : m + ys.length ≤ cap) {P : Program} {T : TypeId} {e : TypeId} (hu : P.underlying T = some (.slice e)) (hs : (P.info? e).map (·.size) = some E.k) (a : Addr) (sLen dLen : Nat) (hn : ys.length = Nat.min sLen dLen) (hsrc : ∀ j v, (E.flat ys)[j]? = some v → w.cell? (a.add j) = some v) :
    ∃ w', (∀ ty dc sc, (Builtin.copy_ #[T, T] ty #[.slice (some ⟨g, m * E.k, none⟩) dLen dc, .slice (some a) sLen sc]).run P w = .ok (goInt ys.length) w') ∧ Row E t w' g cap (xs.take m ++ ys ++ xs.drop (m + ys.length)) ∧ w.grownBy w' (some g) := by
  obtain ⟨w', hr, hrow, hg⟩ := h.put m ys hm hc P
  refine ⟨w', fun ty dc sc => ?_, hrow, hg⟩
  have hl := run_loadCells_list (P := P) w a (E.flat ys) hsrc
  rw [E.flat_length] at hl
  cases hq : P.info? e with
  | none => simp [hq] at hs
  | some i =>
    have hi : i.size = E.k := by simpa [hq] using hs
    simp [Builtin.copy_, run_underlying hu, Builtin.lenOf, Builtin.firstCells, sizeOf, typeInfo, hq, hi, ← hn, hl, hr]
end Go.Proofs.Ytgcnklnhambpjaa
/- slices.Insert of one message, on a row of the call's own. -/
namespace Go.Proofs.Ytgcnklnhambpjaa
open Go.RowKit Go.Lib
set_option maxHeartbeats 4000000 in
set_option maxRecDepth 100000 in
theorem insert_room (xs : List Msg) (x : Msg) (i : Nat) (g cap g' : Nat) (w : World) (hRow : Row EMsg 23 w g cap xs) (hi : i < xs.length) (hroom : xs.length + 1 ≤ cap) (hx : w.heap[g']? = some (.cells #[.int .i64 x.mv, .int .i64 x.kd, .int .i64 x.nu, .int .i64 x.dy, .int .i64 x.fr, .int .i64 x.tt, .int .i64 x.al] 23 (0, 0))) (hne : g' ≠ g) :
    Calls Try.prog 33 #[.slice (some ⟨g, 0, none⟩) xs.length cap, .int .i64 i, .slice (some ⟨g', 0, none⟩) 1 1] w fun e w' => e = .returned (.slice (some ⟨g, 0, none⟩) (xs.length + 1) cap) ∧ Row EMsg 23 w' g cap (xs.take i ++ x :: xs.drop i) ∧ w.grownBy w' (some g) := by
  have hcl := hRow.cap_le
  obtain ⟨cur, hg, hcs, hcm, hnc, htake⟩ := hRow
  have hRow : Row EMsg 23 w g cap xs := ⟨cur, hg, hcs, hcm, hnc, htake⟩
  have hcs7 : cur.size = cap * 7 := hcs
  have hsz : (Try.prog.info? 23).map (·.size) = some EMsg.k := by
    have h := infoM
    cases hq : Try.prog.info? 23 with
    | none => rw [hq] at h; simp at h
    | some i0 => rw [hq] at h; simp at h; simp [h.2.1]; rfl
  have hov : ∀ lb cb, (callFunc 53 #[.slice (some ⟨g', 0, none⟩) 1 1, .slice (some ⟨g, (i + 1) * 7, none⟩) lb cb]).run Try.prog w = .ok (.value (.bool false)) w := fun lb cb => by
    rw [run_callFunc_extern Try.func53 (by kernel_rfl) (by kernel_rfl) (by kernel_rfl) (e := Extern.SlicesOverlaps.overlaps #[24, 24] #[4]) (by kernel_rfl),
      Lib.run_overlaps_apart w 24 4 23 Try.underlying24 7 Try.sizeOf23 ⟨g', 0, none⟩ ⟨g, (i + 1) * 7, none⟩ 1 1 lb cb hne 23 23 7 cur.size (by simp [World.shape?, hx]) (by simp [World.shape?, hg]) (by omega) (blk_frozen hx 0) (blk_frozen hx 7)]
    rfl
  have hsrc : ∀ (W : World), Row EMsg 23 W g cap xs → ∀ j v, (EMsg.flat (xs.drop i))[j]? = some v → W.cell? ((⟨g, i * 7, none⟩ : Addr).add j) = some v := fun W hW j v hj => by
    obtain ⟨ad, had, hc⟩ := hW.rd.2 (by omega)
    cases had
    rw [EMsg.flat_drop, List.getElem?_drop] at hj
    have h := hc _ _ hj
    rw [addr_plain] at h
    rw [show (⟨g, i * 7, none⟩ : Addr) = (⟨g, 0, none⟩ : Addr).add (i * 7) from (addr_plain g _).symm, addr_add_add, addr_plain]
    exact h
  obtain ⟨w1, hc1, hr1, hg1⟩ := (hRow.drew).copy (i + 1) (xs.drop i) (by omega) (by rw [List.length_drop]; omega) Try.underlying24 hsz ⟨g, i * 7, none⟩ (xs.length + 1 - i) (xs.length + 1 - (i + 1)) (by rw [List.length_drop]; simp only [Nat.min_def]; split <;> omega) (hsrc _ hRow.drew)
  have hx1 : w1.heap[g']? = some (.cells #[.int .i64 x.mv, .int .i64 x.kd, .int .i64 x.nu, .int .i64 x.dy, .int .i64 x.fr, .int .i64 x.tt, .int .i64 x.al] 23 (0, 0)) := (hg1.block g' (Array.getElem?_eq_some_iff.1 hx).1 (by simp [hne])).trans hx
  have hlen1 : (xs.take (i + 1) ++ xs.drop i ++ xs.drop (i + 1 + (xs.drop i).length)).length = xs.length + 1 := by simp; omega
  obtain ⟨w2, hc2, hr2, hg2⟩ := hr1.copy i [x] (by rw [hlen1]; omega) (by simp; omega) Try.underlying24 hsz ⟨g', 0, none⟩ 1 (xs.length + 1 - i) (by simp [Nat.min_def]; omega) (fun j v hj => by
    rw [addr_plain, blk_cell hx1 j]; simpa [Enc.flat, EMsg, Msg.cells] using hj)
  have hfin : (xs.take (i + 1) ++ xs.drop i ++ xs.drop (i + 1 + (xs.drop i).length)).take i ++ [x] ++ (xs.take (i + 1) ++ xs.drop i ++ xs.drop (i + 1 + (xs.drop i).length)).drop (i + [x].length) = xs.take i ++ x :: xs.drop i := by
    have e0 : xs.drop (i + 1 + (xs.drop i).length) = [] := List.drop_eq_nil_of_le (by rw [List.length_drop]; omega)
    rw [e0, List.append_nil, List.length_singleton]
    have e1 : (xs.take (i + 1) ++ xs.drop i).take i = xs.take i := by
      rw [List.take_append_of_le_length (by simp; omega), List.take_take, Nat.min_eq_left (by omega)]
    have e2 : (xs.take (i + 1) ++ xs.drop i).drop (i + 1) = xs.drop i := by
      rw [List.drop_append_of_le_length (by simp; omega), List.drop_eq_nil_of_le (by simp; omega), List.nil_append]
    rw [e1, e2]; simp
  rw [hfin] at hr2
  have HR2 := hid_of hr2
  have hg0 : w.grownBy w.drew (some g) := ⟨rfl, rfl, rfl, Nat.le_refl _, fun _ _ _ => rfl⟩
  have HG := hid_of (World.grownBy.trans (World.grownBy.trans hg0 hg1) hg2)
  have hdl : (xs.drop i).length = xs.length - i := List.length_drop
  have hC1 : ∀ ty dc sc, (Builtin.copy_ #[24, 24] ty #[.slice (some ⟨g, (i + 1) * 7, none⟩) (xs.length + 1 - (i + 1)) dc, .slice (some ⟨g, i * 7, none⟩) (xs.length + 1 - i) sc]).run Try.prog w.drew = .ok (goInt (xs.drop i).length) w1 := hc1
  have hC2 : ∀ ty dc sc, (Builtin.copy_ #[24, 24] ty #[.slice (some ⟨g, i * 7, none⟩) (xs.length + 1 - i) dc, .slice (some ⟨g', 0, none⟩) 1 sc]).run Try.prog w1 = .ok (goInt [x].length) w2 := hc2
  have mixed := (show Try.prog.follows .mixedOrders = true by kernel_rfl)
  have hz2 : ¬ ((i : Int) = (xs.length : Int)) := by omega
  have hz2' : ((i : Int) == (xs.length : Int)) = false := by simpa using hz2
  have hw1 : IntKind.i64.wrap ((i : Int) + 1) = (i : Int) + 1 := by rw [IntKind.wrap_i64]; omega
  have hw2 : IntKind.i64.wrap ((xs.length : Int) + 1) = (xs.length : Int) + 1 := by rw [IntKind.wrap_i64]; omega
  have hr3 : ¬ ((xs.length : Int) + 1 > (cap : Int)) := by omega
  have hb1 : (0 : Int) ≤ (i : Int) + 1 := by omega
  have hin : i ≤ xs.length := by omega
  have htn : ((i : Int) + 1).toNat = i + 1 := by omega
  have htn2 : ((xs.length : Int) + 1).toNat = xs.length + 1 := by omega
  have hb2 : ¬ (cap = i + 1) := by omega
  have hb3 : (i : Int) ≤ (xs.length : Int) + 1 := by omega
  have hb4 : ¬ (cap = i) := by omega
  clear hg0 hRow hc1 hc2 hr1 hr2 hg1 hg2 hsrc hfin hlen1 hx1 hx hg hcs hcs7 htake hsz
  go_enter Try.func33, Try.ntmps33
  go_wp2_with (simp only [hov])
  go_region_law_o (refine step_copy_runI rfl _ _ 24 24 rfl (.slice (some ⟨g, (i + 1) * 7, none⟩) (xs.length + 1 - (i + 1)) (cap - (i + 1))) (.slice (some ⟨g, i * 7, none⟩) (xs.length + 1 - i) (cap - i)) (by simp [Act.eval, Act.put]) (by simp [Act.eval, Act.put]) (hC1 _ _ _) ?_)
  go_wp2_with (at_builtin; refine wpList_copy_runI _ rfl _ _ 24 24 rfl _ _ rfl rfl (hC2 _ _ _) ?_)
  go_ret
  exact ⟨rfl, HR2.out, HG.out⟩
set_option maxHeartbeats 4000000 in
set_option maxRecDepth 100000 in
theorem insert_grow (xs : List Msg) (x : Msg) (i : Nat) (g cap g' base : Nat) (w : World) (hRow : Row EMsg 23 w g cap xs) (hi : i < xs.length) (hroom : cap < xs.length + 1) (hlen : xs.length ≤ 1000) (hb : base ≤ w.heap.size) (hx : w.heap[g']? = some (.cells #[.int .i64 x.mv, .int .i64 x.kd, .int .i64 x.nu, .int .i64 x.dy, .int .i64 x.fr, .int .i64 x.tt, .int .i64 x.al] 23 (0, 0))) :
    Calls Try.prog 33 #[.slice (some ⟨g, 0, none⟩) xs.length cap, .int .i64 i, .slice (some ⟨g', 0, none⟩) 1 1] w fun e w' => ∃ v', e = .returned v' ∧ Own EMsg 23 w' base v' (xs.take i ++ x :: xs.drop i) ∧ Below base w w' := by
  have hcl := hRow.cap_le
  have hxc := hRow.le
  have hgl := hRow.lt
  have hg'l := (Array.getElem?_eq_some_iff.1 hx).1
  obtain ⟨i0, hi0, hzz⟩ := Option.map_eq_some_iff.1 infoM
  simp only [Prod.mk.injEq] at hzz
  obtain ⟨hz0, hz1, hz2⟩ := hzz
  have hsz : (Try.prog.info? 23).map (·.size) = some EMsg.k := by rw [hi0]; simp [hz1]; rfl
  have hsrc : ∀ (W : World) (m : Nat), Row EMsg 23 W g cap xs → ∀ j v, (EMsg.flat (xs.drop m))[j]? = some v → W.cell? ((⟨g, m * 7, none⟩ : Addr).add j) = some v := fun W m hW j v hj => by
    obtain ⟨ad, had, hc⟩ := hW.rd.2 (by omega)
    cases had
    rw [EMsg.flat_drop, List.getElem?_drop] at hj
    have h := hc _ _ hj
    rw [addr_plain] at h
    rw [show (⟨g, m * 7, none⟩ : Addr) = (⟨g, 0, none⟩ : Addr).add (m * 7) from (addr_plain g _).symm, addr_add_add, addr_plain]
    exact h
  have hold : (Builtin.firstCells i0.size i (.slice (some ⟨g, 0, none⟩) i cap)).run Try.prog w.drew = .ok (EMsg.flat (xs.take i)).toArray w.drew := by
    rw [hz1]
    refine run_firstCells_some w.drew 7 i ⟨g, 0, none⟩ i cap (EMsg.flat (xs.take i)) (by rw [EMsg.flat_length, List.length_take, Nat.min_eq_left (by omega)]; rfl) (fun j v hj => ?_)
    obtain ⟨ad, had, hc⟩ := hRow.rd.2 (by omega)
    cases had
    rw [EMsg.flat_take, List.getElem?_take] at hj
    split at hj
    · exact hc j v hj
    · cases hj
  have hik : i + (xs.length + 1 - i) = xs.length + 1 := by omega
  have hrz0 := fun ty => run_append_grow_zeros (P := Try.prog) w 24 3 ty 23 i0 _ .i64 .i64 Try.underlying24 Try.underlying3 hi0 hz0 (some ⟨g, 0, none⟩) i cap (EMsg.flat (xs.take i)) hold (xs.length + 1 - i) (by omega) (by rw [hz1]; decide) (by omega) (by omega) (by rw [hz2]; omega) (by rw [hz2, hik]; exact growslice_fits hroom (by omega))
  simp only [hik] at hrz0
  have hGn := grownCap_ge w (xs.length + 1) cap 23
  have hGm := grownCap_le_maxLen w (xs.length + 1) cap 23 (by unfold maxLen; omega)
  generalize grownCap w (xs.length + 1) cap 23 = G at hrz0 hGn hGm
  have hR1 : Row EMsg 23 (w.drew.alloc (.cells ((EMsg.flat (xs.take i)).toArray ++ Builtin.zeroCells (Value.cells (.agg #[.int .i64 0, .int .i64 0, .int .i64 0, .int .i64 0, .int .i64 0, .int .i64 0, .int .i64 0])) (xs.length + 1 - i) ++ Builtin.zeroCells (Value.cells (.agg #[.int .i64 0, .int .i64 0, .int .i64 0, .int .i64 0, .int .i64 0, .int .i64 0, .int .i64 0])) (G - (xs.length + 1))) 23)) w.heap.size G (xs.take i) := by
    have hzc : (Value.cells (.agg #[.int .i64 0, .int .i64 0, .int .i64 0, .int .i64 0, .int .i64 0, .int .i64 0, .int .i64 0])).size = EMsg.k := rfl
    have hl : (EMsg.flat (xs.take i)).length = i * EMsg.k := by rw [EMsg.flat_length, List.length_take, Nat.min_eq_left (by omega)]
    refine ⟨_, blkN w.drew _, ?_, hGm, by simp; omega, ?_⟩
    · rw [Array.size_append, Array.size_append, zeroCells_size, zeroCells_size, hzc, List.size_toArray, hl, ← Nat.add_mul, ← Nat.add_mul]
      congr 1; omega
    · rw [Array.toList_append, Array.toList_append, List.append_assoc, List.length_take, Nat.min_eq_left (by omega), ← hl]
      exact List.take_left
  have hbA : Below w.heap.size w (w.drew.alloc (.cells ((EMsg.flat (xs.take i)).toArray ++ Builtin.zeroCells (Value.cells (.agg #[.int .i64 0, .int .i64 0, .int .i64 0, .int .i64 0, .int .i64 0, .int .i64 0, .int .i64 0])) (xs.length + 1 - i) ++ Builtin.zeroCells (Value.cells (.agg #[.int .i64 0, .int .i64 0, .int .i64 0, .int .i64 0, .int .i64 0, .int .i64 0, .int .i64 0])) (G - (xs.length + 1))) 23)) := (Below.refl _ w).drew.alloc (Nat.le_refl _) _
  have hrz : ∀ ty, (Builtin.append_ #[24, 3] ty #[.slice (some ⟨g, 0, none⟩) i cap, .int .i64 ((xs.length + 1 - i : Nat) : Int)]).run Try.prog w = .ok (.slice (some ⟨w.heap.size, 0, none⟩) (xs.length + 1) G) (w.drew.alloc (.cells ((EMsg.flat (xs.take i)).toArray ++ Builtin.zeroCells (Value.cells (.agg #[.int .i64 0, .int .i64 0, .int .i64 0, .int .i64 0, .int .i64 0, .int .i64 0, .int .i64 0])) (xs.length + 1 - i) ++ Builtin.zeroCells (Value.cells (.agg #[.int .i64 0, .int .i64 0, .int .i64 0, .int .i64 0, .int .i64 0, .int .i64 0, .int .i64 0])) (G - (xs.length + 1))) 23)) := hrz0
  clear hrz0 hold
  generalize w.drew.alloc (.cells ((EMsg.flat (xs.take i)).toArray ++ Builtin.zeroCells (Value.cells (.agg #[.int .i64 0, .int .i64 0, .int .i64 0, .int .i64 0, .int .i64 0, .int .i64 0, .int .i64 0])) (xs.length + 1 - i) ++ Builtin.zeroCells (Value.cells (.agg #[.int .i64 0, .int .i64 0, .int .i64 0, .int .i64 0, .int .i64 0, .int .i64 0, .int .i64 0])) (G - (xs.length + 1))) 23) = W1 at hrz hR1 hbA
  have hx1 := (hbA.block g' hg'l).trans hx
  have hli : (xs.take i).length = i := by simp; omega
  obtain ⟨W2, hc1, hr2, hg2⟩ := hR1.copy i [x] (by omega) (by simp; omega) Try.underlying24 hsz ⟨g', 0, none⟩ 1 (xs.length + 1 - i) (by simp [Nat.min_def]; omega) (fun j v hj => by
    rw [addr_plain, blk_cell hx1 j]; simpa [Enc.flat, EMsg, Msg.cells] using hj)
  have e1 : (xs.take i).take i ++ [x] ++ (xs.take i).drop (i + [x].length) = xs.take i ++ [x] := by
    rw [List.take_take, Nat.min_self, List.drop_eq_nil_of_le (by rw [hli]; simp), List.append_nil]
  rw [e1] at hr2
  have hold2 : Row EMsg 23 W2 g cap xs := (hRow.below hbA).grown hg2 (by simp; omega)
  have hl2 : (xs.take i ++ [x]).length = i + 1 := by simp; omega
  obtain ⟨W3, hc2, hr3, hg3⟩ := (hr2.drew).copy (i + 1) (xs.drop i) (by omega) (by rw [List.length_drop]; omega) Try.underlying24 hsz ⟨g, i * 7, none⟩ (xs.length - i) (xs.length + 1 - (i + 1)) (by rw [List.length_drop]; simp only [Nat.min_def]; split <;> omega) (hsrc _ i hold2.drew)
  have e2 : (xs.take i ++ [x]).take (i + 1) ++ xs.drop i ++ (xs.take i ++ [x]).drop (i + 1 + (xs.drop i).length) = xs.take i ++ x :: xs.drop i := by
    have e3 : (xs.take i ++ [x]).drop (i + 1 + (xs.drop i).length) = [] := List.drop_eq_nil_of_le (by omega)
    rw [List.take_of_length_le (l := xs.take i ++ [x]) (by omega), e3]; simp
  rw [e2] at hr3
  have hs12 := hg2.size
  have hs1 := hbA.size
  have hbb := ((hbA.mono hb).grown hg2 (by omega) (fun k hk => by cases hk; exact hb)).drew
  have hbc := hbb.grown hg3 (by simp; omega) (fun k hk => by cases hk; exact hb)
  have hown := hr3.own hb
  have hll : (xs.take i ++ x :: xs.drop i).length = xs.length + 1 := by simp; omega
  rw [hll] at hown
  have HF := hid_of (And.intro hown hbc)
  have hC1 : ∀ ty dc sc, (Builtin.copy_ #[24, 24] ty #[.slice (some ⟨w.heap.size, i * 7, none⟩) (xs.length + 1 - i) dc, .slice (some ⟨g', 0, none⟩) 1 sc]).run Try.prog W1 = .ok (goInt [x].length) W2 := hc1
  have hC2 : ∀ ty dc sc, (Builtin.copy_ #[24, 24] ty #[.slice (some ⟨w.heap.size, (i + 1) * 7, none⟩) (xs.length + 1 - (i + 1)) dc, .slice (some ⟨g, i * 7, none⟩) (xs.length - i) sc]).run Try.prog W2.drew = .ok (goInt (xs.drop i).length) W3 := hc2
  have mixed := (show Try.prog.follows .mixedOrders = true by kernel_rfl)
  have hG63 : G ≤ 9223372036854775807 := by unfold maxLen at hGm; omega
  have hz2 : ¬ ((i : Int) = (xs.length : Int)) := by omega
  have hz2' : ((i : Int) == (xs.length : Int)) = false := by simpa using hz2
  have hw1 : IntKind.i64.wrap ((i : Int) + 1) = (i : Int) + 1 := by rw [IntKind.wrap_i64]; omega
  have hw2 : IntKind.i64.wrap ((xs.length : Int) + 1) = (xs.length : Int) + 1 := by rw [IntKind.wrap_i64]; omega
  have hw3 : IntKind.i64.wrap ((xs.length : Int) + 1 - (i : Int)) = ((xs.length + 1 - i : Nat) : Int) := by rw [IntKind.wrap_i64]; omega
  have hr3' : (xs.length : Int) + 1 > (cap : Int) := by omega
  have hb1 : (0 : Int) ≤ (i : Int) + 1 := by omega
  have hin : i ≤ xs.length := by omega
  have htn : ((i : Int) + 1).toNat = i + 1 := by omega
  have hci : ¬ (cap = i) := by omega
  have hGi : ¬ (G = i) := by omega
  have hGi1 : ¬ (G = i + 1) := by omega
  have hb3 : (i : Int) ≤ (xs.length : Int) + 1 := by omega
  have hi4 : (i : Int) ≤ (xs.length : Int) := by omega
  have hi5 : (i : Int) ≤ (cap : Int) := by omega
  clear hRow hc1 hc2 hr2 hr3 hg2 hg3 hsrc hx1 hx hi0 hz0 hz1 hsz e1 e2 hold2 hl2 hs12 hs1 hbb hbc hown hll hbA hR1 hli hik hGm hz2 hgl hg'l
  go_enter Try.func33, Try.ntmps33
  go_wp2_with (first
    | (at_builtin; refine Lib.wpList_append_run _ rfl _ _ _ _ rfl _ _ rfl rfl _ _ (hrz _) ?_)
    | (at_builtin; refine wpList_copy_runI _ rfl _ _ 24 24 rfl _ _ rfl rfl (hC1 _ _ _) ?_))
  go_region_law_o (refine step_copy_runI rfl _ _ 24 24 rfl (.slice (some ⟨w.heap.size, (i + 1) * 7, none⟩) (xs.length + 1 - (i + 1)) (G - (i + 1))) (.slice (some ⟨g, i * 7, none⟩) (xs.length - i) (cap - i)) (by simp [Act.eval, Act.put]) (by simp [Act.eval, Act.put]) (hC2 _ _ _) ?_)
  go_wp2_with fail
  go_ret
  exact ⟨_, rfl, HF.out⟩
set_option maxHeartbeats 4000000 in
set_option maxRecDepth 100000 in
theorem insert_end (xs : List Msg) (x : Msg) (v : Value) (base g' : Nat) (w : World) (hO : Own EMsg 23 w base v xs) (hb : base ≤ w.heap.size) (hlen : xs.length ≤ 1000) (hx : w.heap[g']? = some (.cells #[.int .i64 x.mv, .int .i64 x.kd, .int .i64 x.nu, .int .i64 x.dy, .int .i64 x.fr, .int .i64 x.tt, .int .i64 x.al] 23 (0, 0))) :
    Calls Try.prog 33 #[v, .int .i64 xs.length, .slice (some ⟨g', 0, none⟩) 1 1] w fun e w' => ∃ v', e = .returned v' ∧ Own EMsg 23 w' base v' (xs ++ [x]) ∧ Below base w w' := by
  obtain ⟨i0, hi, hzz⟩ := Option.map_eq_some_iff.1 infoM
  simp only [Prod.mk.injEq] at hzz
  obtain ⟨hz0, hz1, hz2⟩ := hzz
  have HI : Hid (Try.prog.info? 23 = some i0 ∧ i0.zero = some _ ∧ i0.size = 7 ∧ i0.bytes = 56) := ⟨hi, hz0, hz1, hz2⟩
  clear hi hz0 hz1 hz2
  obtain ⟨A, cap, rfl, hcap, hR⟩ := hO.rd
  have HO := hid_of hO
  have HX := hid_of hx
  have HB := hid_of hb
  have hcl : cap ≤ 9223372036854775807 := by
    rcases hO.2 with ⟨e, _⟩ | ⟨g, cap', cur, e, _, _, _, hm, _⟩
    · simp only [Value.slice.injEq] at e; omega
    · simp only [Value.slice.injEq] at e; simp only [maxLen] at hm; omega
  have hA0 : A = none → cap = 0 := by
    rintro rfl
    rcases hO.2 with ⟨e, _⟩ | ⟨g, cap', cur, e, _, _, _, hm, _⟩
    · simp only [Value.slice.injEq] at e; omega
    · simp at e
  clear hR hO hx hb
  have fin : ∀ (v' : Value) (w1 : World), w1.ownsRow base 23 7 v' (xs.length + 1) (EMsg.flat xs ++ EMsg.flat [x]) → w.grownBy w1 (Value.ownBlock (.slice A xs.length cap)) → Hid (Own EMsg 23 w1 base v' (xs ++ [x]) ∧ Below base w w1) := fun v' w1 hown hgrow => by
    refine ⟨?_, (Below.refl _ w).grown hgrow HB.out (fun k h => (HO.out.block k h).1)⟩
    unfold Own; rw [EMsg.flat_append, List.length_append, List.length_singleton]; exact hown
  have hcase : (A = none ∧ cap = 0) ∨ ((∃ g, A = some g) ∧ cap = xs.length) ∨ ((∃ g, A = some g) ∧ cap ≠ xs.length) := by
    cases A with
    | none => exact .inl ⟨rfl, hA0 rfl⟩
    | some g => by_cases h : cap = xs.length
                · exact .inr (.inl ⟨⟨g, rfl⟩, h⟩)
                · exact .inr (.inr ⟨⟨g, rfl⟩, h⟩)
  have hmx : (xs.length : Int) ≤ (cap : Int) := by omega
  clear hA0
  rcases hcase with ⟨rfl, rfl⟩ | ⟨⟨g, rfl⟩, rfl⟩ | ⟨⟨g, rfl⟩, hci⟩
  all_goals
    go_enter Try.func33, Try.ntmps33
    go_wp2_with (at_builtin; refine wpList_append_own _ rfl _ _ 24 rfl base 23 i0 _ 7 56 Try.underlying24 HI.out.1 HI.out.2.1 HI.out.2.2.1 HI.out.2.2.2 rfl (by decide) _ _ _ rfl HO.out ⟨g', 0, none⟩ 1 1 (EMsg.flat [x]) rfl ?qc1 ?qc2 ?qc3 ?qc4 ?qc5 ?qc6 ?_)
    case qc1 => rfl
    case qc2 =>
      intro j u hj
      rw [addr_plain, blk_cell HX.out j]
      simpa [Enc.flat, EMsg, Msg.cells] using hj
    case qc3 => exact EMsg.flat_one' _
    case qc4 => simp only [maxLen]; omega
    case qc5 => omega
    case qc6 => exact HB.out
    intro v' w1 hown hgrow hnil
    have hf := fin v' w1 hown hgrow
    clear hown hgrow hnil
    go_wp2_with fail
    go_ret
    exact ⟨_, rfl, hf.out⟩
end Go.Proofs.Ytgcnklnhambpjaa
/- slices.Insert of one message at any place: what it hands back. -/
namespace Go.Proofs.Ytgcnklnhambpjaa
open Go.RowKit
theorem insertM (xs : List Msg) (x : Msg) (i : Nat) (v : Value) (base g' : Nat) (w : World) (hO : Own EMsg 23 w base v xs) (hi : i ≤ xs.length) (hlen : xs.length ≤ 1000) (hb : base ≤ w.heap.size) (hne : ∀ k, v.ownBlock = some k → g' ≠ k) (hx : w.heap[g']? = some (.cells #[.int .i64 x.mv, .int .i64 x.kd, .int .i64 x.nu, .int .i64 x.dy, .int .i64 x.fr, .int .i64 x.tt, .int .i64 x.al] 23 (0, 0))) :
    Calls Try.prog 33 #[v, .int .i64 i, .slice (some ⟨g', 0, none⟩) 1 1] w fun e w' => ∃ v', e = .returned v' ∧ Own EMsg 23 w' base v' (xs.take i ++ x :: xs.drop i) ∧ Below base w w' := by
  by_cases hin : i = xs.length
  · subst hin
    have h := insert_end xs x v base g' w hO hb hlen hx
    rw [List.take_of_length_le (Nat.le_refl _), List.drop_eq_nil_of_le (Nat.le_refl _)]
    exact h
  · have hlt : i < xs.length := by omega
    obtain ⟨g, cap, rfl, hbg, hgl, hcap⟩ := hO.open_ (by omega)
    have hrow := hO.row.1
    by_cases hroom : xs.length + 1 ≤ cap
    · refine (insert_room xs x i g cap g' w hrow hlt hroom hx (hne g rfl)).mono ?_
      rintro e w' ⟨rfl, hr, hg⟩
      refine ⟨_, rfl, ?_, (Below.refl _ w).grown hg hb (fun k hk => by cases hk; exact hbg)⟩
      have h := hr.own hbg
      have hll : (xs.take i ++ x :: xs.drop i).length = xs.length + 1 := by simp; omega
      rw [hll] at h
      exact h
    · exact insert_grow xs x i g cap g' base w hrow hlt (by omega) hlen hb hx
end Go.Proofs.Ytgcnklnhambpjaa
/- The order of messages, and how often each comes, do not matter: plain lists. -/
namespace Go.Proofs.Ytgcnklnhambpjaa
open Go.RowKit
theorem normR_same {l m : List Msg} (hl : l.length ≤ 64) (hm : m.length ≤ 64) (h : ∀ x, x ∈ m ↔ x ∈ l) : normR m = normR l := by
  unfold normR
  rw [if_neg (show ¬ m.length > 64 by omega), if_neg (show ¬ l.length > 64 by omega)]
  have hb : m.any badM = l.any badM := by
    rw [Bool.eq_iff_iff, List.any_eq_true, List.any_eq_true]
    constructor
    · rintro ⟨x, hx, hb⟩; exact ⟨x, (h x).1 hx, hb⟩
    · rintro ⟨x, hx, hb⟩; exact ⟨x, (h x).2 hx, hb⟩
  have hn : normL m = normL l := normL_of (normL_strict m) (fun x => (normL_mem m x).trans (h x))
  rw [hb, hn]
theorem allP_same {l m : List Msg} (hl : l.length ≤ 64) (hm : m.length ≤ 64) (h : ∀ x, x ∈ m ↔ x ∈ l) : allP m = allP l := by
  unfold allP; rw [normR_same hl hm h]
/-- The list behind k numbers of the order. -/
structure OrdI (l : List Msg) (k : Nat) (ms : List Msg) : Prop where
  len : ms.length ≤ l.length + k
  mem : ∀ x, x ∈ ms ↔ x ∈ l
theorem OrdI.start (l : List Msg) : OrdI l 0 l.reverse := ⟨by simp, fun x => List.mem_reverse⟩
theorem OrdI.skip {l ms : List Msg} {k : Nat} (h : OrdI l k ms) : OrdI l (k + 1) ms := ⟨by have := h.len; omega, h.mem⟩
theorem OrdI.put {l ms : List Msg} {k : Nat} (h : OrdI l k ms) (i : Nat) (x : Msg) (hx : x ∈ l) : OrdI l (k + 1) (ms.take i ++ x :: ms.drop i) := by
  refine ⟨by have := h.len; simp; omega, fun y => ?_⟩
  rw [List.mem_append, List.mem_cons, ← h.mem y]
  conv => rhs; rw [← List.take_append_drop i ms, List.mem_append]
  constructor
  · rintro (h1 | rfl | h1)
    · exact .inl h1
    · have := (h.mem y).2 hx
      rw [← List.take_append_drop i ms, List.mem_append] at this
      exact this
    · exact .inr h1
  · rintro (h1 | h1)
    · exact .inl h1
    · exact .inr (.inr h1)
end Go.Proofs.Ytgcnklnhambpjaa
/- A list that is turned round in place, pair by pair: plain lists. -/
namespace Go.Proofs.Ytgcnklnhambpjaa
variable {α : Type}
/-- ys is l with the first i and the last i elements changed for one another. -/
structure RevI (l : List α) (i : Nat) (ys : List α) : Prop where
  len : ys.length = l.length
  at_ : ∀ k, k < l.length → ys[k]? = if k < i ∨ l.length ≤ k + i then l[l.length - 1 - k]? else l[k]?
theorem RevI.start (l : List α) : RevI l 0 l := ⟨rfl, fun k hk => by rw [if_neg (by omega)]⟩
theorem RevI.lo {l ys : List α} {i : Nat} (h : RevI l i ys) (hi : 2 * i + 1 < l.length) (hk : i < ys.length) : ys[i] = l[i]'(by omega) := by
  have := h.at_ i (by omega)
  rw [if_neg (by omega), List.getElem?_eq_getElem hk, List.getElem?_eq_getElem (by omega)] at this
  exact Option.some.inj this
theorem RevI.hi {l ys : List α} {i : Nat} (h : RevI l i ys) (hi : 2 * i + 1 < l.length) (hk : l.length - 1 - i < ys.length) : ys[l.length - 1 - i] = l[l.length - 1 - i]'(by omega) := by
  have := h.at_ (l.length - 1 - i) (by omega)
  rw [if_neg (by omega), List.getElem?_eq_getElem hk, List.getElem?_eq_getElem (by omega)] at this
  exact Option.some.inj this
theorem RevI.step {l ys : List α} {i j : Nat} (h : RevI l i ys) (hj : j = l.length - 1 - i) (hi : i < j) (a b : α) (ha : ∃ h : i < ys.length, ys[i] = a) (hb : ∃ h : j < ys.length, ys[j] = b) : RevI l (i + 1) ((ys.set i b).set j a) := by
  subst hj
  obtain ⟨h1, ha⟩ := ha
  obtain ⟨h2, hb⟩ := hb
  rw [h.lo (by omega) h1] at ha
  rw [h.hi (by omega) h2] at hb
  refine ⟨by simp [h.len], fun k hk => ?_⟩
  have hl := h.len
  rw [List.getElem?_set, List.getElem?_set, List.length_set]
  by_cases e1 : l.length - 1 - i = k
  · rw [if_pos e1, if_pos (by omega), if_pos (by omega), ← ha]
    rw [show l.length - 1 - k = i by omega, List.getElem?_eq_getElem (by omega)]
  · rw [if_neg e1]
    by_cases e2 : i = k
    · subst e2
      rw [if_pos rfl, if_pos h1, if_pos (by omega), ← hb, List.getElem?_eq_getElem (by omega)]
    · rw [if_neg e2, h.at_ k hk]
      by_cases e3 : k < i ∨ l.length ≤ k + i
      · rw [if_pos e3, if_pos (by omega)]
      · rw [if_neg e3, if_neg (by omega)]
theorem RevI.done {l ys : List α} {i : Nat} (h : RevI l i ys) (hi : ¬ i < l.length - 1 - i) : ys = l.reverse := by
  apply List.ext_getElem?
  intro k
  by_cases hk : k < l.length
  · rw [h.at_ k hk, List.getElem?_reverse hk]
    by_cases e : k < i ∨ l.length ≤ k + i
    · rw [if_pos e]
    · rw [if_neg e, show l.length - 1 - k = k by omega]
  · rw [List.getElem?_eq_none (by have := h.len; omega), List.getElem?_eq_none (by simp; omega)]
end Go.Proofs.Ytgcnklnhambpjaa
/- slices.Reverse at api.Message, on a row of the call's own. -/
namespace Go.Proofs.Ytgcnklnhambpjaa
open Go.RowKit
set_option maxHeartbeats 4000000 in
set_option maxRecDepth 100000 in
theorem reverseM (l : List Msg) (v : Value) (base : Nat) (w : World) (hO : Own EMsg 23 w base v l) (hb : base ≤ w.heap.size) :
    Calls Try.prog 32 #[v] w fun e w' => e = .returned (.tuple #[]) ∧ Own EMsg 23 w' base v l.reverse ∧ Below base w w' := by
  obtain ⟨A, cap, hv, hcap, hR⟩ := hO.rd
  have hle := hO.le
  have hcap' : cap ≤ 9223372036854775807 := by
    rcases hO.2 with ⟨e, _⟩ | ⟨g, cap', cur, e, _, _, _, hm, _⟩
    · rw [e] at hv; simp only [Value.slice.injEq] at hv; omega
    · rw [e] at hv; simp only [Value.slice.injEq] at hv; simp only [maxLen] at hm; omega
  subst hv
  have hw1 : IntKind.i64.wrap ((l.length : Int) - 1) = (l.length : Int) - 1 := by rw [IntKind.wrap_i64]; omega
  have HO0 := hid_of hO
  clear hR hO
  go_enter Try.func32, Try.ntmps32
  go_wp2_with fail
  go_loopg [2, 3] l.length (fun gg s2 s3 wr => ∃ (i : Nat) (j : Int) (ys : List Msg), i ≤ l.length ∧ l.length - i ≤ gg ∧ s2 = .int .i64 i ∧ s3 = .int .i64 j ∧ j = (l.length : Int) - 1 - i ∧ Hid (RevI l i ys) ∧ Hid (Own EMsg 23 wr base (.slice A l.length cap) ys) ∧ Hid (Below base w wr))
  case atStart => exact ⟨0, (l.length : Int) - 1, l, Nat.zero_le _, by omega, rfl, rfl, by omega, RevI.start l, HO0.out, Below.refl _ _⟩
  case round =>
    obtain ⟨i, j, ys, hil, hg, rfl, rfl, hj, HV, HO, BW⟩ := hrel
    by_cases hlt : i < l.length - 1 - i
    · obtain ⟨jn, hjn⟩ : ∃ jn : Nat, jn = l.length - 1 - i := ⟨_, rfl⟩
      have hj2 : j = (jn : Int) := by omega
      subst hj2
      clear hj
      have hyl := HV.out.len
      obtain ⟨g, cap', hv, hbg, hgl, hc1⟩ := HO.out.open_ (by omega)
      simp only [Value.slice.injEq] at hv
      obtain ⟨rfl, hq, rfl⟩ := hv
      clear hq
      have HRw : Hid (Row EMsg 23 wr g cap ys) := (show Own EMsg 23 wr base (.slice (some ⟨g, 0, none⟩) l.length cap) ys from HO.out).row.1
      have hfz := fun i => HRw.out.frozen i
      have hltj : (i : Int) < (jn : Int) := by omega
      have hi1 : (i : Int) < (l.length : Int) := by omega
      have hj1 : (jn : Int) < (l.length : Int) := by omega
      have hi2 : i < l.length := by omega
      have hj2 : jn < l.length := by omega
      obtain ⟨ad, had, c0, c1, c2, c3, c4, c5, c6⟩ := Msg.at_ HRw.out.rd i (by omega)
      obtain ⟨ad', had', d0, d1, d2, d3, d4, d5, d6⟩ := Msg.at_ HRw.out.rd jn (by omega)
      cases had
      cases had'
      simp only [addr_plain] at c0 c1 c2 c3 c4 c5 c6 d0 d1 d2 d3 d4 d5 d6
      generalize hx : ys[i]'(by omega) = x at c0 c1 c2 c3 c4 c5 c6
      generalize hy : ys[jn]'(by omega) = y at d0 d1 d2 d3 d4 d5 d6
      have HX : Hid (∃ h : i < ys.length, ys[i] = x) := ⟨by omega, hx⟩
      have HY : Hid (∃ h : jn < ys.length, ys[jn] = y) := ⟨by omega, hy⟩
      have HJ := hid_of hjn
      have HL := hid_of hlt
      have HBG := hid_of hbg
      clear hx hy hlt hjn hbg hgl hc1
      go_wp2_with fail
      go_region
      clear hfz c0 c1 c2 c3 c4 c5 c6 d0 d1 d2 d3 d4 d5 d6
      have hs1 := HRw.out.set i (by omega) y
      have hs2 := hs1.1.set jn (by rw [List.length_set]; omega) x
      have HS1 := hid_of hs1.2
      have HS2 := hid_of hs2
      clear hs1 hs2
      go_wp2_with fail
      go_roundg (l.length - (i + 1))
      case measure => omega
      case rel =>
        have hJ := HJ.out
        have hL := HL.out
        have hnew := HV.out.step HJ.out (by omega) x y HX.out HY.out
        refine ⟨i + 1, (jn : Int) - 1, _, by omega, Nat.le_refl _, by go_num, by go_num, by omega, hnew, ?_, ?_⟩
        · have h := (HS2.out.1.drew).own HBG.out
          rw [hnew.len] at h
          exact h
        · have hsz := BW.out.size
          exact ((BW.out.grown HS1.out (by omega) (fun k hk => by cases hk; exact HBG.out)).grown HS2.out.2 (by have := HS1.out.size; omega) (fun k hk => by cases hk; exact HBG.out)).drew
    · have hnl : ¬ ((i : Int) < j) := by omega
      have hdn := HV.out.done hlt
      subst hdn
      clear hlt hj
      go_wp2_with fail
      go_end0
      exact ⟨rfl, HO.out, BW.out⟩
end Go.Proofs.Ytgcnklnhambpjaa
/- Arguments that are slices, opened as lists: whatever the element's cells. -/
namespace Go.Proofs.Ytgcnklnhambpjaa
open Go.RowKit Go.ChangeShapes Go.WideShapes Go.Deep
section
variable {H : Type} {enc : TypeId × Value → H} {P : Program} {w : World} {base : Nat} {spare : Nat → Bool} {held : Bool}
/-- Element by element, as a list. -/
theorem rdG_of_elems {α : Type} [Inhabited α] {E : Enc α} {w : World} {a : Addr} {len : Nat} {p : α → Prop} (hl : len ≤ 9223372036854775807) (h : ∀ i, i < len → ∃ x : α, p x ∧ ∀ c v, (E.enc x)[c]? = some v → w.cell? (a.add (i * E.k + c)) = some v) : ∃ xs : List α, xs.length = len ∧ Rd E w (some a) xs ∧ ∀ x ∈ xs, p x := by
  have h' : ∀ i : Nat, ∃ x : α, i < len → p x ∧ ∀ c v, (E.enc x)[c]? = some v → w.cell? (a.add (i * E.k + c)) = some v := fun i => by
    by_cases hi : i < len
    · obtain ⟨x, hx⟩ := h i hi; exact ⟨x, fun _ => hx⟩
    · exact ⟨default, fun h => absurd h hi⟩
  obtain ⟨f, hf⟩ := Classical.axiomOfChoice h'
  have hlen : ((List.range len).map f).length = len := by simp
  refine ⟨(List.range len).map f, hlen, ⟨by rw [hlen]; exact hl, fun _ => ⟨a, rfl, fun j v hv => ?_⟩⟩, fun x hx => ?_⟩
  · have hj : j < len * E.k := by
      have := (List.getElem?_eq_some_iff.1 hv).1
      rwa [E.flat_length, hlen] at this
    have hi : j / E.k < len := Nat.div_lt_of_lt_mul (by rwa [Nat.mul_comm])
    have hm : j % E.k < E.k := Nat.mod_lt _ E.pos
    have hx : ((List.range len).map f)[j / E.k]'(by rw [hlen]; exact hi) = f (j / E.k) := by simp
    have h1 : (E.enc (((List.range len).map f)[j / E.k]'(by rw [hlen]; exact hi)))[j % E.k]? = some ((E.enc (f (j / E.k)))[j % E.k]'(by rw [E.len]; exact hm)) := by
      rw [hx]; exact List.getElem?_eq_getElem _
    have h2 := E.flat_get _ (j / E.k) (j % E.k) (by rw [hlen]; exact hi) _ h1
    have hd : j / E.k * E.k + j % E.k = j := Nat.div_add_mod' j E.k
    rw [hd, hv] at h2
    simp only [Option.some.injEq] at h2
    have h3 := (hf (j / E.k) hi).2 (j % E.k) v (by rw [h2]; exact List.getElem?_eq_getElem _)
    rwa [hd] at h3
  · obtain ⟨i, hi, rfl⟩ := List.mem_map.1 hx
    exact (hf i (List.mem_range.1 hi)).1
theorem openSl {α : Type} [Inhabited α] (E : Enc α) (p : α → Prop) {r : Reach} {b0 : Nat} {t e : TypeId} {v : Value} {d : DataW H} {pl : List MemPlace} (ht : P.underlying t = some (.slice e)) (hC : P.cellsOf e = E.k)
    (hel : ∀ n cs y, DataW.trod enc P w base spare held n e cs = some y → ∃ x : α, cs = E.enc x ∧ p x)
    (hv : Value.okWide P w r b0 t v) (h : DataW.Trod enc P w base spare held t v d pl) : ∃ (A : Option Addr) (c : Nat) (xs : List α), v = .slice A xs.length c ∧ Rd E w A xs ∧ ∀ x ∈ xs, p x := by
  obtain ⟨a, len, cap, rfl⟩ := okWide_slice ht hv
  obtain ⟨fuel, hf⟩ := h
  rcases open_slice ht hf with h0 | ⟨x, l, c, m, n, D, Pl, hcs, hb, hl, hm, hmm, hx, hi⟩
  · have h0 := h0.1
    simp [Value.cells] at h0
    obtain ⟨rfl, rfl, rfl⟩ := h0
    exact ⟨none, 0, [], rfl, Rd.nil _ _ _, by simp⟩
  · simp [Value.cells] at hcs
    obtain ⟨rfl, rfl, rfl⟩ := hcs
    obtain ⟨xs, hx, hR, hp⟩ := rdG_of_elems (E := E) (w := w) (a := x) (len := len) (p := p) (by simp only [maxLen] at hm; omega) (fun i hil => by
      have hlm : len ≤ m := by rw [hmm]; split <;> omega
      obtain ⟨cs', hc, ht'⟩ := hi i (by omega)
      obtain ⟨y, rfl, hpy⟩ := hel _ _ _ ht'
      obtain ⟨_, hcl, hat⟩ := World.cells?_some hc
      refine ⟨y, hpy, fun c v hcv => ?_⟩
      have hck : c < P.cellsOf e := by rw [hC, ← E.len y]; exact (List.getElem?_eq_some_iff.1 hcv).1
      rw [← hC, ← Go.Deep.add_add, hat c hck]
      exact hcv)
    exact ⟨some x, cap, xs, by rw [hx], hR, hp⟩
end
section
variable {H : Type} {enc : TypeId × Value → H} {w : World} {base : Nat} {spare : Nat → Bool} {held : Bool}
theorem intC {n : Nat} {cs : List Value} {y : DataW H × List MemPlace} (h : DataW.trod enc Try.prog w base spare held n 3 cs = some y) : ∃ k : Int, cs = [.int .i64 k] ∧ (Lit.int .i64 k).wf = true := by
  obtain ⟨k, hk, _, hw⟩ := DataW.trod_int Try.underlying3 h
  exact ⟨k, hk, hw⟩
theorem cellOne_of {cs : List Value} {i : Nat} {k : Int} (hi : i < cs.length) (h : (cs.drop i).take 1 = [.int .i64 k]) : cs[i]? = some (.int .i64 k) := by
  have h2 : (cs.drop i).take 1 = [cs[i]] := by rw [List.drop_eq_getElem_cons hi]; rfl
  rw [h2] at h
  simp only [List.cons.injEq, and_true] at h
  rw [List.getElem?_eq_getElem hi, h]
set_option maxRecDepth 100000 in
theorem msgC {n : Nat} {cs : List Value} {y : DataW H × List MemPlace} (h : DataW.trod enc Try.prog w base spare held n 23 cs = some y) : ∃ x : Msg, cs = x.cells := by
  obtain ⟨ys, n', _, _, hl, hyl, hf⟩ := DataW.trod_struct Try.underlying23 h
  have hl7 : cs.length = 7 := hl.trans (by kernel_rfl)
  have g : ∀ (i : Nat) (f : Field), (i < 7) → Try.prog.cellsOf 3 = 1 → f.offset = i → f.type = 3 → DataW.trod enc Try.prog w base spare held n' f.type ((cs.drop f.offset).take (Try.prog.cellsOf f.type)) = ys[i]? → (hyi : i < ys.length) → ∃ k : Int, cs[i]? = some (.int .i64 k) := fun i f hi hC ho ht hh hyi => by
    rw [ho, ht, hC, List.getElem?_eq_getElem hyi] at hh
    obtain ⟨k, hk, _⟩ := intC hh
    exact ⟨k, cellOne_of (by omega) hk⟩
  have hC : Try.prog.cellsOf 3 = 1 := by kernel_rfl
  have hy7 : ys.length = 7 := hyl.trans rfl
  obtain ⟨k0, h0⟩ := g 0 _ (by decide) hC rfl rfl (hf 0 _ rfl) (by omega)
  obtain ⟨k1, h1⟩ := g 1 _ (by decide) hC rfl rfl (hf 1 _ rfl) (by omega)
  obtain ⟨k2, h2⟩ := g 2 _ (by decide) hC rfl rfl (hf 2 _ rfl) (by omega)
  obtain ⟨k3, h3⟩ := g 3 _ (by decide) hC rfl rfl (hf 3 _ rfl) (by omega)
  obtain ⟨k4, h4⟩ := g 4 _ (by decide) hC rfl rfl (hf 4 _ rfl) (by omega)
  obtain ⟨k5, h5⟩ := g 5 _ (by decide) hC rfl rfl (hf 5 _ rfl) (by omega)
  obtain ⟨k6, h6⟩ := g 6 _ (by decide) hC rfl rfl (hf 6 _ rfl) (by omega)
  refine ⟨⟨k0, k1, k2, k3, k4, k5, k6⟩, ?_⟩
  match cs, hl7 with
  | [c0, c1, c2, c3, c4, c5, c6], _ =>
    simp only [List.getElem?_cons_zero, List.getElem?_cons_succ, Option.some.injEq] at h0 h1 h2 h3 h4 h5 h6
    subst h0 h1 h2 h3 h4 h5 h6
    rfl
set_option maxRecDepth 100000 in
theorem openSI {r : Reach} {b0 : Nat} {v : Value} {d : DataW H} {p : List MemPlace} (hv : Value.okWide Try.prog w r b0 93 v) (h : DataW.Trod enc Try.prog w base spare held 93 v d p) : ∃ (A : Option Addr) (c : Nat) (xs : List Int), v = .slice A xs.length c ∧ Rd EI w A xs ∧ ∀ x ∈ xs, (Lit.int .i64 x).wf = true :=
  openSl EI (fun x => (Lit.int .i64 x).wf = true) Try.underlying93 (by kernel_rfl) (fun n cs y h => intC h) hv h
end
end Go.Proofs.Ytgcnklnhambpjaa
/- A []uint8 argument opened as a list of natural numbers below 256; a []Message argument. -/
namespace Go.Proofs.Ytgcnklnhambpjaa
open Go.RowKit Go.ChangeShapes Go.WideShapes Go.Deep
def EU : Enc Nat := ⟨fun x => [.int .u8 x], 1, fun _ => rfl, fun x v h => by simp only [List.mem_cons, List.not_mem_nil, or_false] at h; rw [h]; rfl, by decide⟩
theorem U.at_ {w : World} {A : Option Addr} {xs : List Nat} (h : Rd EU w A xs) (i : Nat) (hi : i < xs.length) : ∃ ad, A = some ad ∧ w.cell? (ad.add i) = some (.int .u8 xs[i]) := by
  obtain ⟨ad, ha, hc⟩ := h.at_ i hi
  exact ⟨ad, ha, by simpa [EU] using hc 0 _ rfl⟩
section
variable {H : Type} {enc : TypeId × Value → H} {w : World} {base : Nat} {spare : Nat → Bool} {held : Bool}
theorem u8C {n : Nat} {cs : List Value} {y : DataW H × List MemPlace} (h : DataW.trod enc Try.prog w base spare held n 5 cs = some y) : ∃ k : Nat, cs = [.int .u8 k] ∧ k ≤ 255 := by
  obtain ⟨k, hk, _, hw⟩ := DataW.trod_int Try.underlying5 h
  have hb := bounds_u8 hw
  exact ⟨k.toNat, by rw [hk, show ((k.toNat : Nat) : Int) = k by omega], by omega⟩
set_option maxRecDepth 100000 in
theorem openSU {r : Reach} {b0 : Nat} {v : Value} {d : DataW H} {p : List MemPlace} (hv : Value.okWide Try.prog w r b0 54 v) (h : DataW.Trod enc Try.prog w base spare held 54 v d p) : ∃ (A : Option Addr) (c : Nat) (xs : List Nat), v = .slice A xs.length c ∧ Rd EU w A xs ∧ ∀ x ∈ xs, x ≤ 255 :=
  openSl EU (fun x => x ≤ 255) Try.underlying54 (by kernel_rfl) (fun n cs y h => u8C h) hv h
set_option maxRecDepth 100000 in
theorem openSMsgG {r : Reach} {b0 : Nat} {v : Value} {d : DataW H} {p : List MemPlace} (hv : Value.okWide Try.prog w r b0 24 v) (h : DataW.Trod enc Try.prog w base spare held 24 v d p) : ∃ (A : Option Addr) (c : Nat) (xs : List Msg), v = .slice A xs.length c ∧ Rd EMsg w A xs ∧ ∀ x ∈ xs, True :=
  openSl EMsg (fun _ => True) Try.underlying24 (by kernel_rfl) (fun n cs y h => by obtain ⟨x, hx⟩ := msgC h; exact ⟨x, hx, trivial⟩) hv h
end
end Go.Proofs.Ytgcnklnhambpjaa
