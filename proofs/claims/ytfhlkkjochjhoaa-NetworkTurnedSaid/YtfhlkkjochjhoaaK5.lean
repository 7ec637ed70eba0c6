/- Joined texts of the seat: contracts and plain laws that the rows import. -/
import Derived.Test.YtfhlkkjochjhoaaK4
import Derived.Test.YtfhlkkjochjhoaaK2
import Derived.Sort.Grow
import Derived.StillTailTactics
import Derived.Test.YtfhlkkjochjhoaaLaySort
import Derived.Shelf.SlSortCmp.NoneTotal
import Derived.BigRegion
import Derived.BigQuiet
import Derived.Deep.QuietTactic
import Derived.RegionTactic
import Derived.Deep.LoopGhost
import Derived.Outline
import Derived.Lib.SliceRun
set_option linter.unusedVariables false
set_option linter.unusedSimpArgs false
/- network.to: the envelopes that are delivered to a node. -/
namespace Go.Proofs.Ytfhlkkjochjhoaa
open Go.RowKit Go.Shelf
def toF (nd : Int) (pre : List (Int × Env)) : List Env := (pre.filter (fun x => decide (x.2.tt = nd))).map (·.2)
def dlvTo (l : List Env) (s : List Int) (nd : Int) : List Env := toF nd (dlv l s)
def toR (l : List Env) (s : List Int) (nd : Int) : List Env × Int := if askR l s ≠ 0 then ([], askR l s) else if nd < 1 ∨ nd > 99 then ([], 2) else (dlvTo l s nd, 0)
theorem ask_ok {l : List Env} {s : List Int} (h : askR l s = 0) : (netR l).2 = 0 ∧ s.length ≤ 256 ∧ ∀ i ∈ s, 0 ≤ i ∧ i < l.length := by
  unfold askR at h
  split at h
  · cases h
  · rename_i h1
    split at h
    · cases h
    · split at h
      · cases h
      · rename_i h2 h3
        refine ⟨by omega, by omega, fun i hi => ?_⟩
        have := List.any_eq_false.1 (by simpa using h3) i hi
        have := of_decide_eq_false (by simpa [outI] using this : decide (i < 0 ∨ (l.length : Int) ≤ i) = false)
        omega
/-- The box B holds a slice of its own: what is for node nd of what was delivered. -/
def ToI (n₀ B : Nat) (t e : TypeId) (nd : Int) (pre : List (Int × Env)) (W : World) : Prop :=
  ∃ v, Boxed W B t v ∧ W.ownsRow n₀ e 10 v (toF nd pre).length (EEnv.flat (toF nd pre)) ∧ True
theorem ToI_own (n₀ B : Nat) (t e : TypeId) (nd : Int) : Go.Own (fun pre W => ToI n₀ B t e nd pre W) :=
  holdsRow_own n₀ B t e 10 (fun pre => (toF nd pre).length) (fun pre => EEnv.flat (toF nd pre)) (fun _ _ => True)
theorem toF_len (nd : Int) (pre : List (Int × Env)) : (toF nd pre).length ≤ pre.length := by unfold toF; rw [List.length_map]; exact List.length_filter_le _ _
attribute [local go_sem] Oper.semAt_some
set_option maxRecDepth 100000 in
set_option maxHeartbeats 8000000 in
theorem to_ok (l : List Env) (s : List Int) (nd : Int) (A1 A2 : Option Addr) (c1 c2 : Nat) (w : World) (hR1 : Rd EEnv w A1 l) (hR2 : Rd EI w A2 s) (ha : askR l s = 0) (hn1 : 1 ≤ nd) (hn2 : nd ≤ 99) :
    Calls Try.prog 49 #[.slice A1 l.length c1, .slice A2 s.length c2, .int .i64 nd] w fun e w' => ∃ v, e = .returned (.tuple #[v, .int .i64 0]) ∧ Own EEnv 33 w' w.heap.size v (dlvTo l s nd) ∧ Below w.heap.size w w' := by
  obtain ⟨hr0, hs256, hv⟩ := ask_ok ha
  have hask := fun W (h : Below w.heap.size w W) => asked_any l s A1 A2 c1 c2 W (hR1.below h) (hR2.below h)
  rw [ha] at hask
  have hF53 : Fence.wide.fn 53 := trivial
  have hF69 : Fence.wide.fn 69 := trivial
  have HR1 := hid_of hR1
  have HR2 := hid_of hR2
  have HV := hid_of hv
  clear hR1 hR2 ha hr0 hv
  refine (callsIn_wide (n := 4)).1 ?_
  refine callsIn_of_wp_marks Try.func49 rfl trivial ?_ rfl
  simp only [Try.ntmps49, List.size_toArray, List.length_cons, List.length_nil, Nat.reduceAdd, Nat.reduceSub, Array.replicate_succ, Array.replicate_zero, List.push_toArray, List.append_toArray, List.nil_append, List.cons_append]
  gi_wp2_with fail
  refine (callsIn_wide.2 (hask _ ((Below.refl _ _).alloc (Nat.le_refl _) _))).mono ?_
  rintro e w1 ⟨rfl, hb⟩
  have hcell5 : w1.heap[w.heap.size]? = some (.cells #[.int .i64 nd] 3 (0, 0)) := (hb.block _ (by simp)).trans (blkN w _)
  have H5 := hid_of hcell5
  have HB := hid_of (below_then ((Below.refl _ _).alloc (Nat.le_refl _) _) (by simp) hb)
  have h5 := (blk_cell H5.out 0).trans (show _ = some (.int .i64 nd) from rfl)
  clear hask hb hcell5
  have hd1 : decide (nd < 1) = false := by simp; omega
  have hd2 : decide (99 < nd) = false := by simp; omega
  gi_wp2_with fail
  refine (dl_in _ _ trivial rfl A2 A1 s.length l.length c2 c1 _).mono ?_
  rintro e w' ⟨rfl, rfl⟩
  gi_wp2_with fail
  have bO := ((Boxed.new w1 22 (.slice none 0 0)).alloc (.cells #[.slice A1 l.length c1] 22)).alloc (.cells #[.slice A2 s.length c2] 23)
  have b2 := (Boxed.new (w1.alloc (.cells #[.slice none 0 0] 22)) 22 (.slice A1 l.length c1)).alloc (.cells #[.slice A2 s.length c2] 23)
  have b1 := Boxed.new ((w1.alloc (.cells #[.slice none 0 0] 22)).alloc (.cells #[.slice A1 l.length c1] 22)) 23 (.slice A2 s.length c2)
  simp only [World.size_alloc] at b1 b2
  have hnd : Boxed (((w1.alloc (.cells #[.slice none 0 0] 22)).alloc (.cells #[.slice A1 l.length c1] 22)).alloc (.cells #[.slice A2 s.length c2] 23)) w.heap.size 3 (.int .i64 nd) := blkA (blkA (blkA H5.out))
  have hwle := HB.out.size
  have hB0 : Below w.heap.size w (((w1.alloc (.cells #[.slice none 0 0] 22)).alloc (.cells #[.slice A1 l.length c1] 22)).alloc (.cells #[.slice A2 s.length c2] 23)) := ((HB.out.alloc hwle _).alloc (by simp; omega) _).alloc (by simp; omega) _
  have hsz : (((w1.alloc (.cells #[.slice none 0 0] 22)).alloc (.cells #[.slice A1 l.length c1] 22)).alloc (.cells #[.slice A2 s.length c2] 23)).heap.size = w1.heap.size + 3 := by simp
  obtain ⟨W0, hW0⟩ : ∃ W0, ((w1.alloc (.cells #[.slice none 0 0] 22)).alloc (.cells #[.slice A1 l.length c1] 22)).alloc (.cells #[.slice A2 s.length c2] 23) = W0 := ⟨_, rfl⟩
  rw [hW0] at bO b1 b2 hnd hB0 hsz ⊢
  clear hW0 h5
  have hlt5 : w.heap.size < w1.heap.size := (Array.getElem?_eq_some_iff.1 H5.out).1
  obtain ⟨i0, hi, hzz⟩ := Option.map_eq_some_iff.1 infoE
  simp only [Prod.mk.injEq] at hzz
  obtain ⟨hz0, hz1, hz2⟩ := hzz
  refine wpIn_rangeFunc_ownH rfl (by decide) (gf := 78) (lb := #[.pointer (some ⟨w1.heap.size + 1 + 1, 0, none⟩), .pointer (some ⟨w1.heap.size + 1, 0, none⟩)]) rfl trivial (enters_of Try.func78 (by kernel_rfl) rfl)
    (dl_stops Fence.wide (4 - 1) trivial rfl (by decide) (w1.heap.size + 1 + 1) (w1.heap.size + 1) l s A2 A1 c2 c1 w W0 HV.out HR2.out HR1.out hB0 b1.cell b2.cell) KpD.t (KpD.b (by omega) (by omega)) (Below.refl _ _) (fun _ => rfl)
    (fun pre W => (ToI w.heap.size w1.heap.size 22 33 nd pre W ∧ (Boxed W w.heap.size 3 (.int .i64 nd) ∧ Boxed W (w1.heap.size + 1) 22 (.slice A1 l.length c1) ∧ Boxed W (w1.heap.size + 1 + 1) 23 (.slice A2 s.length c2))) ∧ Below w.heap.size w W)
    (fun _ _ _ => False)
    (OwnFrom.and (OwnFrom.and (Go.Own.from (ToI_own w.heap.size w1.heap.size 22 33 nd) _) (OwnFrom.and (Go.Own.from (boxed_own _ _ _) _) (OwnFrom.and (Go.Own.from (boxed_own _ _ _) _) (Go.Own.from (boxed_own _ _ _) _)))) (ownFrom_below (Nat.le_refl _) (by omega)))
    (fun _ _ _ _ _ hs _ _ => hs)
    ⟨⟨⟨_, bO, World.ownsRow_nil _ _ _ _, trivial⟩, hnd, b2, b1⟩, hB0⟩
    (fun x a' W => ∃ Bx, w1.heap.size + 2 < Bx ∧ W.heap[Bx]? = some (.cells #[.int .i64 x.2.fr, .int .i64 x.2.tt, .int .i64 x.2.nu, .int .i64 x.2.m.mv, .int .i64 x.2.m.kd, .int .i64 x.2.m.nu, .int .i64 x.2.m.dy, .int .i64 x.2.m.fr, .int .i64 x.2.m.tt, .int .i64 x.2.m.al] 33 (0, 0)) ∧ a' = { tmps := #[.slice A1 l.length c1, .slice A2 s.length c2, .int .i64 nd, undef, undef, .pointer (some ⟨w.heap.size, 0, none⟩), .slice none 0 0, .int .i64 0, .int .i64 0, .pointer (some ⟨w1.heap.size, 0, none⟩), undef, .pointer (some ⟨Bx, 0, none⟩), .slice A1 l.length c1, .slice A2 s.length c2, .int .i64 0, .int .i64 0, .bool false, undef, .int .i64 nd, .bool false, .bool false, .int .i64 nd, .bool false, .bool false, .slice A1 l.length c1, .slice A2 s.length c2, .func (.func 78) #[] #[.pointer (some ⟨w1.heap.size + 1 + 1, 0, none⟩), .pointer (some ⟨w1.heap.size + 1, 0, none⟩)], .int .i64 x.1, x.2.v, undef, undef, undef, undef, undef, undef, undef, undef, undef], defers := [] })
    ?hax ?assign ?body ?done ?stop
  case hax =>
    rintro x a' _ X Y row ⟨Bx, h1, h2, h3⟩ hg hr
    exact ⟨Bx, h1, (hg.block Bx (Array.getElem?_eq_some_iff.1 h2).1 (fun e => by obtain ⟨_, o, ho, hc⟩ := hr Bx e.symm; rw [h2] at ho; cases ho; cases hc)).trans h2, h3⟩
  case assign =>
    rintro lp pre x W K ⟨⟨hT, hnd, hb2, hb1⟩, hB⟩ hK
    gi_wp2
    refine hK _ _ ((KeepsOthers.alloc _ _).from _) ⟨(Below.refl _ W).alloc hB.size _, fun v hv => cell_below ((Below.refl _ W).alloc (Nat.le_refl _) _) hv⟩ ⟨⟨(ToI_own _ _ _ _ _).from 0 |>.alloc _ hT, hnd.alloc _, hb2.alloc _, hb1.alloc _⟩, hB.alloc hB.size _⟩ ⟨W.heap.size, ?_, blkN W _, rfl⟩
    have := hb1.lt
    omega
  case body =>
    rintro lp pre x a' W hl ⟨r, hr⟩ ⟨⟨hT, hnd, hb2, hb1⟩, hB⟩ ⟨Bx, hBx, bX, rfl⟩ hlt
    have HT := hid_of hT
    obtain ⟨v, hv, hrow, _⟩ := hT
    have hc := hv.cell
    have hndc := hnd.cell
    have x0 := (blk_cell bX 0).trans (show _ = some (.int .i64 x.2.fr) from rfl)
    have x1 := (blk_cell bX 1).trans (show _ = some (.int .i64 x.2.tt) from rfl)
    have x2 := (blk_cell bX 2).trans (show _ = some (.int .i64 x.2.nu) from rfl)
    have x3 := (blk_cell bX 3).trans (show _ = some (.int .i64 x.2.m.mv) from rfl)
    have x4 := (blk_cell bX 4).trans (show _ = some (.int .i64 x.2.m.kd) from rfl)
    have x5 := (blk_cell bX 5).trans (show _ = some (.int .i64 x.2.m.nu) from rfl)
    have x6 := (blk_cell bX 6).trans (show _ = some (.int .i64 x.2.m.dy) from rfl)
    have x7 := (blk_cell bX 7).trans (show _ = some (.int .i64 x.2.m.fr) from rfl)
    have x8 := (blk_cell bX 8).trans (show _ = some (.int .i64 x.2.m.tt) from rfl)
    have x9 := (blk_cell bX 9).trans (show _ = some (.int .i64 x.2.m.al) from rfl)
    have hpl := toF_len nd pre
    by_cases ht : x.2.tt = nd
    · have hsn : toF nd (pre ++ [x]) = toF nd pre ++ [x.2] := by
        unfold toF
        rw [List.filter_append, List.map_append]; simp [ht]
      have ht2 : (x.2.tt == nd) = true := by simpa using ht
      gi_wp2_with (gi_at_builtin; refine wpListIn_append_own _ rfl _ _ 22 rfl w.heap.size 33 i0 _ 10 80 Try.underlying22 hi hz0 hz1 hz2 rfl (by decide) _ _ _ rfl (World.ownsRow.alloc hrow _) ⟨W.heap.size, 0, none⟩ 1 1 (EEnv.flat [x.2]) rfl ?qc1 ?qc2 ?qc3 ?qc4 ?qc5 ?qc6 ?_)
      case qc1 => exact EEnv.flat_length _
      case qc2 =>
        intro j u hj
        refine ((congrArg _ (addr_plain _ j)).trans (blk_cell (blkN _ _) j)).trans ?_
        simpa [Enc.flat, EEnv, Env.cells, ht] using hj
      case qc3 => exact EEnv.flat_one' _
      case qc4 => simp only [maxLen]; omega
      case qc5 => omega
      case qc6 => have := hB.size; simp; omega
      intro v' w2 hown' hgrow _
      obtain ⟨g', cap', rfl⟩ := ownsRow_succ hown'
      obtain ⟨hv1, hv2, hr2, hk2, hbb⟩ := hv.appended (by decide) hrow hB.size (Nat.le_of_lt hlt5) hown' hgrow
      have hc1 := hv1.cell
      have hf1 := hv1.frozen
      have n2 := (hnd.alloc _).kept hgrow (hnd.not_row (by decide) hrow)
      have n3 := (hb2.alloc _).kept hgrow (hb2.not_row (by decide) hrow)
      have n4 := (hb1.alloc _).kept hgrow (hb1.not_row (by decide) hrow)
      have n2' := fun u => n2.other (B' := w1.heap.size) (by omega) u
      have n3' := fun u => n3.other (B' := w1.heap.size) (by omega) u
      have n4' := fun u => n4.other (B' := w1.heap.size) (by omega) u
      have hnx := hsn
      clear hsn
      gi_wp2
      refine ⟨hk2.from _, ⟨hbb, fun u hu => ?_⟩, ⟨⟨_, hv2, ?_, trivial⟩, n2' _, n3' _, n4' _⟩, hB.trans hbb⟩
      · rw [hb2.cell] at hu
        rw [(n3' _).cell, hu]
      · rw [hnx, List.length_append, EEnv.flat_append]
        exact hr2
    · have hsn : toF nd (pre ++ [x]) = toF nd pre := by
        unfold toF
        rw [List.filter_append, List.map_append]; simp [ht]
      have ht2 : (x.2.tt == nd) = false := by simpa using ht
      have HSN := hid_of hsn
      clear hsn ht
      gi_wp2
      refine ⟨KeepsFrom.refl _ _, ⟨Below.refl _ _, fun u hu => hu⟩, ⟨?_, hnd, hb2, hb1⟩, hB⟩
      have := HT.out
      unfold ToI at this ⊢
      rw [HSN.out]
      exact this
  case done =>
    rintro D ys W hD rfl ⟨⟨hT, _, _⟩, hB⟩ hK
    obtain ⟨v, hv, hrow, _⟩ := hT
    have hc := hv.cell
    gi_wp2
    refine ⟨by simp, .inl ⟨_, _, rfl, run_takeDeferred hK, ?_⟩⟩
    exact ⟨_, results_tmp2 rfl _ _ _, v, rfl, ownsRow_putObj hrow _ hK rfl, hB.trans (belowK_b (w := w) (Nat.le_refl _) W D _ _ (by omega) hK rfl rfl)⟩
  case stop =>
    rintro D c pre W _ _ h _
    exact h.elim
end Go.Proofs.Ytfhlkkjochjhoaa
/- compare of messages. -/
namespace Go.Proofs.Ytfhlkkjochjhoaa
open Go.RowKit
def cmpM (x y : Msg) : Int := orI [cmpI x.mv y.mv, cmpI x.kd y.kd, cmpI x.nu y.nu, cmpI x.dy y.dy, cmpI x.fr y.fr, cmpI x.tt y.tt, cmpI x.al y.al]
theorem EI_flat (xs : List Int) : EI.flat xs = xs.map (fun x => Value.int .i64 x) := by
  show xs.flatMap (fun x => [Value.int .i64 x]) = _
  induction xs with
  | nil => rfl
  | cons x xs ih => rw [List.flatMap_cons, ih]; rfl
theorem blk_reads {w : World} {b : Nat} {cs : Array Value} {t : TypeId} {fr : Nat × Nat} (h : w.heap[b]? = some (.cells cs t fr)) (j : Nat) : w.cell? ⟨b, j, none⟩ = cs[j]? := by
  simp [World.cell?, h]
theorem rd_lit (w : World) (xs : List Int) (cs : Array Value) (t : TypeId) (hcs : cs = (xs.map (fun x => Value.int .i64 x)).toArray) (hl : xs.length ≤ 9223372036854775807) : Rd EI (w.alloc (.cells cs t)) (some ⟨w.heap.size, 0, none⟩) xs := by
  refine ⟨hl, fun _ => ⟨_, rfl, fun j v hv => ?_⟩⟩
  rw [EI_flat] at hv
  rw [addr_plain, blk_reads (heap_alloc_new w _), hcs]
  simpa using hv
theorem cmp_world (w W1 : World) (o1 o2 o3 : Obj) (h : (w.alloc o1).alloc o2 = W1) : ∃ q os, (W1.alloc o3).drew = Sort.grow (w.drewN q) os := by
  subst h
  exact ⟨1, #[o1, o2, o3], by simp only [Sort.alloc_eq_grow, Sort.grow_grow]; rfl⟩
set_option maxHeartbeats 4000000 in
set_option maxRecDepth 100000 in
theorem compareM_any (x y : Msg) (w : World) : Calls Try.prog 63 #[x.v, y.v] w fun e w' => e = .returned (.int .i64 (cmpM x y)) ∧ ∃ q os, w' = Sort.grow (w.drewN q) os := by
  have e58 := fun a b W => compareI_any a b W
  go_enter Try.func63, Try.ntmps63
  go_wp2
  generalize hW : (w.alloc _).alloc _ = W1
  have b0 : W1.heap[w.heap.size]? = some (.cells x.cells.toArray 31 (0, 0)) := by rw [← hW]; exact (Below.heap_alloc _ _ _ (by simp)).trans (heap_alloc_new w _)
  have b1 : W1.heap[w.heap.size + 1]? = some (.cells y.cells.toArray 31 (0, 0)) := by
    rw [← hW]
    have h1 : (w.alloc (.cells x.cells.toArray 31)).heap.size = w.heap.size + 1 := by simp
    rw [← h1]
    exact heap_alloc_new _ _
  have hx0 : W1.drew.cell? ⟨w.heap.size, 0, none⟩ = some (.int .i64 x.mv) := (blk_reads (w := W1.drew) b0 0).trans rfl
  have hx1 : W1.drew.cell? ⟨w.heap.size, 1, none⟩ = some (.int .i64 x.kd) := (blk_reads (w := W1.drew) b0 1).trans rfl
  have hx2 : W1.drew.cell? ⟨w.heap.size, 2, none⟩ = some (.int .i64 x.nu) := (blk_reads (w := W1.drew) b0 2).trans rfl
  have hx3 : W1.drew.cell? ⟨w.heap.size, 3, none⟩ = some (.int .i64 x.dy) := (blk_reads (w := W1.drew) b0 3).trans rfl
  have hx4 : W1.drew.cell? ⟨w.heap.size, 4, none⟩ = some (.int .i64 x.fr) := (blk_reads (w := W1.drew) b0 4).trans rfl
  have hx5 : W1.drew.cell? ⟨w.heap.size, 5, none⟩ = some (.int .i64 x.tt) := (blk_reads (w := W1.drew) b0 5).trans rfl
  have hx6 : W1.drew.cell? ⟨w.heap.size, 6, none⟩ = some (.int .i64 x.al) := (blk_reads (w := W1.drew) b0 6).trans rfl
  have hy0 : W1.drew.cell? ⟨w.heap.size + 1, 0, none⟩ = some (.int .i64 y.mv) := (blk_reads (w := W1.drew) b1 0).trans rfl
  have hy1 : W1.drew.cell? ⟨w.heap.size + 1, 1, none⟩ = some (.int .i64 y.kd) := (blk_reads (w := W1.drew) b1 1).trans rfl
  have hy2 : W1.drew.cell? ⟨w.heap.size + 1, 2, none⟩ = some (.int .i64 y.nu) := (blk_reads (w := W1.drew) b1 2).trans rfl
  have hy3 : W1.drew.cell? ⟨w.heap.size + 1, 3, none⟩ = some (.int .i64 y.dy) := (blk_reads (w := W1.drew) b1 3).trans rfl
  have hy4 : W1.drew.cell? ⟨w.heap.size + 1, 4, none⟩ = some (.int .i64 y.fr) := (blk_reads (w := W1.drew) b1 4).trans rfl
  have hy5 : W1.drew.cell? ⟨w.heap.size + 1, 5, none⟩ = some (.int .i64 y.tt) := (blk_reads (w := W1.drew) b1 5).trans rfl
  have hy6 : W1.drew.cell? ⟨w.heap.size + 1, 6, none⟩ = some (.int .i64 y.al) := (blk_reads (w := W1.drew) b1 6).trans rfl
  have HW := hid_of hW
  clear hW b0 b1
  refine wp_region_still_tail 35 (by kernel_rfl) (by kernel_rfl) ?_
  simp only [List.take_succ_cons, List.take_zero, List.drop_succ_cons, List.drop_zero]
  repeat (first | still_step | still_call ((e58 _ _ _).mono fun _ _ h => ⟨h.1, h.2.symm⟩))
  refine wpStill_nil ?_
  clear hx0 hx1 hx2 hx3 hx4 hx5 hx6 hy0 hy1 hy2 hy3 hy4 hy5 hy6 e58
  go_wp2_with (go_at_call 76; (refine (or_any [cmpI x.mv y.mv, cmpI x.kd y.kd, cmpI x.nu y.nu, cmpI x.dy y.dy, cmpI x.fr y.fr, cmpI x.tt y.tt, cmpI x.al y.al] _ _ _ (rd_lit _ _ _ _ rfl (by simp)).drew).mono ?_; rintro e w' ⟨rfl, rfl⟩))
  go_ret
  exact ⟨ret_i rfl, cmp_world _ _ _ _ _ HW.out⟩
end Go.Proofs.Ytfhlkkjochjhoaa
/- slices.SortFunc of messages by compare, on a row of the call's own: the row is sorted. -/
namespace Go.Proofs.Ytfhlkkjochjhoaa
open Go.RowKit Go.Sort Go.Shelf
theorem isAggM : ∀ w, (isAgg 31).run Try.prog w = .ok true w := Try.isAgg31
theorem sizeOfM : ∀ w, (Go.sizeOf 31).run Try.prog w = .ok 7 w := Try.sizeOf31
theorem cmpI_neg (x y : Int) : (cmpI x y < 0) ↔ x < y := by unfold cmpI; split <;> (try split) <;> omega
theorem cmpI_zero (x y : Int) : (cmpI x y = 0) ↔ x = y := by unfold cmpI; split <;> (try split) <;> omega
theorem cmpLaysM (blk off size : Nat) (w : World) : CmpLays Try.prog 63 #[] EMsg.enc 7 cmpM blk off size w :=
  fun _ _ _ _ x y => compareM_any x y _

section
variable {α : Type} [Inhabited α]
theorem flatK_flat (E : Enc α) (xs : List α) : (flatK E.enc E.k xs.toArray).toList = E.flat xs := by
  apply List.ext_getElem?
  intro t
  by_cases ht : t < xs.length * E.k
  · have hk := E.pos
    have hi : t / E.k < xs.length := Nat.div_lt_of_lt_mul (by rwa [Nat.mul_comm])
    have hm : t % E.k < E.k := Nat.mod_lt _ hk
    have h1 : (E.enc xs[t / E.k])[t % E.k]? = some ((E.enc xs[t / E.k])[t % E.k]'(by rw [E.len]; exact hm)) := List.getElem?_eq_getElem _
    have h2 := E.flat_get xs (t / E.k) (t % E.k) hi _ h1
    rw [Nat.div_add_mod'] at h2
    rw [h2, Array.getElem?_toList]
    simp [flatK, ht, hi, E.len, hm]
  · rw [List.getElem?_eq_none (by simp [flatK]; omega), List.getElem?_eq_none (by rw [E.flat_length]; omega)]
theorem Row.holds {E : Enc α} {t : TypeId} {w : World} {g cap : Nat} {xs : List α} (h : Row E t w g cap xs) : HoldsK E.enc E.k w g 0 xs.toArray := by
  intro j hj
  have hrd := h.rd
  have hj' : j < xs.length * E.k := by simpa using hj
  have hpos : 0 < xs.length := by
    rcases Nat.eq_zero_or_pos xs.length with h0 | h0
    · rw [h0] at hj'; omega
    · exact h0
  obtain ⟨ad, had, hc⟩ := hrd.2 hpos
  cases had
  refine ⟨?_, h.frozen _⟩
  have hv : (E.flat xs)[j]? = some ((flatK E.enc E.k xs.toArray)[j]!) := by
    rw [← flatK_flat, Array.getElem?_toList, getElem!_pos (flatK E.enc E.k xs.toArray) j hj]
    exact Array.getElem?_eq_getElem hj
  have := hc j _ hv
  rw [addr_plain] at this
  rw [Nat.zero_add]
  exact this
theorem putCells_take (F cur : Array Value) (hs : F.size ≤ cur.size) : (putCells id 0 F cur).size = cur.size ∧ (putCells id 0 F cur).toList.take F.size = F.toList := by
  refine ⟨by simp [putCells], ?_⟩
  apply List.ext_getElem?
  intro j
  rw [List.getElem?_take]
  by_cases hj : j < F.size
  · rw [if_pos hj, Array.getElem?_toList, Array.getElem?_toList]
    simp only [putCells, Array.getElem?_mapIdx, Array.getElem?_eq_getElem (show j < cur.size by omega), Option.map_some]
    rw [if_pos ⟨by omega, by omega⟩, Array.getElem?_eq_getElem hj]
    simp [hj]
  · rw [if_neg hj, List.getElem?_eq_none (by simpa using hj)]
theorem Row.sorted {E : Enc α} {t : TypeId} {w : World} {g cap : Nat} {xs ys : List α} (h : Row E t w g cap xs) (hl : ys.length = xs.length) (n : Nat) (os : Array Obj) :
    Row E t (sortWorldK E.enc E.k w g 0 n ys.toArray os) g cap ys ∧ w.grownBy (sortWorldK E.enc E.k w g 0 n ys.toArray os) (some g) := by
  have hlt := h.lt
  obtain ⟨cur, hg, hcs, hcm, hnc, htake⟩ := h
  have hb : ys.length * E.k ≤ cap * E.k := Nat.mul_le_mul_right _ (by omega)
  obtain ⟨h1, h2⟩ := putCells_take (flatK E.enc E.k ys.toArray) cur (by simp; omega)
  have hm : (putRow id (Sort.ahead w n) g 0 (flatK E.enc E.k ys.toArray)).heap[g]? = some (.cells (putCells id 0 (flatK E.enc E.k ys.toArray) cur) t (0, 0)) := by
    show (w.heap.modify g _)[g]? = _
    rw [Array.getElem?_modify, if_pos rfl, hg]
    rfl
  have hsz : g < (putRow id (Sort.ahead w n) g 0 (flatK E.enc E.k ys.toArray)).heap.size := (Array.getElem?_eq_some_iff.1 hm).1
  refine ⟨⟨putCells id 0 (flatK E.enc E.k ys.toArray) cur, (heap_grow_old _ os hsz).trans hm, by rw [h1, hcs], hcm, by omega, ?_⟩, ⟨rfl, rfl, rfl, ?_, ?_⟩⟩
  · rw [← flatK_flat, ← h2]; simp
  · show w.heap.size ≤ ((w.heap.modify g _) ++ os).size
    simp
  · intro k hk hne
    have hk2 : k < (putRow id (Sort.ahead w n) g 0 (flatK E.enc E.k ys.toArray)).heap.size := by show k < (w.heap.modify g _).size; simpa using hk
    refine (heap_grow_old _ os hk2).trans ?_
    show (w.heap.modify g _)[k]? = _
    rw [Array.getElem?_modify, if_neg (fun e => hne (by rw [e]))]
end
/-- Not behind. -/
def leM (x y : Msg) : Bool := !decide (cmpM y x < 0)
theorem cmpM_neg (x y : Msg) : cmpM x y < 0 ↔ (x.mv < y.mv ∨ (x.mv = y.mv ∧ (x.kd < y.kd ∨ (x.kd = y.kd ∧ (x.nu < y.nu ∨ (x.nu = y.nu ∧ (x.dy < y.dy ∨ (x.dy = y.dy ∧ (x.fr < y.fr ∨ (x.fr = y.fr ∧ (x.tt < y.tt ∨ (x.tt = y.tt ∧ x.al < y.al)))))))))))) := by
  unfold cmpM orI
  have step : ∀ (a b : Int) (l : List Int) (r : Prop), ((match l.find? (fun x => x != 0) with | some x => x | none => (0 : Int)) < 0 ↔ r) → ((match (cmpI a b :: l).find? (fun x => x != 0) with | some x => x | none => (0 : Int)) < 0 ↔ (a < b ∨ (a = b ∧ r))) := by
    intro a b l r h
    by_cases he : a = b
    · have : cmpI a b = 0 := (cmpI_zero a b).2 he
      rw [List.find?_cons_of_neg (by simp [this]), h]
      constructor
      · intro h; exact .inr ⟨he, h⟩
      · rintro (h | h)
        · omega
        · exact h.2
    · have : cmpI a b ≠ 0 := fun h => he ((cmpI_zero a b).1 h)
      rw [List.find?_cons_of_pos (by simpa using this)]
      show cmpI a b < 0 ↔ _
      rw [cmpI_neg]
      constructor
      · intro h; exact .inl h
      · rintro (h | h)
        · exact h
        · exact absurd h.1 he
  refine step _ _ _ _ (step _ _ _ _ (step _ _ _ _ (step _ _ _ _ (step _ _ _ _ (step _ _ _ _ ?_)))))
  refine (step _ _ [] False ?_).trans ?_
  · simp
  · simp
theorem swoM : SWO (ltOf cmpM) where
  irrefl x := by simp only [ltOf, decide_eq_false_iff_not, cmpM_neg]; omega
  trans x y z h1 h2 := by simp only [ltOf, decide_eq_true_eq, cmpM_neg] at *; omega
  ntrans x y z h1 h2 := by simp only [ltOf, decide_eq_false_iff_not, cmpM_neg] at *; omega
theorem totM (x y : Msg) (h1 : ltOf cmpM x y = false) (h2 : ltOf cmpM y x = false) : x = y := by
  simp only [ltOf, decide_eq_false_iff_not, cmpM_neg] at h1 h2
  obtain ⟨a0, a1, a2, a3, a4, a5, a6⟩ := x
  obtain ⟨b0, b1, b2, b3, b4, b5, b6⟩ := y
  simp only [Msg.mk.injEq]
  dsimp only at h1 h2
  omega
theorem sortM (xs : List Msg) (g cap : Nat) (w : World) (hO : Row EMsg 31 w g cap xs) (hl : xs.length < 4611686018427387904) :
    Calls Try.prog 62 #[.slice (some ⟨g, 0, none⟩) xs.length cap, .func (.func 63) #[] #[]] w fun e w' => e = .returned (.tuple #[]) ∧ Row EMsg 31 w' g cap (xs.mergeSort leM) ∧ w.grownBy w' (some g) := by
  have eg : ∀ args w, (callFunc 63 args).run Try.prog w = .ok (.enter 63 args) w := enters_of Try.func63 (by kernel_rfl) rfl
  have hcon := AnyQ.slices_SortFunc_total sortMsg 7 isAggM sizeOfM EMsg.enc EMsg.len EMsg.one cmpM swoM 63 #[] g 0 cap xs.toArray w eg (cmpLaysM g 0 _ w) hO.holds hO.lt (by simpa using hl) totM
  refine Calls.mono (show Calls Try.prog 62 _ _ _ from hcon) ?_
  rintro e w' ⟨he, n, os, rfl⟩
  have hs := hO.sorted (ys := xs.mergeSort leM) (by simp) n os
  exact ⟨he, hs.1, hs.2⟩
theorem sortM_none (A : Option Addr) (c : Nat) (fv : Value) (w : World) : Calls Try.prog 62 #[.slice A 0 c, fv] w fun e w' => e = .returned (.tuple #[]) ∧ w' = w :=
  AnyF.slices_SortFunc_none { sortMsg with } A c fv w
end Go.Proofs.Ytfhlkkjochjhoaa
/- Runs of equal elements become one: plain lists. -/
namespace Go.Proofs.Ytfhlkkjochjhoaa
variable {α : Type} [DecidableEq α]
def comp (l : List α) : List α := l.foldl (fun acc x => if acc.getLast? = some x then acc else acc ++ [x]) []
theorem comp_snoc (l : List α) (x : α) : comp (l ++ [x]) = if (comp l).getLast? = some x then comp l else comp l ++ [x] := by
  unfold comp
  rw [List.foldl_append]
  rfl
theorem comp_last (l : List α) : (comp l).getLast? = l.getLast? := by
  rcases List.eq_nil_or_concat l with rfl | ⟨l', x, rfl⟩
  · rfl
  · rw [List.concat_eq_append, comp_snoc]
    split
    · rename_i h; rw [h]; simp
    · simp
theorem comp_length_le (l : List α) : (comp l).length ≤ l.length := by
  suffices h : ∀ n, ∀ l : List α, l.length = n → (comp l).length ≤ l.length from h _ l rfl
  intro n
  induction n with
  | zero => intro l h; rw [List.eq_nil_of_length_eq_zero h]; simp [comp]
  | succ n ih =>
    intro l h
    rcases List.eq_nil_or_concat l with rfl | ⟨l', x, rfl⟩
    · simp at h
    · have := ih l' (by simpa using h)
      rw [List.concat_eq_append, comp_snoc]
      split <;> simp <;> omega
theorem comp_take_eq (l : List α) (m : Nat) (h0 : 0 < m) (hm : m < l.length) (h : l[m] = l[m - 1]) : comp (l.take (m + 1)) = comp (l.take m) := by
  rw [List.take_succ_eq_append_getElem hm, comp_snoc, if_pos]
  rw [comp_last, List.getLast?_eq_getElem?, h, List.getElem?_take]
  have : (l.take m).length = m := by rw [List.length_take]; omega
  rw [this, if_pos (by omega), List.getElem?_eq_getElem]
theorem comp_take_ne (l : List α) (m : Nat) (h0 : 0 < m) (hm : m < l.length) (h : l[m] ≠ l[m - 1]) : comp (l.take (m + 1)) = comp (l.take m) ++ [l[m]] := by
  rw [List.take_succ_eq_append_getElem hm, comp_snoc, if_neg]
  rw [comp_last, List.getLast?_eq_getElem?, List.getElem?_take]
  have : (l.take m).length = m := by rw [List.length_take]; omega
  rw [this, if_pos (by omega), List.getElem?_eq_getElem]
  · intro e
    injection e with e
    exact h e.symm
  · omega
theorem comp_take_all (l : List α) (m : Nat) (hm : m ≤ l.length) (h : ∀ j, 0 < j → (hj : j < m) → l[j] ≠ l[j - 1]) : comp (l.take m) = l.take m := by
  induction m with
  | zero => simp [comp]
  | succ m ih =>
    have ih := ih (by omega) (fun j h0 hj => h j h0 (by omega))
    rcases Nat.eq_zero_or_pos m with rfl | h0
    · rw [List.take_succ_eq_append_getElem hm, comp_snoc]; simp [comp]
    · rw [comp_take_ne l m h0 hm (h m h0 (by omega)), ih, List.take_succ_eq_append_getElem hm]
theorem comp_one (l : List α) (h : l.length < 2) : comp l = l := by
  match l, h with
  | [], _ => rfl
  | [x], _ => simp [comp]
/-- What holds behind m elements: kk of them are kept, and stand in front; from m - 1 on all is as it was. -/
structure CInv (xs dk : List α) (m kk : Nat) : Prop where
  len : dk.length = xs.length
  m0 : 0 < m
  mle : m ≤ xs.length
  hk : kk = (comp (xs.take m)).length
  lt : kk < m
  front : dk.take kk = comp (xs.take m)
  high : ∀ j, m - 1 ≤ j → dk[j]? = xs[j]?
theorem CInv.start {xs : List α} {k : Nat} (h0 : 0 < k) (hk : k < xs.length) (ha : ∀ j, 0 < j → (hj : j < k) → xs[j] ≠ xs[j - 1]) (he : xs[k] = xs[k - 1]) : CInv xs xs (k + 1) k := by
  have h1 : comp (xs.take (k + 1)) = xs.take k := by rw [comp_take_eq xs k h0 hk he, comp_take_all xs k (by omega) ha]
  exact ⟨rfl, by omega, hk, by rw [h1, List.length_take]; omega, by omega, h1.symm, fun _ _ => rfl⟩
theorem CInv.skip {xs dk : List α} {m kk : Nat} (h : CInv xs dk m kk) (hm : m < xs.length) (he : xs[m] = xs[m - 1]'(by omega)) : CInv xs dk (m + 1) kk := by
  have e := comp_take_eq xs m h.m0 hm he
  exact ⟨h.len, by omega, hm, by rw [e]; exact h.hk, by have := h.lt; omega, by rw [e]; exact h.front, fun j hj => h.high j (by omega)⟩
theorem CInv.keep {xs dk : List α} {m kk : Nat} (h : CInv xs dk m kk) (hm : m < xs.length) (he : xs[m] ≠ xs[m - 1]'(by omega)) : CInv xs (dk.set kk xs[m]) (m + 1) (kk + 1) := by
  have e := comp_take_ne xs m h.m0 hm he
  have hlt := h.lt
  have hlen := h.len
  refine ⟨by simp [hlen], by omega, hm, by rw [e]; simp [← h.hk], by omega, ?_, fun j hj => ?_⟩
  · rw [e, ← h.front, List.set_eq_take_append_cons_drop, if_pos (by omega), List.take_append, List.take_of_length_le (by simp; omega)]
    have : kk + 1 - (dk.take kk).length = 1 := by rw [List.length_take]; omega
    rw [this]; rfl
  · rw [List.getElem?_set, if_neg (by omega)]
    exact h.high j (by omega)
theorem CInv.done {xs dk : List α} {kk : Nat} (h : CInv xs dk xs.length kk) : dk.take kk = comp xs ∧ kk = (comp xs).length ∧ kk < xs.length := by
  have h1 := h.front
  have h2 := h.hk
  have h3 := h.lt
  rw [List.take_of_length_le (Nat.le_refl _)] at h1 h2
  exact ⟨h1, h2, h3⟩
end Go.Proofs.Ytfhlkkjochjhoaa
/- slices.Compact of messages, on a row of the call's own. -/
namespace Go.Proofs.Ytfhlkkjochjhoaa
open Go.RowKit
attribute [local go_sem high] eqMsg
theorem EMsg_zero : ∀ v ∈ (Value.agg #[.int .i64 0, .int .i64 0, .int .i64 0, .int .i64 0, .int .i64 0, .int .i64 0, .int .i64 0]).cells, v.oneCell' = true := by decide
set_option maxHeartbeats 4000000 in
set_option maxRecDepth 100000 in
theorem compactM (xs : List Msg) (g cap : Nat) (w : World) (hO : Row EMsg 31 w g cap xs) :
    Calls Try.prog 64 #[.slice (some ⟨g, 0, none⟩) xs.length cap] w fun e w' => e = .returned (.slice (some ⟨g, 0, none⟩) (comp xs).length cap) ∧ Row EMsg 31 w' g cap (comp xs) ∧ w.grownBy w' (some g) := by
  have hle := hO.le
  have hcl := hO.cap_le
  by_cases h2 : xs.length < 2
  · have HO := hid_of hO
    clear hO
    go_enter Try.func64, Try.ntmps64
    go_wp2
    go_ret
    rw [comp_one xs h2]
    exact ⟨rfl, HO.out, World.grownBy.refl _ _⟩
  · have HO := hid_of hO
    clear hO
    go_enter Try.func64, Try.ntmps64
    go_wp2
    go_loopg [3] xs.length (fun gg s3 wr => ∃ k q : Nat, 1 ≤ k ∧ k ≤ xs.length ∧ xs.length - k ≤ gg ∧ s3 = .int .i64 k ∧ wr = w.drewN q ∧ Hid (∀ j, 0 < j → (hj : j < xs.length) → j < k → xs[j] ≠ xs[j - 1]))
    case atStart => exact ⟨1, 0, Nat.le_refl _, by omega, by omega, rfl, rfl, fun j h0 _ hj => by omega⟩
    case round =>
      obtain ⟨k, q, hk1, hk, hg, rfl, rfl, HA⟩ := hrel
      by_cases hlt : k < xs.length
      · obtain ⟨ad, had, c0, c1, c2, c3, c4, c5, c6⟩ := Msg.at_ HO.out.rd k hlt
        obtain ⟨ad', had', d0, d1, d2, d3, d4, d5, d6⟩ := Msg.at_ HO.out.rd (k - 1) (by omega)
        cases had
        cases had'
        simp only [addr_plain] at c0 c1 c2 c3 c4 c5 c6 d0 d1 d2 d3 d4 d5 d6
        generalize hx : xs[k] = x at c0 c1 c2 c3 c4 c5 c6
        generalize hy : xs[k - 1] = y at d0 d1 d2 d3 d4 d5 d6
        have HX : Hid (xs[k] = x ∧ xs[k - 1]'(by omega) = y) := ⟨hx, hy⟩
        clear hx hy
        by_cases hxy : x = y
        · have hd : decide (x = y) = true := by simpa using hxy
          subst hxy
          clear hd
          go_wp2_with fail
          go_quiet (fail)
          go_wp2
          clear c0 c1 c2 c3 c4 c5 c6 d0 d1 d2 d3 d4 d5 d6
          have HI := hid_of (CInv.start (xs := xs) (by omega) hlt (fun j h0 hj => HA.out j h0 (by omega) hj) (HX.out.1.trans HX.out.2.symm))
          go_loopg [3, 5] xs.length (fun gg s3 s5 wr => ∃ (kk k2 : Nat) (dk : List Msg), s3 = .int .i64 kk ∧ s5 = .int .i64 k2 ∧ 1 ≤ k2 ∧ k + k2 ≤ xs.length ∧ xs.length - (k + k2) ≤ gg ∧ Hid (Row EMsg 31 wr g cap dk) ∧ Hid (w.grownBy wr (some g)) ∧ Hid (CInv xs dk (k + k2) kk))
          case atStart => exact ⟨k, 1, xs, rfl, rfl, Nat.le_refl _, by omega, by omega, HO.out.drewN _, ⟨rfl, rfl, rfl, Nat.le_refl _, fun _ _ _ => rfl⟩, HI.out⟩
          case round =>
            obtain ⟨kk, k2, dk, rfl, rfl, h1, hle2, hg2, HR, HG, HI2⟩ := hrel
            have hkk := HI2.out.lt
            have hl1 : dk.length ≤ xs.length := by rw [HI2.out.len]; exact Nat.le_refl _
            have hl2 : xs.length ≤ dk.length := by rw [HI2.out.len]; exact Nat.le_refl _
            by_cases hlt2 : k + k2 < xs.length
            · obtain ⟨ad, had, c0, c1, c2, c3, c4, c5, c6⟩ := Msg.at_ HR.out.rd (k + k2) (by omega)
              obtain ⟨ad', had', d0, d1, d2, d3, d4, d5, d6⟩ := Msg.at_ HR.out.rd (k + k2 - 1) (by omega)
              obtain ⟨ad'', had'', e0, e1, e2, e3, e4, e5, e6⟩ := Msg.at_ HR.out.rd kk (by omega)
              cases had
              cases had'
              cases had''
              have hfz := fun j => HR.out.frozen j
              simp only [addr_plain] at c0 c1 c2 c3 c4 c5 c6 d0 d1 d2 d3 d4 d5 d6 e0 e1 e2 e3 e4 e5 e6
              have q1 : (k + k2) * 7 = k * 7 + k2 * 7 := by omega
              have q2 : (k + k2 - 1) * 7 = k * 7 + (k2 - 1) * 7 := by omega
              rw [q1] at c0 c1 c2 c3 c4 c5 c6
              rw [q2] at d0 d1 d2 d3 d4 d5 d6
              clear q1 q2
              have hu0 : dk[k + k2]'(by omega) = xs[k + k2] := by
                have := HI2.out.high (k + k2) (by omega)
                rwa [List.getElem?_eq_getElem (by omega), List.getElem?_eq_getElem hlt2, Option.some.injEq] at this
              have hv0 : dk[k + k2 - 1]'(by omega) = xs[k + k2 - 1] := by
                have := HI2.out.high (k + k2 - 1) (by omega)
                rwa [List.getElem?_eq_getElem (by omega), List.getElem?_eq_getElem (by omega), Option.some.injEq] at this
              rw [hu0] at c0 c1 c2 c3 c4 c5 c6
              rw [hv0] at d0 d1 d2 d3 d4 d5 d6
              clear hu0 hv0
              generalize hu : xs[k + k2] = u at c0 c1 c2 c3 c4 c5 c6
              generalize hv : xs[k + k2 - 1] = v at d0 d1 d2 d3 d4 d5 d6
              generalize dk[kk] = old at e0 e1 e2 e3 e4 e5 e6
              have HC := hid_of hu
              have HD := hid_of hv
              clear hu hv
              by_cases huv : u = v
              · subst huv
                clear e0 e1 e2 e3 e4 e5 e6 hfz
                go_wp2_with fail
                go_quiet (fail)
                go_wp2
                go_roundg (xs.length - (k + (k2 + 1)))
                case measure => omega
                case rel => exact ⟨kk, k2 + 1, dk, rfl, by go_num, by omega, by omega, Nat.le_refl _, HR.out.drewN _, World.grownBy.trans HG.out ⟨rfl, rfl, rfl, Nat.le_refl _, fun _ _ _ => rfl⟩, HI2.out.skip hlt2 (HC.out.trans HD.out.symm)⟩
              · have hd : decide (u = v) = false := by simpa using huv
                have HUV := hid_of huv
                clear huv
                go_wp2_with fail
                go_quiet (fail)
                go_wp2
                go_roundg (xs.length - (k + (k2 + 1)))
                case measure => omega
                case rel =>
                  have hs := (HR.out.drewN nq).set kk (by omega) u
                  refine ⟨kk + 1, k2 + 1, dk.set kk u, by go_num, by go_num, by omega, by omega, Nat.le_refl _, hs.1, World.grownBy.trans HG.out (World.grownBy.trans (b := wr.drewN nq) ⟨rfl, rfl, rfl, Nat.le_refl _, fun _ _ _ => rfl⟩ hs.2), ?_⟩
                  have hc := HI2.out.keep hlt2 (by rw [HC.out, HD.out]; exact HUV.out)
                  rw [HC.out] at hc
                  exact hc
            · have hend : k + k2 = xs.length := by omega
              obtain ⟨w2, hcl2, hrow, hgr⟩ := HR.out.clear kk (xs.length - kk) (cap - kk) Try.underlying37 Try.zeroValue31 rfl EMsg_zero (by omega) (by omega)
              have hcl3 : ∀ ty, (Builtin.clear_ #[37] ty #[.slice (some ⟨g, kk * 7, none⟩) (xs.length - kk) (cap - kk)]).run Try.prog wr = .ok (.tuple #[]) w2 := hcl2
              have HH := hid_of hend
              have HRow := hid_of hrow
              have HGr := hid_of hgr
              clear hcl2 hrow hgr hend
              go_wp2
              go_ret
              have hd := HI2.out
              rw [HH.out] at hd
              obtain ⟨e1, e2, e3⟩ := hd.done
              have hr := HRow.out
              rw [e1] at hr
              rw [← e2]
              exact ⟨rfl, hr, World.grownBy.trans HG.out HGr.out⟩
        · have hd : decide (x = y) = false := by simpa using hxy
          have HXY := hid_of hxy
          clear hxy
          go_wp2_with fail
          go_quiet (fail)
          go_wp2
          go_roundg (xs.length - (k + 1))
          case measure => omega
          case rel =>
            refine ⟨k + 1, q + nq, by omega, by omega, Nat.le_refl _, by go_num, rfl, (show Hid _ from fun j h0 hj hjk => ?_)⟩
            by_cases e : j = k
            · subst e
              rw [HX.out.1, HX.out.2]
              exact HXY.out
            · exact HA.out j h0 hj (by omega)
      · have : k = xs.length := by omega
        subst this
        go_wp2
        go_ret
        have hall : comp xs = xs := by
          have := comp_take_all xs xs.length (Nat.le_refl _) (fun j h0 hj => HA.out j h0 hj hj)
          rwa [List.take_of_length_le (Nat.le_refl _)] at this
        rw [hall]
        exact ⟨rfl, HO.out.drewN _, ⟨rfl, rfl, rfl, Nat.le_refl _, fun _ _ _ => rfl⟩⟩
end Go.Proofs.Ytfhlkkjochjhoaa
/- slices.Clone of messages. -/
namespace Go.Proofs.Ytfhlkkjochjhoaa
open Go.RowKit
theorem infoM : (Try.prog.info? 31).map (fun i => (i.zero, i.size, i.bytes)) = some (some (.agg #[.int .i64 0, .int .i64 0, .int .i64 0, .int .i64 0, .int .i64 0, .int .i64 0, .int .i64 0]), 7, 56) := by kernel_rfl
set_option maxHeartbeats 2000000 in
theorem cloneM (xs : List Msg) (A : Option Addr) (c : Nat) (w : World) (hR : Rd EMsg w A xs) (hl : xs.length * 56 ≤ 140737488355328) :
    Calls Try.prog 39 #[.slice A xs.length c] w (Made EMsg 31 xs w) := by
  have hq : ∀ (w : World) (a : Option Addr) (n c n' c' : Nat), (binOp .eql 37 (.slice a n c) (.slice none n' c')).run Try.prog w = .ok (.bool a.isNone) w := fun w a n c n' c' => Lib.run_eql_slice_nil w _ _ a n c n' c' Try.underlying37
  obtain ⟨i0, hi, hzz⟩ := Option.map_eq_some_iff.1 infoM
  simp only [Prod.mk.injEq] at hzz
  obtain ⟨hz0, hz1, hz2⟩ := hzz
  cases A with
  | none =>
    have h0 : xs = [] := by
      rcases Nat.eq_zero_or_pos xs.length with h | h
      · exact List.eq_nil_of_length_eq_zero h
      · obtain ⟨ad, h, _⟩ := hR.2 h; cases h
    subst h0
    clear hR hl hi hz0 hz1 hz2
    go_enter Try.func39, Try.ntmps39
    go_wp2
    go_ret
    exact ⟨_, rfl, Own.nil _ _ _ _, Below.refl _ _⟩
  | some ad =>
    have hc : ∀ j u, (EMsg.flat xs)[j]? = some u → w.cell? (ad.add j) = some u := fun j u hu => by
      have hlen : 0 < xs.length := by
        rcases Nat.eq_zero_or_pos xs.length with h | h
        · rw [List.eq_nil_of_length_eq_zero h] at hu; simp [Enc.flat] at hu
        · exact h
      obtain ⟨ad', h, hc⟩ := hR.2 hlen
      cases h
      exact hc j u hu
    have HC : Hid (∀ j u, (EMsg.flat xs)[j]? = some u → w.cell? (ad.add j) = some u) := hc
    clear hc hR
    go_enter Try.func39, Try.ntmps39
    go_wp2_with (at_builtin; refine wpList_append_own _ rfl _ _ 37 rfl w.heap.size 31 i0 _ 7 56 Try.underlying37 hi hz0 hz1 hz2 rfl (by decide) _ _ _ rfl (World.ownsRow_made w #[] 0 (Nat.le_refl _) (Nat.zero_le _) (by simp)) ad xs.length c (EMsg.flat xs) rfl ?qc1 ?qc2 ?qc3 ?qc4 ?qc5 ?qc6 ?_)
    case qc1 => exact EMsg.flat_length xs
    case qc2 => intro j u hj; exact cell_below ((Below.refl _ _).alloc (Nat.le_refl _) _) (HC.out j u hj)
    case qc3 => exact EMsg.flat_one' xs
    case qc4 => simp only [maxLen]; omega
    case qc5 => rw [Nat.zero_add]; exact hl
    case qc6 => simp
    intro v' w1 hown hgrow hnil
    have hb : Below w.heap.size w w1 := ((Below.refl _ w).alloc (Nat.le_refl _) _).grown hgrow (by simp) (by intro k hk; simp [Value.ownBlock] at hk; omega)
    have HO : Hid (Own EMsg 31 w1 w.heap.size v' xs) := hown
    clear hown hgrow hnil
    go_wp2
    go_ret
    exact ⟨_, rfl, HO.out, hb⟩
end Go.Proofs.Ytfhlkkjochjhoaa
