/- Joined texts of the seat: contracts and plain laws that the rows import. -/
import Derived.Test.YtgcnklnhambpjaaK3
import Derived.Test.YtgcnklnhambpjaaK1
import Derived.BigRegion
import Derived.BigQuiet
import Derived.Deep.QuietTactic
import Derived.RegionTactic
import Derived.Deep.LoopGhost
import Derived.Deep.DeepCutAuto
import Derived.Outline
set_option linter.unusedVariables false
set_option linter.unusedSimpArgs false
/- document.of: what it returns for every slice of messages. -/
namespace Go.Proofs.Ytgcnklnhambpjaa
open Go.RowKit
theorem blkA {w : World} {g : Nat} {o o' : Obj} (h : w.heap[g]? = some o) : (w.alloc o').heap[g]? = some o := (Below.heap_alloc w o' g (Array.getElem?_eq_some_iff.1 h).1).trans h
theorem blkD {w : World} {g : Nat} {o : Obj} (h : w.heap[g]? = some o) : w.drew.heap[g]? = some o := h
theorem blkDN {w : World} {g n : Nat} {o : Obj} (h : w.heap[g]? = some o) : (w.drewN n).heap[g]? = some o := h
theorem blkS {w : World} {g i : Nat} {cs : Array Value} {t : TypeId} {fr : Nat × Nat} {u : Value} (h : w.heap[g]? = some (.cells cs t fr)) : (w.setCell ⟨g, i, none⟩ u).heap[g]? = some (.cells (cs.setIfInBounds i u) t fr) := by
  simp [World.setCell, Array.getElem?_modify, h]
theorem blkO {w : World} {g : Nat} {o : Obj} {a : Addr} {u : Value} (h : w.heap[g]? = some o) (hne : g ≠ a.block) : (w.setCell a u).heap[g]? = some o := (Below.heap_setCell w a u g hne).trans h
theorem blkG {w w' : World} {g : Nat} {o : Obj} {row : Option Nat} (h : w.heap[g]? = some o) (hg : w.grownBy w' row) (hne : some g ≠ row) : w'.heap[g]? = some o := (hg.block g (Array.getElem?_eq_some_iff.1 h).1 hne).trans h
theorem blkN (w : World) (o : Obj) : (w.alloc o).heap[w.heap.size]? = some o := heap_alloc_new w o
theorem blk_cell {w : World} {b : Nat} {cs : Array Value} {t : TypeId} {fr : Nat × Nat} (h : w.heap[b]? = some (.cells cs t fr)) (j : Nat) : w.cell? ⟨b, j, none⟩ = cs[j]? := by
  simp [World.cell?, h]
theorem blk_frozen {w : World} {b : Nat} {cs : Array Value} {t : TypeId} (h : w.heap[b]? = some (.cells cs t (0, 0))) (j : Nat) : w.frozen? ⟨b, j, none⟩ = false := by
  simp [World.frozen?, h]
theorem nameW {P : Program} {c : Code} {Q : Exit → Act → World → Prop} {a : Act} {W0 : World} (h : ∀ W, W = W0 → c.wp P Q a W) : c.wp P Q a W0 := h W0 rfl
def OfPost (l : List Msg) (mv : Int) (w : World) (e : Ending) (w' : World) : Prop := e = .returned (ofR mv l).v ∧ Below w.heap.size w w'
set_option maxHeartbeats 4000000 in
set_option maxRecDepth 100000 in
theorem of_any (l : List Msg) (mv : Int) (A : Option Addr) (c : Nat) (w : World) (hR : Rd EMsg w A l) : Calls Try.prog 46 #[.slice A l.length c, .int .i64 mv] w (OfPost l mv w) := by
  have hle := hR.le
  have hmm := @run_makeMap Try.prog
  have HR := hid_of hR
  clear hR
  go_enter Try.func46, Try.ntmps46
  go_wp2
  have hb0 := blkA (blkA (blkN w (.cells #[.int .i64 0, .int .i64 0, .int .i64 0, .int .i64 0, .int .i64 0, .int .i64 0, .int .i64 0] 35)) (o' := .map #[] 0)) (o' := .cells #[.int .i64 mv, .int .i64 0, .int .i64 0, .int .i64 0, .int .i64 0, .int .i64 0, .int .i64 0] 35)
  have HB0 := hid_of hb0
  clear hb0
  go_loopg [7, 8, 19] l.length (fun gg s7 s8 s19 wr => ∃ (k : Nat) (s : OfS), k ≤ l.length ∧ l.length - k ≤ gg ∧ s19 = .int .i64 k ∧ s7 = .bool s.ended ∧ s8 = .int .i64 s.ans ∧ Hid (s = ofFold mv (l.take k)) ∧ Hid (wr.heap[w.heap.size]? = some (.cells #[.int .i64 0, .int .i64 0, .int .i64 0, .int .i64 0, .int .i64 0, .int .i64 0, .int .i64 0] 35 (0, 0))) ∧ Hid (wr.heap[w.heap.size + 1 + 1]? = some (.cells s.out.cells.toArray 35 (0, 0))) ∧ Hid (IsMap pairV (Value.int .i64) wr (w.heap.size + 1) s.cnt) ∧ Hid (Below w.heap.size w wr) ∧ w.heap.size + 1 + 1 < wr.heap.size)
  case atStart =>
    have p1 := blkN ((w.alloc (.cells #[.int .i64 0, .int .i64 0, .int .i64 0, .int .i64 0, .int .i64 0, .int .i64 0, .int .i64 0] 35)).alloc (.map #[] 0)) (.cells #[.int .i64 mv, .int .i64 0, .int .i64 0, .int .i64 0, .int .i64 0, .int .i64 0, .int .i64 0] 35)
    have p2 := (IsMap.made pairV (Value.int .i64) (w.alloc (.cells #[.int .i64 0, .int .i64 0, .int .i64 0, .int .i64 0, .int .i64 0, .int .i64 0, .int .i64 0] 35))).alloc (.cells #[.int .i64 mv, .int .i64 0, .int .i64 0, .int .i64 0, .int .i64 0, .int .i64 0, .int .i64 0] 35)
    rw [World.size_alloc, World.size_alloc] at p1
    rw [World.size_alloc] at p2
    refine ⟨0, ofInit mv, Nat.zero_le _, by omega, rfl, rfl, rfl, rfl, HB0.out, p1, p2, ?_, by simp⟩
    · exact (((Below.refl _ _).alloc (Nat.le_refl _) _).alloc (by simp) _).alloc (by simp; omega) _
  case round =>
    obtain ⟨k, s, hk, hg, rfl, rfl, rfl, HS, HB0', HO, HM, BW, hsz⟩ := hrel
    by_cases hlt : k < l.length
    · obtain ⟨ad, rfl, c0, c1, c2, c3, c4, c5, c6⟩ := Msg.at_ (HR.out.below BW.out) k hlt
      generalize hx : l[k] = x at c0 c1 c2 c3 c4 c5 c6
      have HX := hid_of hx
      clear hx
      obtain ⟨a0, a1, a2, a3, a4, a5, a6⟩ := x
      dsimp only at c0 c1 c2 c3 c4 c5 c6
      by_cases hmv : a0 = mv
      · have hmv' := hmv.symm
        subst hmv'
        by_cases k1 : a1 = 1
        · subst k1
          go_wp2_with fail
          refine nameW (fun W hW => ?_)
          have hmb : W.heap[wr.heap.size]? = some (.cells #[.int .i64 mv, .int .i64 1, .int .i64 a2, .int .i64 a3, .int .i64 a4, .int .i64 a5, .int .i64 a6] 23 (0, 0)) := by rw [hW]; exact blkA (blkN wr _)
          have hpb : W.heap[wr.heap.size + 1]? = some (.cells #[.int .i64 1, .int .i64 a2] 78 (0, 0)) := by
            rw [hW, ← World.size_alloc wr (.cells #[.int .i64 mv, .int .i64 1, .int .i64 a2, .int .i64 a3, .int .i64 a4, .int .i64 a5, .int .i64 a6] 23)]
            exact blkN _ _
          have hob : W.heap[w.heap.size + 1 + 1]? = some (.cells s.out.cells.toArray 35 (0, 0)) := by rw [hW]; exact blkA (blkA HO.out)
          have hzb : W.heap[w.heap.size]? = some (.cells #[.int .i64 0, .int .i64 0, .int .i64 0, .int .i64 0, .int .i64 0, .int .i64 0, .int .i64 0] 35 (0, 0)) := by rw [hW]; exact blkA (blkA HB0'.out)
          have him : IsMap pairV (Value.int .i64) W (w.heap.size + 1) s.cnt := by rw [hW]; exact (HM.out.alloc _).alloc _
          have hbw : Below w.heap.size w W := by rw [hW]; exact (BW.out.alloc (by omega) _).alloc (by rw [World.size_alloc]; omega) _
          have hsw : W.heap.size = wr.heap.size + 1 + 1 := by rw [hW, World.size_alloc, World.size_alloc]
          have hs2 : wr.heap.size + 1 < W.heap.size := by rw [hsw]; omega
          clear hW hsw
          have o0 := (blk_cell hob 0).trans (show _ = some (.int .i64 s.out.mv) from rfl)
          have o1 := (blk_cell hob 1).trans (show _ = some (.int .i64 s.out.st) from rfl)
          have o2 := (blk_cell hob 2).trans (show _ = some (.int .i64 s.out.fr) from rfl)
          have o3 := (blk_cell hob 3).trans (show _ = some (.int .i64 s.out.tt) from rfl)
          have o4 := (blk_cell hob 4).trans (show _ = some (.int .i64 s.out.se) from rfl)
          have o5 := (blk_cell hob 5).trans (show _ = some (.int .i64 s.out.re) from rfl)
          have o6 := (blk_cell hob 6).trans (show _ = some (.int .i64 s.out.ch) from rfl)
          have hfz := fun j => blk_frozen hob j
          have m0 := (blk_cell hmb 0).trans (show _ = some (.int .i64 mv) from rfl)
          have m1 := (blk_cell hmb 1).trans (show _ = some (.int .i64 1) from rfl)
          have m2 := (blk_cell hmb 2).trans (show _ = some (.int .i64 a2) from rfl)
          have m3 := (blk_cell hmb 3).trans (show _ = some (.int .i64 a3) from rfl)
          have m4 := (blk_cell hmb 4).trans (show _ = some (.int .i64 a4) from rfl)
          have m5 := (blk_cell hmb 5).trans (show _ = some (.int .i64 a5) from rfl)
          have m6 := (blk_cell hmb 6).trans (show _ = some (.int .i64 a6) from rfl)
          have HMB := hid_of hmb
          have HPB := hid_of hpb
          have HOB := hid_of hob
          have HZB := hid_of hzb
          have HIM := hid_of him
          have HBW := hid_of hbw
          clear hmb hpb hob hzb him hbw
          go_big_region
          go_wp2_with fail
          refine nameW (fun W2 hW => ?_)
          have f1 : W2.heap[w.heap.size]? = some (.cells #[.int .i64 0, .int .i64 0, .int .i64 0, .int .i64 0, .int .i64 0, .int .i64 0, .int .i64 0] 35 (0, 0)) := by rw [hW]; repeat (with_reducible first | exact HZB.out | apply blkD | apply blkA | refine blkO ?_ (by simp <;> omega))
          have f2 : W2.heap[w.heap.size + 1 + 1]? = some (.cells ({ s.out with st := 1, fr := a4, tt := a5, se := a6 } : Doc).cells.toArray 35 (0, 0)) := by rw [hW]; exact blkD (blkS (blkS (blkS (blkS HOB.out))))
          have f3 : IsMap pairV (Value.int .i64) W2 (w.heap.size + 1) s.cnt := by rw [hW]; repeat (with_reducible first | exact HIM.out | apply IsMap.drew | apply IsMap.cells | apply IsMap.alloc)
          have f4 : Below w.heap.size w W2 := by rw [hW]; repeat (with_reducible first | exact HBW.out | apply Below.drew | (refine Below.alloc ?_ (by first | omega | (simp; omega)) _) | (refine Below.setCell ?_ (by simp <;> omega) _))
          have f5 : W2.heap[wr.heap.size + 1]? = some (.cells #[.int .i64 1, .int .i64 a2] 78 (0, 0)) := by rw [hW]; repeat (with_reducible first | exact HPB.out | apply blkD | apply blkA | refine blkO ?_ (by simp <;> omega))
          have hsz2 : w.heap.size + 1 + 1 < W2.heap.size := (Array.getElem?_eq_some_iff.1 f2).1
          clear hW
          have hle1 := ofFold_le mv (l.take k)
          rw [← HS.out] at hle1
          have hlk : (l.take k).length ≤ k := by rw [List.length_take]; omega
          have hgv := mget_bump_le s.cnt (l.take k).length hle1.1 (by omega) (1, a2)
          obtain ⟨st, w2, hme, hl1, hl2, hg2, hst⟩ := IsMap.bump keyPart f3.drew Try.underlying76 (zv := 0) Try.zeroValue3 (1, a2)
          obtain ⟨w3, hes, hm3, hg3⟩ := hst ((mget s.cnt (1, a2)).getD 0 + 1)
          generalize hv : (mget s.cnt (1, a2)).getD 0 = v at hgv hme hl1 hl2 hes hm3
          have HV := hid_of hv
          have q0 := (blk_cell f5 0).trans (show _ = some (.int .i64 1) from rfl)
          have q1 := (blk_cell f5 1).trans (show _ = some (.int .i64 a2) from rfl)
          simp only [pairV] at hme hl1 hl2
          have F1 := hid_of f1
          have F2 := hid_of f2
          have F4 := hid_of f4
          have HM3 := hid_of hm3
          have HG3 := hid_of hg3
          have hv1 : 0 ≤ v := hgv.1
          have hv2 : v ≤ 9223372036854775806 := by have := hgv.2; omega
          clear hle1 hlk hgv f1 f2 f3 f4 f5 hm3 hg3 hg2 hv hst
          go_big_region
          go_wp2
          go_roundg (l.length - (k + 1))
          case measure => omega
          case rel =>
            refine ⟨k + 1, { out := { s.out with st := 1, fr := a4, tt := a5, se := a6 }, cnt := bump s.cnt (1, a2), ended := s.ended, ans := s.ans }, by omega, Nat.le_refl _, by go_num, rfl, rfl, ?_, blkG (blkD F1.out) HG3.out (by simp), blkG (blkD F2.out) HG3.out (by simp), ?_, F4.out.drew.grown HG3.out (by show _ ≤ W2.heap.size; omega) (fun q hq => by cases hq; omega), Nat.lt_of_lt_of_le hsz2 HG3.out.size⟩
            · show _ = _
              rw [List.take_succ_eq_append_getElem hlt, ofFold_snoc, ← HS.out, HX.out]
              simp [ofStep]
            · have := HM3.out
              rw [← HV.out] at this
              exact this
        by_cases k2 : a1 = 2
        · subst k2
          have hle0 := ofFold_le mv (l.take k)
          rw [← HS.out] at hle0
          have hlk0 : (l.take k).length ≤ k := by rw [List.length_take]; omega
          have hch0 := hle0.2.1
          have hch1 : s.out.ch ≤ 9223372036854775806 := by have := hle0.2.2; omega
          clear hle0 hlk0
          go_upto_region 13 with (fail)
          refine nameW (fun W hW => ?_)
          have hmb : W.heap[wr.heap.size]? = some (.cells #[.int .i64 mv, .int .i64 2, .int .i64 a2, .int .i64 a3, .int .i64 a4, .int .i64 a5, .int .i64 a6] 23 (0, 0)) := by rw [hW]; exact blkA (blkN wr _)
          have hpb : W.heap[wr.heap.size + 1]? = some (.cells #[.int .i64 2, .int .i64 a2] 78 (0, 0)) := by
            rw [hW, ← World.size_alloc wr (.cells #[.int .i64 mv, .int .i64 2, .int .i64 a2, .int .i64 a3, .int .i64 a4, .int .i64 a5, .int .i64 a6] 23)]
            exact blkN _ _
          have hob : W.heap[w.heap.size + 1 + 1]? = some (.cells s.out.cells.toArray 35 (0, 0)) := by rw [hW]; exact blkA (blkA HO.out)
          have hzb : W.heap[w.heap.size]? = some (.cells #[.int .i64 0, .int .i64 0, .int .i64 0, .int .i64 0, .int .i64 0, .int .i64 0, .int .i64 0] 35 (0, 0)) := by rw [hW]; exact blkA (blkA HB0'.out)
          have him : IsMap pairV (Value.int .i64) W (w.heap.size + 1) s.cnt := by rw [hW]; exact (HM.out.alloc _).alloc _
          have hbw : Below w.heap.size w W := by rw [hW]; exact (BW.out.alloc (by omega) _).alloc (by rw [World.size_alloc]; omega) _
          have hsw : W.heap.size = wr.heap.size + 1 + 1 := by rw [hW, World.size_alloc, World.size_alloc]
          have hs2 : wr.heap.size + 1 < W.heap.size := by rw [hsw]; omega
          clear hW hsw
          have o0 := (blk_cell hob 0).trans (show _ = some (.int .i64 s.out.mv) from rfl)
          have o1 := (blk_cell hob 1).trans (show _ = some (.int .i64 s.out.st) from rfl)
          have o2 := (blk_cell hob 2).trans (show _ = some (.int .i64 s.out.fr) from rfl)
          have o3 := (blk_cell hob 3).trans (show _ = some (.int .i64 s.out.tt) from rfl)
          have o4 := (blk_cell hob 4).trans (show _ = some (.int .i64 s.out.se) from rfl)
          have o5 := (blk_cell hob 5).trans (show _ = some (.int .i64 s.out.re) from rfl)
          have o6 := (blk_cell hob 6).trans (show _ = some (.int .i64 s.out.ch) from rfl)
          have hfz := fun j => blk_frozen hob j
          have m0 := (blk_cell hmb 0).trans (show _ = some (.int .i64 mv) from rfl)
          have m1 := (blk_cell hmb 1).trans (show _ = some (.int .i64 2) from rfl)
          have m2 := (blk_cell hmb 2).trans (show _ = some (.int .i64 a2) from rfl)
          have m3 := (blk_cell hmb 3).trans (show _ = some (.int .i64 a3) from rfl)
          have m4 := (blk_cell hmb 4).trans (show _ = some (.int .i64 a4) from rfl)
          have m5 := (blk_cell hmb 5).trans (show _ = some (.int .i64 a5) from rfl)
          have m6 := (blk_cell hmb 6).trans (show _ = some (.int .i64 a6) from rfl)
          have HMB := hid_of hmb
          have HPB := hid_of hpb
          have HOB := hid_of hob
          have HZB := hid_of hzb
          have HIM := hid_of him
          have HBW := hid_of hbw
          clear hmb hpb hob hzb him hbw
          go_wp2_with fail
          refine nameW (fun W2 hW => ?_)
          have f1 : W2.heap[w.heap.size]? = some (.cells #[.int .i64 0, .int .i64 0, .int .i64 0, .int .i64 0, .int .i64 0, .int .i64 0, .int .i64 0] 35 (0, 0)) := by rw [hW]; repeat (with_reducible first | exact HZB.out | apply blkD | apply blkA | refine blkO ?_ (by simp <;> omega))
          have f2 : W2.heap[w.heap.size + 1 + 1]? = some (.cells ({ s.out with tt := a5, ch := s.out.ch + 1 } : Doc).cells.toArray 35 (0, 0)) := by rw [hW]; exact blkS (blkS HOB.out)
          have f3 : IsMap pairV (Value.int .i64) W2 (w.heap.size + 1) s.cnt := by rw [hW]; repeat (with_reducible first | exact HIM.out | apply IsMap.drew | apply IsMap.cells | apply IsMap.alloc)
          have f4 : Below w.heap.size w W2 := by rw [hW]; repeat (with_reducible first | exact HBW.out | apply Below.drew | (refine Below.alloc ?_ (by first | omega | (simp; omega)) _) | (refine Below.setCell ?_ (by simp <;> omega) _))
          have f5 : W2.heap[wr.heap.size + 1]? = some (.cells #[.int .i64 2, .int .i64 a2] 78 (0, 0)) := by rw [hW]; repeat (with_reducible first | exact HPB.out | apply blkD | apply blkA | refine blkO ?_ (by simp <;> omega))
          have hsz2 : w.heap.size + 1 + 1 < W2.heap.size := (Array.getElem?_eq_some_iff.1 f2).1
          clear hW
          have hle1 := ofFold_le mv (l.take k)
          rw [← HS.out] at hle1
          have hlk : (l.take k).length ≤ k := by rw [List.length_take]; omega
          have hgv := mget_bump_le s.cnt (l.take k).length hle1.1 (by omega) (2, a2)
          obtain ⟨st, w2, hme, hl1, hl2, hg2, hst⟩ := IsMap.bump keyPart f3.drew Try.underlying76 (zv := 0) Try.zeroValue3 (2, a2)
          obtain ⟨w3, hes, hm3, hg3⟩ := hst ((mget s.cnt (2, a2)).getD 0 + 1)
          generalize hv : (mget s.cnt (2, a2)).getD 0 = v at hgv hme hl1 hl2 hes hm3
          have HV := hid_of hv
          have q0 := (blk_cell f5 0).trans (show _ = some (.int .i64 2) from rfl)
          have q1 := (blk_cell f5 1).trans (show _ = some (.int .i64 a2) from rfl)
          simp only [pairV] at hme hl1 hl2
          have F1 := hid_of f1
          have F2 := hid_of f2
          have F4 := hid_of f4
          have HM3 := hid_of hm3
          have HG3 := hid_of hg3
          have hv1 : 0 ≤ v := hgv.1
          have hv2 : v ≤ 9223372036854775806 := by have := hgv.2; omega
          clear hle1 hlk hgv f1 f2 f3 f4 f5 hm3 hg3 hg2 hv hst
          go_big_region
          go_wp2
          go_roundg (l.length - (k + 1))
          case measure => omega
          case rel =>
            refine ⟨k + 1, { out := { s.out with tt := a5, ch := s.out.ch + 1 }, cnt := bump s.cnt (2, a2), ended := s.ended, ans := s.ans }, by omega, Nat.le_refl _, by go_num, rfl, rfl, ?_, blkG (blkD F1.out) HG3.out (by simp), blkG (blkD F2.out) HG3.out (by simp), ?_, F4.out.drew.grown HG3.out (by show _ ≤ W2.heap.size; omega) (fun q hq => by cases hq; omega), Nat.lt_of_lt_of_le hsz2 HG3.out.size⟩
            · show _ = _
              rw [List.take_succ_eq_append_getElem hlt, ofFold_snoc, ← HS.out, HX.out]
              simp [ofStep]
            · have := HM3.out
              rw [← HV.out] at this
              exact this
        by_cases k3 : a1 = 3
        · subst k3
          go_upto_region 16 with (fail)
          refine nameW (fun W hW => ?_)
          have hmb : W.heap[wr.heap.size]? = some (.cells #[.int .i64 mv, .int .i64 3, .int .i64 a2, .int .i64 a3, .int .i64 a4, .int .i64 a5, .int .i64 a6] 23 (0, 0)) := by rw [hW]; exact blkA (blkN wr _)
          have hpb : W.heap[wr.heap.size + 1]? = some (.cells #[.int .i64 3, .int .i64 a2] 78 (0, 0)) := by
            rw [hW, ← World.size_alloc wr (.cells #[.int .i64 mv, .int .i64 3, .int .i64 a2, .int .i64 a3, .int .i64 a4, .int .i64 a5, .int .i64 a6] 23)]
            exact blkN _ _
          have hob : W.heap[w.heap.size + 1 + 1]? = some (.cells s.out.cells.toArray 35 (0, 0)) := by rw [hW]; exact blkA (blkA HO.out)
          have hzb : W.heap[w.heap.size]? = some (.cells #[.int .i64 0, .int .i64 0, .int .i64 0, .int .i64 0, .int .i64 0, .int .i64 0, .int .i64 0] 35 (0, 0)) := by rw [hW]; exact blkA (blkA HB0'.out)
          have him : IsMap pairV (Value.int .i64) W (w.heap.size + 1) s.cnt := by rw [hW]; exact (HM.out.alloc _).alloc _
          have hbw : Below w.heap.size w W := by rw [hW]; exact (BW.out.alloc (by omega) _).alloc (by rw [World.size_alloc]; omega) _
          have hsw : W.heap.size = wr.heap.size + 1 + 1 := by rw [hW, World.size_alloc, World.size_alloc]
          have hs2 : wr.heap.size + 1 < W.heap.size := by rw [hsw]; omega
          clear hW hsw
          have o0 := (blk_cell hob 0).trans (show _ = some (.int .i64 s.out.mv) from rfl)
          have o1 := (blk_cell hob 1).trans (show _ = some (.int .i64 s.out.st) from rfl)
          have o2 := (blk_cell hob 2).trans (show _ = some (.int .i64 s.out.fr) from rfl)
          have o3 := (blk_cell hob 3).trans (show _ = some (.int .i64 s.out.tt) from rfl)
          have o4 := (blk_cell hob 4).trans (show _ = some (.int .i64 s.out.se) from rfl)
          have o5 := (blk_cell hob 5).trans (show _ = some (.int .i64 s.out.re) from rfl)
          have o6 := (blk_cell hob 6).trans (show _ = some (.int .i64 s.out.ch) from rfl)
          have hfz := fun j => blk_frozen hob j
          have m0 := (blk_cell hmb 0).trans (show _ = some (.int .i64 mv) from rfl)
          have m1 := (blk_cell hmb 1).trans (show _ = some (.int .i64 3) from rfl)
          have m2 := (blk_cell hmb 2).trans (show _ = some (.int .i64 a2) from rfl)
          have m3 := (blk_cell hmb 3).trans (show _ = some (.int .i64 a3) from rfl)
          have m4 := (blk_cell hmb 4).trans (show _ = some (.int .i64 a4) from rfl)
          have m5 := (blk_cell hmb 5).trans (show _ = some (.int .i64 a5) from rfl)
          have m6 := (blk_cell hmb 6).trans (show _ = some (.int .i64 a6) from rfl)
          have HMB := hid_of hmb
          have HPB := hid_of hpb
          have HOB := hid_of hob
          have HZB := hid_of hzb
          have HIM := hid_of him
          have HBW := hid_of hbw
          clear hmb hpb hob hzb him hbw
          go_big_region
          go_wp2_with fail
          refine nameW (fun W2 hW => ?_)
          have f1 : W2.heap[w.heap.size]? = some (.cells #[.int .i64 0, .int .i64 0, .int .i64 0, .int .i64 0, .int .i64 0, .int .i64 0, .int .i64 0] 35 (0, 0)) := by rw [hW]; repeat (with_reducible first | exact HZB.out | apply blkD | apply blkA | refine blkO ?_ (by simp <;> omega))
          have f2 : W2.heap[w.heap.size + 1 + 1]? = some (.cells ({ s.out with re := a6 } : Doc).cells.toArray 35 (0, 0)) := by rw [hW]; exact blkD (blkS HOB.out)
          have f3 : IsMap pairV (Value.int .i64) W2 (w.heap.size + 1) s.cnt := by rw [hW]; repeat (with_reducible first | exact HIM.out | apply IsMap.drew | apply IsMap.cells | apply IsMap.alloc)
          have f4 : Below w.heap.size w W2 := by rw [hW]; repeat (with_reducible first | exact HBW.out | apply Below.drew | (refine Below.alloc ?_ (by first | omega | (simp; omega)) _) | (refine Below.setCell ?_ (by simp <;> omega) _))
          have f5 : W2.heap[wr.heap.size + 1]? = some (.cells #[.int .i64 3, .int .i64 a2] 78 (0, 0)) := by rw [hW]; repeat (with_reducible first | exact HPB.out | apply blkD | apply blkA | refine blkO ?_ (by simp <;> omega))
          have hsz2 : w.heap.size + 1 + 1 < W2.heap.size := (Array.getElem?_eq_some_iff.1 f2).1
          clear hW
          have hle1 := ofFold_le mv (l.take k)
          rw [← HS.out] at hle1
          have hlk : (l.take k).length ≤ k := by rw [List.length_take]; omega
          have hgv := mget_bump_le s.cnt (l.take k).length hle1.1 (by omega) (3, a2)
          obtain ⟨st, w2, hme, hl1, hl2, hg2, hst⟩ := IsMap.bump keyPart f3.drew Try.underlying76 (zv := 0) Try.zeroValue3 (3, a2)
          obtain ⟨w3, hes, hm3, hg3⟩ := hst ((mget s.cnt (3, a2)).getD 0 + 1)
          generalize hv : (mget s.cnt (3, a2)).getD 0 = v at hgv hme hl1 hl2 hes hm3
          have HV := hid_of hv
          have q0 := (blk_cell f5 0).trans (show _ = some (.int .i64 3) from rfl)
          have q1 := (blk_cell f5 1).trans (show _ = some (.int .i64 a2) from rfl)
          simp only [pairV] at hme hl1 hl2
          have F1 := hid_of f1
          have F2 := hid_of f2
          have F4 := hid_of f4
          have HM3 := hid_of hm3
          have HG3 := hid_of hg3
          have hv1 : 0 ≤ v := hgv.1
          have hv2 : v ≤ 9223372036854775806 := by have := hgv.2; omega
          clear hle1 hlk hgv f1 f2 f3 f4 f5 hm3 hg3 hg2 hv hst
          go_big_region
          go_wp2
          go_roundg (l.length - (k + 1))
          case measure => omega
          case rel =>
            refine ⟨k + 1, { out := { s.out with re := a6 }, cnt := bump s.cnt (3, a2), ended := s.ended, ans := 2 }, by omega, Nat.le_refl _, by go_num, rfl, rfl, ?_, blkG (blkD F1.out) HG3.out (by simp), blkG (blkD F2.out) HG3.out (by simp), ?_, F4.out.drew.grown HG3.out (by show _ ≤ W2.heap.size; omega) (fun q hq => by cases hq; omega), Nat.lt_of_lt_of_le hsz2 HG3.out.size⟩
            · show _ = _
              rw [List.take_succ_eq_append_getElem hlt, ofFold_snoc, ← HS.out, HX.out]
              simp [ofStep]
            · have := HM3.out
              rw [← HV.out] at this
              exact this
        by_cases k4 : a1 = 4
        · subst k4
          go_wp2_with fail
          refine nameW (fun W2 hW => ?_)
          have f1 : W2.heap[w.heap.size]? = some (.cells #[.int .i64 0, .int .i64 0, .int .i64 0, .int .i64 0, .int .i64 0, .int .i64 0, .int .i64 0] 35 (0, 0)) := by rw [hW]; repeat (with_reducible first | exact HB0'.out | apply blkD | apply blkA | refine blkO ?_ (by simp <;> omega))
          have f2 : W2.heap[w.heap.size + 1 + 1]? = some (.cells (s.out : Doc).cells.toArray 35 (0, 0)) := by rw [hW]; repeat (with_reducible first | exact HO.out | apply blkD | apply blkA | refine blkO ?_ (by simp <;> omega))
          have f3 : IsMap pairV (Value.int .i64) W2 (w.heap.size + 1) s.cnt := by rw [hW]; repeat (with_reducible first | exact HM.out | apply IsMap.drew | apply IsMap.cells | apply IsMap.alloc)
          have f4 : Below w.heap.size w W2 := by rw [hW]; repeat (with_reducible first | exact BW.out | apply Below.drew | (refine Below.alloc ?_ (by first | omega | (simp; omega)) _) | (refine Below.setCell ?_ (by simp <;> omega) _))
          have f5 : W2.heap[wr.heap.size + 1]? = some (.cells #[.int .i64 3, .int .i64 a2] 78 (0, 0)) := by rw [hW]; rw [← World.size_alloc wr (.cells #[.int .i64 mv, .int .i64 4, .int .i64 a2, .int .i64 a3, .int .i64 a4, .int .i64 a5, .int .i64 a6] 23)]; exact blkN _ _
          have hsz2 : w.heap.size + 1 + 1 < W2.heap.size := (Array.getElem?_eq_some_iff.1 f2).1
          clear hW
          have hle1 := ofFold_le mv (l.take k)
          rw [← HS.out] at hle1
          have hlk : (l.take k).length ≤ k := by rw [List.length_take]; omega
          have hgv := mget_bump_le s.cnt (l.take k).length hle1.1 (by omega) (3, a2)
          obtain ⟨st, w2, hme, hl1, hl2, hg2, hst⟩ := IsMap.bump keyPart f3.drew Try.underlying76 (zv := 0) Try.zeroValue3 (3, a2)
          obtain ⟨w3, hes, hm3, hg3⟩ := hst ((mget s.cnt (3, a2)).getD 0 + 1)
          generalize hv : (mget s.cnt (3, a2)).getD 0 = v at hgv hme hl1 hl2 hes hm3
          have HV := hid_of hv
          have q0 := (blk_cell f5 0).trans (show _ = some (.int .i64 3) from rfl)
          have q1 := (blk_cell f5 1).trans (show _ = some (.int .i64 a2) from rfl)
          simp only [pairV] at hme hl1 hl2
          have F1 := hid_of f1
          have F2 := hid_of f2
          have F4 := hid_of f4
          have HM3 := hid_of hm3
          have HG3 := hid_of hg3
          have hv1 : 0 ≤ v := hgv.1
          have hv2 : v ≤ 9223372036854775806 := by have := hgv.2; omega
          clear hle1 hlk hgv f1 f2 f3 f4 f5 hm3 hg3 hg2 hv hst
          go_big_region
          go_wp2
          go_roundg (l.length - (k + 1))
          case measure => omega
          case rel =>
            refine ⟨k + 1, { out := s.out, cnt := bump s.cnt (3, a2), ended := s.ended, ans := 3 }, by omega, Nat.le_refl _, by go_num, rfl, rfl, ?_, blkG (blkD F1.out) HG3.out (by simp), blkG (blkD F2.out) HG3.out (by simp), ?_, F4.out.drew.grown HG3.out (by show _ ≤ W2.heap.size; omega) (fun q hq => by cases hq; omega), Nat.lt_of_lt_of_le hsz2 HG3.out.size⟩
            · show _ = _
              rw [List.take_succ_eq_append_getElem hlt, ofFold_snoc, ← HS.out, HX.out]
              simp [ofStep]
            · have := HM3.out
              rw [← HV.out] at this
              exact this
        by_cases k5 : a1 = 5
        · subst k5
          go_wp2_with fail
          go_roundg (l.length - (k + 1))
          case measure => omega
          case rel =>
            refine ⟨k + 1, { s with ended := true }, by omega, Nat.le_refl _, by go_num, rfl, rfl, ?_, ?_, ?_, ?_, ?_, ?_⟩
            · show _ = _
              rw [List.take_succ_eq_append_getElem hlt, ofFold_snoc, ← HS.out, HX.out]
              simp [ofStep]
            · exact blkA (blkA HB0'.out)
            · exact blkA (blkA HO.out)
            · exact (HM.out.alloc _).alloc _
            · exact (BW.out.alloc (by omega) _).alloc (by rw [World.size_alloc]; omega) _
            · simp; omega
        have K1 := hid_of k1
        have K2 := hid_of k2
        have K3 := hid_of k3
        have K4 := hid_of k4
        have K5 := hid_of k5
        have e1 : (a1 == 1) = false := by simpa using k1
        have e2 : (a1 == 2) = false := by simpa using k2
        have e3 : (a1 == 3) = false := by simpa using k3
        have e4 : (a1 == 4) = false := by simpa using k4
        have e5 : (a1 == 5) = false := by simpa using k5
        clear k1 k2 k3 k4 k5
        go_wp2_with fail
        refine nameW (fun W2 hW => ?_)
        have f1 : W2.heap[w.heap.size]? = some (.cells #[.int .i64 0, .int .i64 0, .int .i64 0, .int .i64 0, .int .i64 0, .int .i64 0, .int .i64 0] 35 (0, 0)) := by rw [hW]; repeat (with_reducible first | exact HB0'.out | apply blkD | apply blkA | refine blkO ?_ (by simp <;> omega))
        have f2 : W2.heap[w.heap.size + 1 + 1]? = some (.cells (s.out : Doc).cells.toArray 35 (0, 0)) := by rw [hW]; repeat (with_reducible first | exact HO.out | apply blkD | apply blkA | refine blkO ?_ (by simp <;> omega))
        have f3 : IsMap pairV (Value.int .i64) W2 (w.heap.size + 1) s.cnt := by rw [hW]; repeat (with_reducible first | exact HM.out | apply IsMap.drew | apply IsMap.cells | apply IsMap.alloc)
        have f4 : Below w.heap.size w W2 := by rw [hW]; repeat (with_reducible first | exact BW.out | apply Below.drew | (refine Below.alloc ?_ (by first | omega | (simp; omega)) _) | (refine Below.setCell ?_ (by simp <;> omega) _))
        have f5 : W2.heap[wr.heap.size + 1]? = some (.cells #[.int .i64 a1, .int .i64 a2] 78 (0, 0)) := by rw [hW]; rw [← World.size_alloc wr (.cells #[.int .i64 mv, .int .i64 a1, .int .i64 a2, .int .i64 a3, .int .i64 a4, .int .i64 a5, .int .i64 a6] 23)]; exact blkN _ _
        have hsz2 : w.heap.size + 1 + 1 < W2.heap.size := (Array.getElem?_eq_some_iff.1 f2).1
        clear hW
        have hle1 := ofFold_le mv (l.take k)
        rw [← HS.out] at hle1
        have hlk : (l.take k).length ≤ k := by rw [List.length_take]; omega
        have hgv := mget_bump_le s.cnt (l.take k).length hle1.1 (by omega) (a1, a2)
        obtain ⟨st, w2, hme, hl1, hl2, hg2, hst⟩ := IsMap.bump keyPart f3.drew Try.underlying76 (zv := 0) Try.zeroValue3 (a1, a2)
        obtain ⟨w3, hes, hm3, hg3⟩ := hst ((mget s.cnt (a1, a2)).getD 0 + 1)
        generalize hv : (mget s.cnt (a1, a2)).getD 0 = v at hgv hme hl1 hl2 hes hm3
        have HV := hid_of hv
        have q0 := (blk_cell f5 0).trans (show _ = some (.int .i64 a1) from rfl)
        have q1 := (blk_cell f5 1).trans (show _ = some (.int .i64 a2) from rfl)
        simp only [pairV] at hme hl1 hl2
        have F1 := hid_of f1
        have F2 := hid_of f2
        have F4 := hid_of f4
        have HM3 := hid_of hm3
        have HG3 := hid_of hg3
        have hv1 : 0 ≤ v := hgv.1
        have hv2 : v ≤ 9223372036854775806 := by have := hgv.2; omega
        clear hle1 hlk hgv f1 f2 f3 f4 f5 hm3 hg3 hg2 hv hst
        go_big_region
        go_wp2
        go_roundg (l.length - (k + 1))
        case measure => omega
        case rel =>
          refine ⟨k + 1, { out := s.out, cnt := bump s.cnt (a1, a2), ended := s.ended, ans := s.ans }, by omega, Nat.le_refl _, by go_num, rfl, rfl, ?_, blkG (blkD F1.out) HG3.out (by simp), blkG (blkD F2.out) HG3.out (by simp), ?_, F4.out.drew.grown HG3.out (by show _ ≤ W2.heap.size; omega) (fun q hq => by cases hq; omega), Nat.lt_of_lt_of_le hsz2 HG3.out.size⟩
          · show _ = _
            rw [List.take_succ_eq_append_getElem hlt, ofFold_snoc, ← HS.out, HX.out]
            simp [ofStep, K1.out, K2.out, K3.out, K4.out, K5.out]
          · have := HM3.out
            rw [← HV.out] at this
            exact this
      · have hmv1 : (a0 != mv) = true := by simpa using hmv
        have HNE := hid_of hmv
        clear hmv
        go_wp2_with fail
        go_roundg (l.length - (k + 1))
        case measure => omega
        case rel =>
          refine ⟨k + 1, s, by omega, Nat.le_refl _, by go_num, rfl, rfl, ?_, blkA HB0'.out, blkA HO.out, HM.out.alloc _, BW.out.alloc (by omega) _, by simp; omega⟩
          show _ = _
          rw [List.take_succ_eq_append_getElem hlt, ofFold_snoc, ← HS.out, HX.out]
          simp [ofStep, HNE.out]
    · have hkl : k = l.length := by omega
      have hs0 := HS.out
      rw [hkl, List.take_of_length_le (Nat.le_refl _)] at hs0
      have HS0 := hid_of hs0
      have HKL := hid_of hkl
      have hle1 := ofFold_le mv l
      rw [← hs0] at hle1
      have HL1 := hid_of hle1
      clear hs0 hkl hle1
      have o1 := (blk_cell HO.out 1).trans (show _ = some (.int .i64 s.out.st) from rfl)
      have z0 := fun j => blk_frozen HB0'.out j
      have z1 := (blk_cell HB0'.out 0).trans (show _ = some (.int .i64 0) from rfl)
      have z2 := (blk_cell HB0'.out 1).trans (show _ = some (.int .i64 0) from rfl)
      have z3 := (blk_cell HB0'.out 2).trans (show _ = some (.int .i64 0) from rfl)
      have z4 := (blk_cell HB0'.out 3).trans (show _ = some (.int .i64 0) from rfl)
      have z5 := (blk_cell HB0'.out 4).trans (show _ = some (.int .i64 0) from rfl)
      have z6 := (blk_cell HB0'.out 5).trans (show _ = some (.int .i64 0) from rfl)
      have z7 := (blk_cell HB0'.out 6).trans (show _ = some (.int .i64 0) from rfl)
      by_cases hst : s.out.st = 0
      · have HST := hid_of hst
        go_wp2_with fail
        refine bodyPost_ret (v := .agg #[.int .i64 mv, .int .i64 0, .int .i64 0, .int .i64 0, .int .i64 0, .int .i64 0, .int .i64 0]) (by simp [results, Try.results46, go_sem, z1, z2, z3, z4, z5, z6, z7]) rfl ⟨?_, ?_⟩
        · have e : ofR mv l = ⟨mv, 0, 0, 0, 0, 0, 0⟩ := by
            unfold ofR ofEnd
            rw [← HS0.out, if_pos HST.out]
          rw [e]
        · repeat (with_reducible first | exact BW.out | apply Below.drew | (refine Below.alloc ?_ (by first | omega | (simp; omega)) _) | (refine Below.setCell ?_ (by first | exact Nat.le_refl _ | (simp; done) | (simp; omega)) _))
      · have hst1 : (s.out.st == 0) = false := by simpa using hst
        have HST := hid_of hst
        clear hst z1 z2 z3 z4 z5 z6 z7 z0
        obtain ⟨o, hrun, hit⟩ := HM.out.range (P := Try.prog) Try.underlying76
        have HIT := hid_of hit
        have HZ2 := hid_of (blkA (o' := o) HB0'.out)
        have HO2 := hid_of (blkA (o' := o) HO.out)
        have BW2 := hid_of (BW.out.alloc (by omega) o)
        clear hit
        go_wp2_with fail
        go_loopg [13] s.cnt.length (fun gg _ w2 => ∃ idx : List Nat, s.cnt.length - idx.length ≤ gg ∧ Hid (IterAt pairV (Value.int .i64) w2 wr.heap.size (w.heap.size + 1) s.cnt idx) ∧ Hid (∀ i ∈ idx, ∀ p, s.cnt[i]? = some p → p.2 ≤ 1) ∧ Hid (w2.heap[w.heap.size]? = some (.cells #[.int .i64 0, .int .i64 0, .int .i64 0, .int .i64 0, .int .i64 0, .int .i64 0, .int .i64 0] 35 (0, 0))) ∧ Hid (w2.heap[w.heap.size + 1 + 1]? = some (.cells s.out.cells.toArray 35 (0, 0))) ∧ Hid (Below w.heap.size w w2))
        case atStart => exact ⟨[], by omega, HIT.out, (fun i hi => by simp at hi), HZ2.out, HO2.out, BW2.out⟩
        case round =>
          clear hrun HIT HZ2 HO2 BW2 o1
          obtain ⟨idx, hgi, HIT, HV1, HZ2, HO2, BW2⟩ := hrel
          rcases HIT.out.next (P := Try.prog) (by omega) with ⟨hrun, hall⟩ | ⟨i, p, w3, hm, hni, hrun, hit3, hg3, hent, _⟩
          · have hany : s.cnt.any (fun p => decide (1 < p.2)) = false := by
              rw [List.any_eq_false]
              intro p hp
              obtain ⟨i, hi, rfl⟩ := List.getElem_of_mem hp
              have := HV1.out i (hall i hi) _ (List.getElem?_eq_getElem hi)
              simp only [decide_eq_true_eq]
              omega
            have HANY := hid_of hany
            clear hany hall
            have z1 := (blk_cell HZ2.out 0).trans (show _ = some (.int .i64 0) from rfl)
            have z2 := (blk_cell HZ2.out 1).trans (show _ = some (.int .i64 0) from rfl)
            have z3 := (blk_cell HZ2.out 2).trans (show _ = some (.int .i64 0) from rfl)
            have z4 := (blk_cell HZ2.out 3).trans (show _ = some (.int .i64 0) from rfl)
            have z5 := (blk_cell HZ2.out 4).trans (show _ = some (.int .i64 0) from rfl)
            have z6 := (blk_cell HZ2.out 5).trans (show _ = some (.int .i64 0) from rfl)
            have z7 := (blk_cell HZ2.out 6).trans (show _ = some (.int .i64 0) from rfl)
            have z0 := fun j => blk_frozen HZ2.out j
            have o0 := (blk_cell HO2.out 0).trans (show _ = some (.int .i64 s.out.mv) from rfl)
            have o1 := (blk_cell HO2.out 1).trans (show _ = some (.int .i64 s.out.st) from rfl)
            have o2 := (blk_cell HO2.out 2).trans (show _ = some (.int .i64 s.out.fr) from rfl)
            have o3 := (blk_cell HO2.out 3).trans (show _ = some (.int .i64 s.out.tt) from rfl)
            have o4 := (blk_cell HO2.out 4).trans (show _ = some (.int .i64 s.out.se) from rfl)
            have o5 := (blk_cell HO2.out 5).trans (show _ = some (.int .i64 s.out.re) from rfl)
            have o6 := (blk_cell HO2.out 6).trans (show _ = some (.int .i64 s.out.ch) from rfl)
            have o7 := fun j => blk_frozen HO2.out j
            by_cases ha : s.ans = 0
            · have HA := hid_of ha
              have ha1 : (s.ans == 0) = true := by simpa using ha
              clear ha
              go_wp2_with fail
              refine bodyPost_ret (v := (.agg #[.int .i64 s.out.mv, .int .i64 s.out.st, .int .i64 s.out.fr, .int .i64 s.out.tt, .int .i64 s.out.se, .int .i64 s.out.re, .int .i64 s.out.ch])) (by simp [results, Try.results46, go_sem, z1, z2, z3, z4, z5, z6, z7]) rfl ⟨?_, by repeat (with_reducible first | exact BW2.out | apply Below.drew | (refine Below.alloc ?_ (by first | omega | (simp; omega)) _) | (refine Below.setCell ?_ (by first | exact Nat.le_refl _ | (simp; done) | (simp; omega)) _))⟩
              have e : ofR mv l = s.out := by
                unfold ofR ofEnd
                rw [← HS0.out, if_neg HST.out, if_neg (by rw [HANY.out]; simp), if_pos HA.out]
              rw [e]
            · have HA := hid_of ha
              have ha1 : (s.ans == 0) = false := by simpa using ha
              clear ha
              cases he : s.ended with
              | true =>
                go_wp2_with fail
                refine bodyPost_ret (v := (.agg #[.int .i64 s.out.mv, .int .i64 4, .int .i64 s.out.fr, .int .i64 s.out.tt, .int .i64 s.out.se, .int .i64 s.out.re, .int .i64 s.out.ch])) (by simp [results, Try.results46, go_sem, z1, z2, z3, z4, z5, z6, z7]) rfl ⟨?_, by repeat (with_reducible first | exact BW2.out | apply Below.drew | (refine Below.alloc ?_ (by first | omega | (simp; omega)) _) | (refine Below.setCell ?_ (by first | exact Nat.le_refl _ | (simp; done) | (simp; omega)) _))⟩
                have e : ofR mv l = { s.out with st := 4 } := by
                  unfold ofR ofEnd
                  rw [← HS0.out, if_neg HST.out, if_neg (by rw [HANY.out]; simp), if_neg HA.out, if_pos he]
                rw [e]
              | false =>
                go_wp2_with fail
                refine bodyPost_ret (v := (.agg #[.int .i64 s.out.mv, .int .i64 s.ans, .int .i64 s.out.fr, .int .i64 s.out.tt, .int .i64 s.out.se, .int .i64 s.out.re, .int .i64 s.out.ch])) (by simp [results, Try.results46, go_sem, z1, z2, z3, z4, z5, z6, z7]) rfl ⟨?_, by repeat (with_reducible first | exact BW2.out | apply Below.drew | (refine Below.alloc ?_ (by first | omega | (simp; omega)) _) | (refine Below.setCell ?_ (by first | exact Nat.le_refl _ | (simp; done) | (simp; omega)) _))⟩
                have e : ofR mv l = { s.out with st := s.ans } := by
                  unfold ofR ofEnd
                  rw [← HS0.out, if_neg HST.out, if_neg (by rw [HANY.out]; simp), if_neg HA.out, if_neg (by rw [he]; simp)]
                rw [e]
          · have HIT3 := hid_of hit3
            have HZ3 := hid_of (blkG HZ2.out hg3 (by simp; omega))
            have HO3 := hid_of (blkG HO2.out hg3 (by simp; omega))
            have BW3 := hid_of (BW2.out.grown hg3 BW2.out.size (fun q hq => by cases hq; omega))
            have HMI := hid_of hm
            have HNI := hid_of hni
            clear hit3 hg3 hm hni
            by_cases hp : 1 < p.2
            · have HP := hid_of hp
              have z1 := (blk_cell HZ3.out 0).trans (show _ = some (.int .i64 0) from rfl)
              have z2 := (blk_cell HZ3.out 1).trans (show _ = some (.int .i64 0) from rfl)
              have z3 := (blk_cell HZ3.out 2).trans (show _ = some (.int .i64 0) from rfl)
              have z4 := (blk_cell HZ3.out 3).trans (show _ = some (.int .i64 0) from rfl)
              have z5 := (blk_cell HZ3.out 4).trans (show _ = some (.int .i64 0) from rfl)
              have z6 := (blk_cell HZ3.out 5).trans (show _ = some (.int .i64 0) from rfl)
              have z7 := (blk_cell HZ3.out 6).trans (show _ = some (.int .i64 0) from rfl)
              have z0 := fun j => blk_frozen HZ3.out j
              go_wp2_with fail
              refine bodyPost_ret (v := .agg #[.int .i64 mv, .int .i64 5, .int .i64 0, .int .i64 0, .int .i64 0, .int .i64 0, .int .i64 0]) (by simp [results, Try.results46, go_sem, z1, z2, z3, z4, z5, z6, z7]) rfl ⟨?_, by repeat (with_reducible first | exact BW3.out | apply Below.drew | (refine Below.alloc ?_ (by first | omega | (simp; omega)) _) | (refine Below.setCell ?_ (by first | exact Nat.le_refl _ | (simp; done) | (simp; omega)) _))⟩
              have e : ofR mv l = ⟨mv, 5, 0, 0, 0, 0, 0⟩ := by
                unfold ofR ofEnd
                rw [← HS0.out, if_neg HST.out, if_pos]
                rw [List.any_eq_true]
                exact ⟨p, List.mem_of_getElem? HMI.out, by simpa using HP.out⟩
              rw [e]
            · have hidx := HIT.out.len_lt (List.getElem?_eq_some_iff.1 HMI.out).1 HNI.out
              go_wp2_with fail
              go_roundg (s.cnt.length - (idx.length + 1))
              case measure => omega
              case rel =>
                refine ⟨idx ++ [i], by simp, HIT3.out, (show Hid _ from fun j hj q hq => ?_), HZ3.out, HO3.out, BW3.out⟩
                rcases List.mem_append.1 hj with hj | hj
                · exact HV1.out j hj q hq
                · simp only [List.mem_singleton] at hj
                  subst hj
                  rw [HMI.out] at hq
                  injection hq with hq
                  subst hq
                  omega
end Go.Proofs.Ytgcnklnhambpjaa
