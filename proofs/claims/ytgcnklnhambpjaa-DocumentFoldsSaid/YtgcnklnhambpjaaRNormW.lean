/- The reference's normal: the different messages in strict order, for every slice of at most 64 messages. -/
import Derived.Test.YtgcnklnhambpjaaInsU
import Derived.Test.YtgcnklnhambpjaaRLess
import Derived.Test.YtgcnklnhambpjaaCloneM
import Derived.Laws.AppendOwn
import Derived.Deep.RegionHeld3
namespace Go.Proofs.Ytgcnklnhambpjaa
open Go.RowKit
attribute [local go_sem high] eqMsg
theorem any_take_succ {α : Type} (p : α → Bool) (xs : List α) (k : Nat) (hk : k < xs.length) : (xs.take (k + 1)).any p = ((xs.take k).any p || p xs[k]) := by
  rw [List.take_succ_eq_append_getElem hk, List.any_append]; simp
theorem lessB_lt {x y : Msg} (h : lessB x y = true) : ltM x y := by
  exact (decide_eq_true_iff (p := cmpM x y < 0)).1 h
theorem lessB_nlt {x y : Msg} (h : lessB x y = false) : ¬ ltM x y := by
  exact (decide_eq_false_iff_not (p := cmpM x y < 0)).1 h
theorem keep14 {w W W' : World} {p0 p1 p2 p3 p4 p5 p6 q0 q1 q2 q3 q4 q5 q6 : Addr} {a0 a1 a2 a3 a4 a5 a6 b0 b1 b2 b3 b4 b5 b6 : Value} (h : Below w.heap.size w W ∧ W.cell? p0 = some a0 ∧ W.cell? p1 = some a1 ∧ W.cell? p2 = some a2 ∧ W.cell? p3 = some a3 ∧ W.cell? p4 = some a4 ∧ W.cell? p5 = some a5 ∧ W.cell? p6 = some a6 ∧ W.cell? q0 = some b0 ∧ W.cell? q1 = some b1 ∧ W.cell? q2 = some b2 ∧ W.cell? q3 = some b3 ∧ W.cell? q4 = some b4 ∧ W.cell? q5 = some b5 ∧ W.cell? q6 = some b6) (k : Below W.heap.size W W') : Below w.heap.size w W' ∧ W'.cell? p0 = some a0 ∧ W'.cell? p1 = some a1 ∧ W'.cell? p2 = some a2 ∧ W'.cell? p3 = some a3 ∧ W'.cell? p4 = some a4 ∧ W'.cell? p5 = some a5 ∧ W'.cell? p6 = some a6 ∧ W'.cell? q0 = some b0 ∧ W'.cell? q1 = some b1 ∧ W'.cell? q2 = some b2 ∧ W'.cell? q3 = some b3 ∧ W'.cell? q4 = some b4 ∧ W'.cell? q5 = some b5 ∧ W'.cell? q6 = some b6 := by
  obtain ⟨h0, h1, h2, h3, h4, h5, h6, h7, h8, h9, h10, h11, h12, h13, h14⟩ := h
  exact ⟨below_then h0 h0.size k, cell_below k h1, cell_below k h2, cell_below k h3, cell_below k h4, cell_below k h5, cell_below k h6, cell_below k h7, cell_below k h8, cell_below k h9, cell_below k h10, cell_below k h11, cell_below k h12, cell_below k h13, cell_below k h14⟩
set_option maxHeartbeats 8000000 in
set_option maxRecDepth 100000 in
theorem rnormal_any (l : List Msg) (A : Option Addr) (c : Nat) (w : World) (hR : Rd EMsg w A l) (hl64 : l.length ≤ 64) : Calls Try.prog 43 #[.slice A l.length c] w (Made EMsg 23 (normL l) w) := by
  obtain ⟨i0, hi, hzz⟩ := Option.map_eq_some_iff.1 infoM
  simp only [Prod.mk.injEq] at hzz
  obtain ⟨hz0, hz1, hz2⟩ := hzz
  have HI : Hid (Try.prog.info? 23 = some i0 ∧ i0.zero = some (.agg #[.int .i64 0, .int .i64 0, .int .i64 0, .int .i64 0, .int .i64 0, .int .i64 0, .int .i64 0]) ∧ i0.size = 7 ∧ i0.bytes = 56) := ⟨hi, hz0, hz1, hz2⟩
  clear hi hz0 hz1 hz2
  have hless := fun (a b : Msg) W => rless_any a b W
  have HR := hid_of hR
  clear hR
  go_enter Try.func43, Try.ntmps43
  go_wp2_with fail
  go_loopg [3, 4] l.length (fun gg s3 s4 wr => ∃ (k : Nat) (xs : List Msg), k ≤ l.length ∧ l.length - k ≤ gg ∧ s4 = .int .i64 k ∧ Hid (NormI l k xs) ∧ Hid (Own EMsg 23 wr w.heap.size s3 xs) ∧ Hid (Below w.heap.size w wr))
  case atStart => exact ⟨0, [], Nat.zero_le _, by omega, rfl, NormI.start l, World.ownsRow_made w #[] 0 (Nat.le_refl _) (Nat.zero_le _) (by simp), (Below.refl _ _).alloc (Nat.le_refl _) _⟩
  case round =>
    obtain ⟨k, xs, hk, hg, rfl, HN, HO, BW⟩ := hrel
    by_cases hlt : k < l.length
    · obtain ⟨ad, rfl, c0, c1, c2, c3, c4, c5, c6⟩ := Msg.at_ (HR.out.below BW.out) k hlt
      generalize hx : l[k] = x at c0 c1 c2 c3 c4 c5 c6
      have HX := hid_of hx
      clear hx
      obtain ⟨A1, c1', rfl, hcap, hR1⟩ := HO.out.rd
      have HR1 := hid_of hR1
      have hxl := HN.out.len
      clear hR1
      go_wp2_with fail
      go_loopg [5, 6] xs.length (fun gg s5 s6 wq => ∃ (kk q : Nat) (b : Bool), kk ≤ xs.length ∧ xs.length - kk ≤ gg ∧ s6 = .int .i64 kk ∧ s5 = .bool b ∧ wq = wr.drewN q ∧ Hid (b = (xs.take kk).any (fun y => decide (y = x))))
      case atStart => exact ⟨0, 0, false, Nat.zero_le _, by omega, rfl, rfl, rfl, rfl⟩
      case round =>
        obtain ⟨kk, q, b, hkk, hgk, rfl, rfl, rfl, HB⟩ := hrel
        by_cases hltk : kk < xs.length
        · have hat := any_take_succ (fun y => decide (y = x)) xs kk hltk
          rw [← HB.out] at hat
          obtain ⟨ad1, rfl, d0, d1, d2, d3, d4, d5, d6⟩ := Msg.at_ HR1.out kk hltk
          generalize hy : xs[kk] = y at d0 d1 d2 d3 d4 d5 d6 hat
          have HAT := hid_of hat
          clear hat hy
          cases b with
          | true =>
            clear d0 d1 d2 d3 d4 d5 d6
            go_wp2_with fail
            go_quiet (fail)
            go_wp2_with fail
            go_roundg (xs.length - (kk + 1))
            case measure => omega
            case rel => exact ⟨kk + 1, q + nq, true, by omega, Nat.le_refl _, by go_num, rfl, by first | rfl | simp [World.drewN, Nat.add_assoc] | exact World.drewN_add .., (show Hid _ from by show _ = _; rw [HAT.out]; rfl)⟩
          | false =>
            by_cases hxy : y = x
            · have hd : decide (y = x) = true := by simpa using hxy
              subst hxy
              clear hd
              go_wp2_with fail
              go_quiet (fail)
              go_wp2_with fail
              go_roundg (xs.length - (kk + 1))
              case measure => omega
              case rel => exact ⟨kk + 1, q + nq, true, by omega, Nat.le_refl _, by go_num, rfl, by first | rfl | simp [World.drewN, Nat.add_assoc] | exact World.drewN_add .., (show Hid _ from by show _ = _; rw [HAT.out]; simp)⟩
            · have hd : decide (y = x) = false := by simpa using hxy
              have HXY := hid_of hxy
              clear hxy
              go_wp2_with fail
              go_quiet (fail)
              go_wp2_with fail
              go_roundg (xs.length - (kk + 1))
              case measure => omega
              case rel => exact ⟨kk + 1, q + nq, false, by omega, Nat.le_refl _, by go_num, rfl, by first | rfl | simp [World.drewN, Nat.add_assoc] | exact World.drewN_add .., (show Hid _ from by show _ = _; rw [HAT.out]; simp [HXY.out])⟩
        · have hkx : kk = xs.length := by omega
          subst hkx
          cases b with
          | true =>
            go_wp2_with fail
            go_roundg (l.length - (k + 1))
            case measure => omega
            case rel =>
              refine ⟨k + 1, xs, by omega, Nat.le_refl _, by go_num, HN.out.skip hlt ?_, HO.out.drewN _, below_drewN BW.out _⟩
              have hb := HB.out
              rw [List.take_length] at hb
              obtain ⟨y, hy, he⟩ := List.any_eq_true.1 hb.symm
              rw [HX.out, ← of_decide_eq_true he]; exact hy
          | false =>
            have HNX : Hid (x ∉ xs) := by
              show x ∉ xs
              intro hmem
              have hb := HB.out
              rw [List.take_length] at hb
              exact absurd (List.any_eq_false.1 hb.symm x hmem) (by simp)
            clear HB
            have hxb := BW.out.size
            go_wp2_with (at_builtin; refine wpList_append_own _ rfl _ _ 24 rfl w.heap.size 23 i0 _ 7 56 Try.underlying24 HI.out.1 HI.out.2.1 HI.out.2.2.1 HI.out.2.2.2 rfl (by decide) _ _ _ rfl ((HO.out.drewN _).alloc _) _ 1 _ (EMsg.flat [x]) rfl ?qc1 ?qc2 ?qc3 ?qc4 ?qc5 ?qc6 ?_)
            case qc1 => rfl
            case qc2 =>
              intro j u hj
              have hb := blkN (wr.drewN q) (.cells #[.int .i64 x.mv, .int .i64 x.kd, .int .i64 x.nu, .int .i64 x.dy, .int .i64 x.fr, .int .i64 x.tt, .int .i64 x.al] 23)
              rw [show (wr.drewN q).heap.size = wr.heap.size from rfl] at hb
              rw [addr_plain, blk_cell hb j]
              simpa [Enc.flat, EMsg, Msg.cells] using hj
            case qc3 => exact EMsg.flat_one' _
            case qc4 => simp only [maxLen]; omega
            case qc5 => omega
            case qc6 => simp; omega
            intro v' w1 hown hgrow hnil
            have hown' : Own EMsg 23 w1 w.heap.size v' (xs ++ [x]) := by
              unfold Own; rw [EMsg.flat_append, List.length_append, List.length_singleton]; exact hown
            have hnb := fun k h => (HO.out.block k h).1
            have HB1 := hid_of (((below_drewN BW.out q).alloc hxb (.cells #[.int .i64 x.mv, .int .i64 x.kd, .int .i64 x.nu, .int .i64 x.dy, .int .i64 x.fr, .int .i64 x.tt, .int .i64 x.al] 23)).grown hgrow (by simp; omega) hnb)
            obtain ⟨g, cap, hv', hbg, hgl, hcap'⟩ := hown'.open_ (by simp)
            subst hv'
            have hrow := hown'.row
            have HRow := hid_of hrow.1
            have HBG := hid_of hbg
            have hcapl := hrow.1.cap_le
            have hll : (xs ++ [x]).length = xs.length + 1 := by simp
            rw [hll] at hcap'
            clear hown hown' hgrow hnil hnb HO BW hbg hrow c0 c1 c2 c3 c4 c5 c6 hgl HR1
            rw [hll]
            clear hll
            go_wp2_with fail
            go_loopg [7] xs.length (fun gg s7 wi => ∃ (j : Nat) (ys : List Msg), j ≤ xs.length ∧ j ≤ gg ∧ s7 = .int .i64 j ∧ Hid (InsI xs x j ys) ∧ Hid (Row EMsg 23 wi g cap ys) ∧ Hid (Below w.heap.size w wi))
            case atStart => exact ⟨xs.length, _, Nat.le_refl _, Nat.le_refl _, rfl, InsI.start xs x, HRow.out, HB1.out⟩
            case round =>
              obtain ⟨j, ys, hjl, hjg, rfl, HJ, HRw, BI⟩ := hrel
              have hown : Hid (Own EMsg 23 wr w.heap.size (.slice (some ⟨g, 0, none⟩) (xs.length + 1) cap) ys) := by
                have h := HRw.out.own HBG.out
                rw [HJ.out.len] at h
                exact h
              by_cases hj0 : j = 0
              · subst hj0
                go_wp2_with fail
                go_quiet (fail)
                go_wp2_with fail
                go_roundg (l.length - (k + 1))
                case measure => omega
                case rel => exact ⟨k + 1, ys, by omega, Nat.le_refl _, by go_num, HN.out.add hlt HX.out HNX.out HJ.out (.inl rfl), hown.out.drewN _, below_drewN BI.out _⟩
              · have hj1 : 1 ≤ j := by omega
                have hwr : IntKind.i64.wrap ((j : Int) - 1) = ((j - 1 : Nat) : Int) := by rw [IntKind.wrap_i64]; omega
                have hjp : 0 < j := by omega
                have hjb : (j : Int) < (xs.length : Int) + 1 := by omega
                have hjb2 : j < xs.length + 1 := by omega
                have hjb3 : ((j - 1 : Nat) : Int) < (xs.length : Int) + 1 := by omega
                have hjb4 : j - 1 < xs.length + 1 := by omega
                have hjd : decide ((0 : Int) < (j : Int)) = true := by simp; omega
                have hyl := HJ.out.len
                obtain ⟨ad, had, c0, c1, c2, c3, c4, c5, c6⟩ := Msg.at_ HRw.out.rd j (by omega)
                obtain ⟨ad', had', d0, d1, d2, d3, d4, d5, d6⟩ := Msg.at_ HRw.out.rd (j - 1) (by omega)
                cases had
                cases had'
                simp only [addr_plain] at c0 c1 c2 c3 c4 c5 c6 d0 d1 d2 d3 d4 d5 d6
                rw [HJ.out.here] at c0 c1 c2 c3 c4 c5 c6
                rw [HJ.out.prev (by omega)] at d0 d1 d2 d3 d4 d5 d6
                generalize hp : xs[j - 1]'(by omega) = y at d0 d1 d2 d3 d4 d5 d6
                have HP := hid_of hp
                clear hp hj0
                have HC := hid_of (And.intro c0 (And.intro c1 (And.intro c2 (And.intro c3 (And.intro c4 (And.intro c5 c6))))))
                have HD := hid_of (And.intro d0 (And.intro d1 (And.intro d2 (And.intro d3 (And.intro d4 (And.intro d5 d6))))))
                have HS0 := hid_of (show _ ∧ _ ∧ _ ∧ _ ∧ _ ∧ _ ∧ _ ∧ _ ∧ _ ∧ _ ∧ _ ∧ _ ∧ _ ∧ _ ∧ _ from ⟨(below_drewN (Below.refl _ _) 1 : Below wr.heap.size wr wr.drew), (c0 : wr.drew.cell? _ = _), (c1 : wr.drew.cell? _ = _), (c2 : wr.drew.cell? _ = _), (c3 : wr.drew.cell? _ = _), (c4 : wr.drew.cell? _ = _), (c5 : wr.drew.cell? _ = _), (c6 : wr.drew.cell? _ = _), (d0 : wr.drew.cell? _ = _), (d1 : wr.drew.cell? _ = _), (d2 : wr.drew.cell? _ = _), (d3 : wr.drew.cell? _ = _), (d4 : wr.drew.cell? _ = _), (d5 : wr.drew.cell? _ = _), (d6 : wr.drew.cell? _ = _)⟩)
                clear c0 c1 c2 c3 c4 c5 c6 d0 d1 d2 d3 d4 d5 d6
                have hls := fun W => hless x y W
                by_cases hxy : lessB x y = true
                · rw [hxy] at hls
                  have HXY := hid_of hxy
                  clear hxy hless
                  go_wp2_with fail
                  go_region_held3 (fun w' => Below wr.heap.size wr w' ∧ w'.cell? ⟨g, j * 7, none⟩ = some (.int .i64 x.mv) ∧ w'.cell? ⟨g, j * 7 + 1, none⟩ = some (.int .i64 x.kd) ∧ w'.cell? ⟨g, j * 7 + 2, none⟩ = some (.int .i64 x.nu) ∧ w'.cell? ⟨g, j * 7 + 3, none⟩ = some (.int .i64 x.dy) ∧ w'.cell? ⟨g, j * 7 + 4, none⟩ = some (.int .i64 x.fr) ∧ w'.cell? ⟨g, j * 7 + 5, none⟩ = some (.int .i64 x.tt) ∧ w'.cell? ⟨g, j * 7 + 6, none⟩ = some (.int .i64 x.al) ∧ w'.cell? ⟨g, (j - 1) * 7, none⟩ = some (.int .i64 y.mv) ∧ w'.cell? ⟨g, (j - 1) * 7 + 1, none⟩ = some (.int .i64 y.kd) ∧ w'.cell? ⟨g, (j - 1) * 7 + 2, none⟩ = some (.int .i64 y.nu) ∧ w'.cell? ⟨g, (j - 1) * 7 + 3, none⟩ = some (.int .i64 y.dy) ∧ w'.cell? ⟨g, (j - 1) * 7 + 4, none⟩ = some (.int .i64 y.fr) ∧ w'.cell? ⟨g, (j - 1) * 7 + 5, none⟩ = some (.int .i64 y.tt) ∧ w'.cell? ⟨g, (j - 1) * 7 + 6, none⟩ = some (.int .i64 y.al))
                    (first
                      | exact HS0.out
                      | exact keep14 (by assumption) hbk)
                    (first
                      | (go_at_call 59; with_reducible (refine (hls _).mono ?_); rintro e w' ⟨rfl, hbk⟩))
                  go_wp2
                  go_split_ands
                  have hbw : Below wr.heap.size wr w' := by assumption
                  have hfz := fun i => (HRw.out.below hbw).frozen i
                  have HRW := hid_of (HRw.out.below hbw)
                  have HBW := hid_of (below_then BI.out BI.out.size hbw)
                  clear hbk hbw HC HD HS0 hls
                  go_region
                  clear hfz
                  have hs1 := HRW.out.set (j - 1) (by omega) x
                  have hs2 := hs1.1.set j (by rw [List.length_set]; omega) y
                  have HS1 := hid_of hs1.2
                  have HS2 := hid_of hs2
                  clear hs1 hs2
                  go_wp2_with fail
                  go_roundg (j - 1)
                  case measure => omega
                  case rel =>
                    refine ⟨j - 1, (ys.set (j - 1) x).set j y, by omega, Nat.le_refl _, by go_num, HJ.out.step (by omega) HP.out (lessB_lt HXY.out), HS2.out.1.drew, ?_⟩
                    exact ((HBW.out.grown HS1.out HBW.out.size (fun k hk => by cases hk; exact HBG.out)).grown HS2.out.2 (by have := HS1.out.size; have := HBW.out.size; omega) (fun k hk => by cases hk; exact HBG.out)).drew
                · have hxy' : lessB x y = false := by simpa using hxy
                  rw [hxy'] at hls
                  have HXY := hid_of hxy'
                  clear hxy hxy' hless
                  go_wp2_with fail
                  go_region_held3 (fun w' => Below wr.heap.size wr w' ∧ w'.cell? ⟨g, j * 7, none⟩ = some (.int .i64 x.mv) ∧ w'.cell? ⟨g, j * 7 + 1, none⟩ = some (.int .i64 x.kd) ∧ w'.cell? ⟨g, j * 7 + 2, none⟩ = some (.int .i64 x.nu) ∧ w'.cell? ⟨g, j * 7 + 3, none⟩ = some (.int .i64 x.dy) ∧ w'.cell? ⟨g, j * 7 + 4, none⟩ = some (.int .i64 x.fr) ∧ w'.cell? ⟨g, j * 7 + 5, none⟩ = some (.int .i64 x.tt) ∧ w'.cell? ⟨g, j * 7 + 6, none⟩ = some (.int .i64 x.al) ∧ w'.cell? ⟨g, (j - 1) * 7, none⟩ = some (.int .i64 y.mv) ∧ w'.cell? ⟨g, (j - 1) * 7 + 1, none⟩ = some (.int .i64 y.kd) ∧ w'.cell? ⟨g, (j - 1) * 7 + 2, none⟩ = some (.int .i64 y.nu) ∧ w'.cell? ⟨g, (j - 1) * 7 + 3, none⟩ = some (.int .i64 y.dy) ∧ w'.cell? ⟨g, (j - 1) * 7 + 4, none⟩ = some (.int .i64 y.fr) ∧ w'.cell? ⟨g, (j - 1) * 7 + 5, none⟩ = some (.int .i64 y.tt) ∧ w'.cell? ⟨g, (j - 1) * 7 + 6, none⟩ = some (.int .i64 y.al))
                    (first
                      | exact HS0.out
                      | exact keep14 (by assumption) hbk)
                    (first
                      | (go_at_call 59; with_reducible (refine (hls _).mono ?_); rintro e w' ⟨rfl, hbk⟩))
                  go_wp2
                  go_split_ands
                  have hbw : Below wr.heap.size wr w' := by assumption
                  have HRW := hid_of (HRw.out.below hbw)
                  have HOW := hid_of (hown.out.below hbw)
                  have HBW := hid_of (below_then BI.out BI.out.size hbw)
                  clear hbk hbw HC HD HS0 hls
                  go_roundg (l.length - (k + 1))
                  case measure => omega
                  case rel =>
                    refine ⟨k + 1, ys, by omega, Nat.le_refl _, by go_num, HN.out.add hlt HX.out HNX.out HJ.out (.inr ⟨by omega, ?_⟩), HOW.out, HBW.out⟩
                    rw [HP.out]
                    exact lessB_nlt HXY.out
    · have hkl : k = l.length := by omega
      subst hkl
      go_wp2_with fail
      go_ret
      refine ⟨_, rfl, ?_, BW.out⟩
      rw [← HN.out.done]
      exact HO.out
end Go.Proofs.Ytgcnklnhambpjaa
