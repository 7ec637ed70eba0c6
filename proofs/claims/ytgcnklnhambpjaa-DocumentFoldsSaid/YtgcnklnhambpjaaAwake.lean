/- The example of the law package holds. -/
import Derived.Test.YtgcnklnhambpjaaAwakeF
import Derived.Test.YtgcnklnhambpjaaEqD
namespace Go.Proofs.Ytgcnklnhambpjaa
open Go.RowKit
theorem infoM' : (Try.prog.info? 23).map (fun i => (i.zero, i.size, i.bytes)) = some (some (.agg #[.int .i64 0, .int .i64 0, .int .i64 0, .int .i64 0, .int .i64 0, .int .i64 0, .int .i64 0]), 7, 56) := by kernel_rfl
theorem ofE (A : Option Addr) (c : Nat) (W : World) (hR : Rd EMsg W A exL) : Calls Try.prog 18 #[.slice A 3 c, .int .i64 5] W fun e w' => e = .returned (.tuple #[.agg #[.int .i64 5, .int .i64 2, .int .i64 1, .int .i64 3, .int .i64 100, .int .i64 98, .int .i64 1], .int .i64 0]) ∧ Below W.heap.size W w' := by
  have h := ofT_any exL 5 A c W hR
  unfold OfTPost at h
  rw [awk4] at h
  exact h
theorem ofE2 (A : Option Addr) (c : Nat) (W : World) (hR : Rd EMsg W A (exL ++ [⟨5, 3, 0, 4, 0, 0, 97⟩])) : Calls Try.prog 18 #[.slice A 4 c, .int .i64 5] W fun e w' => e = .returned (.tuple #[.agg #[.int .i64 5, .int .i64 5, .int .i64 0, .int .i64 0, .int .i64 0, .int .i64 0, .int .i64 0], .int .i64 0]) ∧ Below W.heap.size W w' := by
  have h := ofT_any _ 5 A c W hR
  unfold OfTPost at h
  rw [awk5] at h
  exact h
theorem openE (A : Option Addr) (c : Nat) (W : World) (hR : Rd EMsg W A (exL.take 1)) : Calls Try.prog 22 #[.slice A 1 c, .int .i64 2] W fun e w' => e = .returned (.tuple #[.int .i64 100, .int .i64 0]) ∧ Below W.heap.size W w' := by
  have h := openT_any _ 2 A c W hR (by unfold allP SeOK; rw [awk3]; decide +kernel)
  rw [awk6] at h
  exact h
theorem allE (A : Option Addr) (c : Nat) (W : World) (hR : Rd EMsg W A exL) : Calls Try.prog 20 #[.slice A 3 c] W (Made2 EDoc 35 [wantD] 0 W) := by
  have h := allT_any exL A c W hR
  rw [awk7] at h
  exact h
theorem lateE (W : World) : Calls Try.prog 25 #[.agg #[.int .i64 5, .int .i64 2, .int .i64 1, .int .i64 3, .int .i64 100, .int .i64 98, .int .i64 1], .agg #[.int .i64 5, .int .i64 5, .int .i64 0, .int .i64 0, .int .i64 0, .int .i64 0, .int .i64 0]] W (LatPost true W) := by
  have h := later_any wantD ⟨5, 5, 0, 0, 0, 0, 0⟩ W
  rw [awk8] at h
  exact h
theorem lateE2 (W : World) : Calls Try.prog 25 #[.agg #[.int .i64 5, .int .i64 5, .int .i64 0, .int .i64 0, .int .i64 0, .int .i64 0, .int .i64 0], .agg #[.int .i64 5, .int .i64 2, .int .i64 1, .int .i64 3, .int .i64 100, .int .i64 98, .int .i64 1]] W (LatPost false W) := by
  have h := later_any ⟨5, 5, 0, 0, 0, 0, 0⟩ wantD W
  rw [awk9] at h
  exact h
theorem chkE (W : World) : Calls Try.prog 15 #[.agg #[.int .i64 5, .int .i64 1, .int .i64 0, .int .i64 1, .int .i64 1, .int .i64 2, .int .i64 100]] W fun e w' => e = .returned (.int .i64 0) ∧ Below W.heap.size W w' := by
  have h := check_any ⟨5, 1, 0, 1, 1, 2, 100⟩ W
  unfold ChkPost at h
  rw [awk10] at h
  exact h
set_option maxHeartbeats 8000000 in
set_option maxRecDepth 100000 in
theorem awake_any (w : World) : Calls Try.prog 10 #[] w (LatPost true w) := by
  obtain ⟨i0, hi, hzz⟩ := Option.map_eq_some_iff.1 infoM'
  simp only [Prod.mk.injEq] at hzz
  obtain ⟨hz0, hz1, hz2⟩ := hzz
  unfold LatPost
  have HI : Hid (Try.prog.info? 23 = some i0 ∧ i0.zero = some (.agg #[.int .i64 0, .int .i64 0, .int .i64 0, .int .i64 0, .int .i64 0, .int .i64 0, .int .i64 0]) ∧ i0.size = 7 ∧ i0.bytes = 56) := ⟨hi, hz0, hz1, hz2⟩
  clear hi hz0 hz1 hz2
  go_enter Try.func10, Try.ntmps10
  go_wp2_with fail
  refine (ex_any _).mono ?_
  rintro e w1 ⟨rfl, hO, hR, hb⟩
  have HB1 := hid_of hb
  have hc := ofE _ 3 _ hR
  clear hR hO hb
  go_wp2_with fail
  refine hc.mono ?_
  clear hc
  rintro e w2 ⟨rfl, hb⟩
  have HB2 := hid_of (below_then HB1.out HB1.out.size hb)
  clear hb HB1
  go_wp2_with fail
  refine (ex_any _).mono ?_
  rintro e w3 ⟨rfl, hO, _, hb⟩
  have hd1 : w3.heap[w2.heap.size]? = some (.cells #[.int .i64 5, .int .i64 2, .int .i64 1, .int .i64 3, .int .i64 100, .int .i64 98, .int .i64 1] 35 (0, 0)) := (hb.block _ (by simp)).trans (blkN w2 _)
  have HB3 := hid_of (below_then (HB2.out.alloc HB2.out.size (.cells #[.int .i64 5, .int .i64 2, .int .i64 1, .int .i64 3, .int .i64 100, .int .i64 98, .int .i64 1] 35)) (by have := HB2.out.size; simp; omega) hb)
  have HD1 := hid_of hd1
  have HO3 := hid_of hO
  have HB2S := hid_of HB2.out.size
  clear hd1 hO hb HB2
  have HGE : Hid ((w2.alloc (.cells #[.int .i64 5, .int .i64 2, .int .i64 1, .int .i64 3, .int .i64 100, .int .i64 98, .int .i64 1] 35)).heap.size ≠ w2.heap.size) := by show _ ≠ _; simp
  have HGW : Hid (w.heap.size ≤ (w2.alloc (.cells #[.int .i64 5, .int .i64 2, .int .i64 1, .int .i64 3, .int .i64 100, .int .i64 98, .int .i64 1] 35)).heap.size) := by show _ ≤ _; have := HB2S.out; simp; omega
  generalize (w2.alloc (.cells #[.int .i64 5, .int .i64 2, .int .i64 1, .int .i64 3, .int .i64 100, .int .i64 98, .int .i64 1] 35)).heap.size = g3 at HO3 HGE HGW ⊢
  have hg3 := (HO3.out.block g3 rfl).2
  go_wp2_with (at_builtin; refine wpList_append_own _ rfl _ _ 24 rfl g3 23 i0 _ 7 56 Try.underlying24 HI.out.1 HI.out.2.1 HI.out.2.2.1 HI.out.2.2.2 rfl (by decide) _ _ _ rfl (HO3.out.alloc _) _ 1 _ (EMsg.flat [⟨5, 3, 0, 4, 0, 0, 97⟩]) rfl ?qc1 ?qc2 ?qc3 ?qc4 ?qc5 ?qc6 ?_)
  case qc1 => rfl
  case qc2 =>
    intro j u hj
    rw [addr_plain, blk_cell (blkN _ _) j]
    simpa [Enc.flat, EMsg, Msg.cells] using hj
  case qc3 => exact EMsg.flat_one' _
  case qc4 => decide
  case qc5 => decide
  case qc6 => simp; omega
  intro v' w4 hown hgrow hnil
  have hown' : Own EMsg 23 w4 g3 v' (exL ++ [⟨5, 3, 0, 4, 0, 0, 97⟩]) := hown
  obtain ⟨A4, c4, rfl, _, hR⟩ := hown'.rd
  have hg2 : w2.heap.size < w3.heap.size := (Array.getElem?_eq_some_iff.1 HD1.out).1
  have hgne : g3 ≠ w2.heap.size := HGE.out
  have hgw : w.heap.size ≤ g3 := HGW.out
  have hd1 : w4.heap[w2.heap.size]? = some (.cells #[.int .i64 5, .int .i64 2, .int .i64 1, .int .i64 3, .int .i64 100, .int .i64 98, .int .i64 1] 35 (0, 0)) := blkG (blkA HD1.out) hgrow (by simp [Value.ownBlock]; omega)
  have HB4 := hid_of ((HB3.out.alloc HB3.out.size (.cells #[.int .i64 5, .int .i64 3, .int .i64 0, .int .i64 4, .int .i64 0, .int .i64 0, .int .i64 97] 23)).grown hgrow (by have := HB3.out.size; simp; omega) (by intro k hk; simp [Value.ownBlock] at hk; omega))
  have HD4 := hid_of hd1
  have hc := ofE2 _ c4 _ hR
  clear hd1 hown hown' hgrow hnil hR HB3 HD1 HO3 HGE HGW hgne hgw hg3 hg2
  go_wp2_with fail
  refine hc.mono ?_
  rintro e w5 ⟨rfl, hb⟩
  have HD5 := hid_of ((hb.block _ (Array.getElem?_eq_some_iff.1 HD4.out).1).trans HD4.out)
  have HB5 := hid_of (below_then HB4.out HB4.out.size hb)
  clear hb HB4 HD4 hc
  go_wp2_with fail
  refine (ex_any _).mono ?_
  rintro e w6 ⟨rfl, hO, hR, hb⟩
  have HE6 : Hid (w6.heap[w5.heap.size]? = some (.cells #[.int .i64 5, .int .i64 5, .int .i64 0, .int .i64 0, .int .i64 0, .int .i64 0, .int .i64 0] 35 (0, 0))) := (hb.block _ (by simp)).trans (blkN w5 _)
  have hs5 := (Array.getElem?_eq_some_iff.1 HD5.out).1
  have HD6 := hid_of ((hb.block _ (by simp; omega)).trans (blkA HD5.out (o' := .cells #[.int .i64 5, .int .i64 5, .int .i64 0, .int .i64 0, .int .i64 0, .int .i64 0, .int .i64 0] 35)))
  have HB6 := hid_of (below_then (HB5.out.alloc HB5.out.size (.cells #[.int .i64 5, .int .i64 5, .int .i64 0, .int .i64 0, .int .i64 0, .int .i64 0, .int .i64 0] 35)) (by have := HB5.out.size; simp; omega) hb)
  rw [World.size_alloc] at hR
  have hc := openE _ 3 _ (hR.take 1)
  clear hR hO hb HB5 HD5
  go_wp2_with fail
  refine hc.mono ?_
  clear hc
  rintro e w7 ⟨rfl, hb⟩
  have HD7 := hid_of ((hb.block _ (Array.getElem?_eq_some_iff.1 HD6.out).1).trans HD6.out)
  have HE7 := hid_of ((hb.block _ (Array.getElem?_eq_some_iff.1 HE6.out).1).trans HE6.out)
  have HB7 := hid_of (below_then HB6.out HB6.out.size hb)
  clear hb HB6 HD6 HE6
  go_wp2_with fail
  refine (ex_any _).mono ?_
  rintro e w8 ⟨rfl, hO, hR, hb⟩
  have HD8 := hid_of ((hb.block _ (Array.getElem?_eq_some_iff.1 HD7.out).1).trans HD7.out)
  have HE8 := hid_of ((hb.block _ (Array.getElem?_eq_some_iff.1 HE7.out).1).trans HE7.out)
  have HB8 := hid_of (below_then HB7.out HB7.out.size hb)
  have hc := allE _ 3 _ hR
  clear hR hO hb HB7 HD7 HE7
  go_wp2_with fail
  refine hc.mono ?_
  clear hc
  rintro e w9 ⟨v9, rfl, hO, hb⟩
  obtain ⟨A9, c9, rfl, _, hR⟩ := hO.rd
  have HR9 := hid_of hR
  have HD9 := hid_of ((hb.block _ (Array.getElem?_eq_some_iff.1 HD8.out).1).trans HD8.out)
  have HE9 := hid_of ((hb.block _ (Array.getElem?_eq_some_iff.1 HE8.out).1).trans HE8.out)
  have HB9 := hid_of (below_then HB8.out HB8.out.size hb)
  clear hb hO hR HB8 HD8 HE8
  go_upto_region 6 with (fail)
  refine nameW (fun W hW => ?_)
  have HD := hid_of ((congrArg (fun w => w.heap[w2.heap.size]?) hW).trans (blkA HD9.out))
  have HE := hid_of ((congrArg (fun w => w.heap[w5.heap.size]?) hW).trans (blkA HE9.out))
  have HF := hid_of ((congrArg (fun w => w.heap[w9.heap.size]?) hW).trans (blkN w9 (.cells #[.int .i64 5, .int .i64 2, .int .i64 1, .int .i64 3, .int .i64 100, .int .i64 98, .int .i64 1] 35)))
  have HB : Hid (Below w.heap.size w W) := by show Below _ _ _; rw [hW]; exact HB9.out.alloc HB9.out.size _
  have HR : Hid (Rd EDoc W A9 [wantD]) := by show Rd _ _ _ _; rw [hW]; exact HR9.out.alloc _
  clear hW HD9 HE9 HB9 HR9
  have d0 := (blk_cell HD.out 0).trans (show _ = some (.int .i64 5) from rfl)
  have d1 := (blk_cell HD.out 1).trans (show _ = some (.int .i64 2) from rfl)
  have d2 := (blk_cell HD.out 2).trans (show _ = some (.int .i64 1) from rfl)
  have d3 := (blk_cell HD.out 3).trans (show _ = some (.int .i64 3) from rfl)
  have d4 := (blk_cell HD.out 4).trans (show _ = some (.int .i64 100) from rfl)
  have d5 := (blk_cell HD.out 5).trans (show _ = some (.int .i64 98) from rfl)
  have d6 := (blk_cell HD.out 6).trans (show _ = some (.int .i64 1) from rfl)
  have e0 := (blk_cell HE.out 0).trans (show _ = some (.int .i64 5) from rfl)
  have e1 := (blk_cell HE.out 1).trans (show _ = some (.int .i64 5) from rfl)
  have e2 := (blk_cell HE.out 2).trans (show _ = some (.int .i64 0) from rfl)
  have e3 := (blk_cell HE.out 3).trans (show _ = some (.int .i64 0) from rfl)
  have e4 := (blk_cell HE.out 4).trans (show _ = some (.int .i64 0) from rfl)
  have e5 := (blk_cell HE.out 5).trans (show _ = some (.int .i64 0) from rfl)
  have e6 := (blk_cell HE.out 6).trans (show _ = some (.int .i64 0) from rfl)
  have f0 := (blk_cell HF.out 0).trans (show _ = some (.int .i64 5) from rfl)
  have f1 := (blk_cell HF.out 1).trans (show _ = some (.int .i64 2) from rfl)
  have f2 := (blk_cell HF.out 2).trans (show _ = some (.int .i64 1) from rfl)
  have f3 := (blk_cell HF.out 3).trans (show _ = some (.int .i64 3) from rfl)
  have f4 := (blk_cell HF.out 4).trans (show _ = some (.int .i64 100) from rfl)
  have f5 := (blk_cell HF.out 5).trans (show _ = some (.int .i64 98) from rfl)
  have f6 := (blk_cell HF.out 6).trans (show _ = some (.int .i64 1) from rfl)
  have sd := (Array.getElem?_eq_some_iff.1 HD.out).1
  have se := (Array.getElem?_eq_some_iff.1 HE.out).1
  have sf := (Array.getElem?_eq_some_iff.1 HF.out).1
  go_wp2_with fail
  clear d0 d1 d2 d3 d4 d5 d6 e0 e1 e2 e3 e4 e5 e6 f0 f1 f2 f3 f4 f5 f6 sd se sf
  have hO : Own EDoc 35 (W.alloc (.cells #[.int .i64 5, .int .i64 2, .int .i64 1, .int .i64 3, .int .i64 100, .int .i64 98, .int .i64 1] 35)) W.heap.size (.slice (some ⟨W.heap.size, 0, none⟩) 1 1) [wantD] :=
    ⟨rfl, .inr ⟨_, 1, _, rfl, Nat.le_refl _, blkN _ _, by decide, by decide, by decide, by rfl⟩⟩
  have hR2 : Rd EDoc (W.alloc (.cells #[.int .i64 5, .int .i64 2, .int .i64 1, .int .i64 3, .int .i64 100, .int .i64 98, .int .i64 1] 35)) (some ⟨W.heap.size, 0, none⟩) [wantD] := by
    obtain ⟨A, c, hv, _, hR⟩ := hO.rd
    injection hv with h1 h2 h3
    rw [h1]; exact hR
  have hc : Calls Try.prog 34 #[.slice A9 1 c9, .slice (some ⟨W.heap.size, 0, none⟩) 1 1] (W.alloc (.cells #[.int .i64 5, .int .i64 2, .int .i64 1, .int .i64 3, .int .i64 100, .int .i64 98, .int .i64 1] 35)) fun e w' => e = .returned (.bool true) ∧ Below (W.alloc (.cells #[.int .i64 5, .int .i64 2, .int .i64 1, .int .i64 3, .int .i64 100, .int .i64 98, .int .i64 1] 35)).heap.size (W.alloc (.cells #[.int .i64 5, .int .i64 2, .int .i64 1, .int .i64 3, .int .i64 100, .int .i64 98, .int .i64 1] 35)) w' := by
    have h := equalD [wantD] [wantD] A9 (some ⟨W.heap.size, 0, none⟩) c9 1 _ (HR.out.alloc _) hR2
    rw [show decide ([wantD] = [wantD]) = true by simp] at h
    exact h
  clear hO hR2 HR HF
  refine hc.mono ?_
  clear hc
  rintro e x1 ⟨rfl, hb⟩
  have HB1 := hid_of (below_then (HB.out.alloc HB.out.size _) (by have := HB.out.size; simp; omega) hb)
  have hD := (hb.block _ (Array.getElem?_eq_some_iff.1 (blkA HD.out)).1).trans (blkA HD.out)
  have hE := (hb.block _ (Array.getElem?_eq_some_iff.1 (blkA HE.out)).1).trans (blkA HE.out)
  clear HD HE hb HB
  have HD := hid_of hD
  have HE := hid_of hE
  clear hD hE
  have d0 := (blk_cell HD.out 0).trans (show _ = some (.int .i64 5) from rfl)
  have d1 := (blk_cell HD.out 1).trans (show _ = some (.int .i64 2) from rfl)
  have d2 := (blk_cell HD.out 2).trans (show _ = some (.int .i64 1) from rfl)
  have d3 := (blk_cell HD.out 3).trans (show _ = some (.int .i64 3) from rfl)
  have d4 := (blk_cell HD.out 4).trans (show _ = some (.int .i64 100) from rfl)
  have d5 := (blk_cell HD.out 5).trans (show _ = some (.int .i64 98) from rfl)
  have d6 := (blk_cell HD.out 6).trans (show _ = some (.int .i64 1) from rfl)
  have e0 := (blk_cell HE.out 0).trans (show _ = some (.int .i64 5) from rfl)
  have e1 := (blk_cell HE.out 1).trans (show _ = some (.int .i64 5) from rfl)
  have e2 := (blk_cell HE.out 2).trans (show _ = some (.int .i64 0) from rfl)
  have e3 := (blk_cell HE.out 3).trans (show _ = some (.int .i64 0) from rfl)
  have e4 := (blk_cell HE.out 4).trans (show _ = some (.int .i64 0) from rfl)
  have e5 := (blk_cell HE.out 5).trans (show _ = some (.int .i64 0) from rfl)
  have e6 := (blk_cell HE.out 6).trans (show _ = some (.int .i64 0) from rfl)
  have sd := (Array.getElem?_eq_some_iff.1 HD.out).1
  have se := (Array.getElem?_eq_some_iff.1 HE.out).1
  go_wp2_with fail
  refine (lateE _).mono ?_
  rintro e x2 ⟨rfl, hb⟩
  have HB2 := hid_of (below_then HB1.out HB1.out.size hb)
  have hD := (hb.block _ (Array.getElem?_eq_some_iff.1 HD.out).1).trans HD.out
  have hE := (hb.block _ (Array.getElem?_eq_some_iff.1 HE.out).1).trans HE.out
  clear d0 d1 d2 d3 d4 d5 d6 e0 e1 e2 e3 e4 e5 e6 sd se
  clear HD HE hb HB1
  have HD := hid_of hD
  have HE := hid_of hE
  clear hD hE
  have d0 := (blk_cell HD.out 0).trans (show _ = some (.int .i64 5) from rfl)
  have d1 := (blk_cell HD.out 1).trans (show _ = some (.int .i64 2) from rfl)
  have d2 := (blk_cell HD.out 2).trans (show _ = some (.int .i64 1) from rfl)
  have d3 := (blk_cell HD.out 3).trans (show _ = some (.int .i64 3) from rfl)
  have d4 := (blk_cell HD.out 4).trans (show _ = some (.int .i64 100) from rfl)
  have d5 := (blk_cell HD.out 5).trans (show _ = some (.int .i64 98) from rfl)
  have d6 := (blk_cell HD.out 6).trans (show _ = some (.int .i64 1) from rfl)
  have e0 := (blk_cell HE.out 0).trans (show _ = some (.int .i64 5) from rfl)
  have e1 := (blk_cell HE.out 1).trans (show _ = some (.int .i64 5) from rfl)
  have e2 := (blk_cell HE.out 2).trans (show _ = some (.int .i64 0) from rfl)
  have e3 := (blk_cell HE.out 3).trans (show _ = some (.int .i64 0) from rfl)
  have e4 := (blk_cell HE.out 4).trans (show _ = some (.int .i64 0) from rfl)
  have e5 := (blk_cell HE.out 5).trans (show _ = some (.int .i64 0) from rfl)
  have e6 := (blk_cell HE.out 6).trans (show _ = some (.int .i64 0) from rfl)
  have sd := (Array.getElem?_eq_some_iff.1 HD.out).1
  have se := (Array.getElem?_eq_some_iff.1 HE.out).1
  go_wp2_with fail
  refine (lateE2 _).mono ?_
  rintro e x3 ⟨rfl, hb⟩
  have HB3 := hid_of (below_then HB2.out HB2.out.size hb)
  clear d0 d1 d2 d3 d4 d5 d6 e0 e1 e2 e3 e4 e5 e6 sd se
  clear HD HE hb HB2
  go_wp2_with fail
  refine (ex_any _).mono ?_
  rintro e x4 ⟨rfl, hO, hR, hb⟩
  have HB4 := hid_of (below_then HB3.out HB3.out.size hb)
  clear hb hO HB3
  obtain ⟨ad, had, c0, c1, c2, c3, c4, c5, c6⟩ := Msg.at_ hR 0 (by decide)
  simp only [Option.some.injEq] at had
  subst had
  simp only [addr_plain, Nat.zero_mul, Nat.zero_add, exL, List.getElem_cons_zero] at c0 c1 c2 c3 c4 c5 c6
  clear hR
  go_wp2_with fail
  refine (chkE _).mono ?_
  rintro e x5 ⟨rfl, hb⟩
  have HB5 := hid_of (below_then HB4.out HB4.out.size hb)
  clear hb HB4
  go_wp2_with fail
  go_ret
  exact ⟨rfl, HB5.out⟩
end Go.Proofs.Ytgcnklnhambpjaa
