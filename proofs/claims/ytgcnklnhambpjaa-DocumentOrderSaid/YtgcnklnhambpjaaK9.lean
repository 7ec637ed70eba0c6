/- Joined texts of the seat: contracts and plain laws that the rows import. -/
import Derived.Test.YtgcnklnhambpjaaK8
import Derived.Test.YtgcnklnhambpjaaK7
import Derived.Deep.QuietTactic
import Derived.BigQuiet
import Derived.Test.YtgcnklnhambpjaaK1
import Derived.Deep.Slices
import Derived.Deep.Fields
import Derived.ChangeSame
import Derived.ChangeArms
import Derived.WideShapes
set_option linter.unusedVariables false
set_option linter.unusedSimpArgs false
/- The example of the law package holds. -/
namespace Go.Proofs.Ytgcnklnhambpjaa
open Go.RowKit
theorem infoM' : (Try.prog.info? 23).map (fun i => (i.zero, i.size, i.bytes)) = some (some (.agg #[.int .i64 0, .int .i64 0, .int .i64 0, .int .i64 0, .int .i64 0, .int .i64 0, .int .i64 0]), 7, 56) := by kernel_rfl
theorem ofE (A : Option Addr) (c : Nat) (W : World) (hR : Rd EMsg W A exL) : Calls Try.prog 18 #[.slice A 3 c, .int .i64 5] W fun e w' => e = .returned (.tuple #[.agg #[.int .i64 5, .int .i64 2, .int .i64 1, .int .i64 3, .int .i64 100, .int .i64 98, .int .i64 1], .int .i64 0]) ∧ Below W.heap.size W w' := by
  have h := ofT_any exL 5 A c W hR
  unfold OfTPost at h
  rw [awk4] at h
  exact h
theorem ofE2 (A : Option Addr) (c : Nat) (W : World) (hR : Rd EMsg W A (exL ++ [⟨5, 3, 0, 4, 0, 0, 97⟩])) : Calls Try.prog 18 #[.slice A 4 c, .int .i64 5] W fun e w' => e = .returned (.tuple #[.agg #[.int .i64 5, .int .i64 5, .int .i64 0, .int .i64 0, .int .i64 0, .int .i64 0, .int .i64 0], .int .i64 0]) ∧ Below W.heap.size W w' := by
  have h := ofT_any _ 5 A c W hR
  unfold OfTPost at h
  rw [awk5] at h
  exact h
theorem openE (A : Option Addr) (c : Nat) (W : World) (hR : Rd EMsg W A (exL.take 1)) : Calls Try.prog 22 #[.slice A 1 c, .int .i64 2] W fun e w' => e = .returned (.tuple #[.int .i64 100, .int .i64 0]) ∧ Below W.heap.size W w' := by
  have h := openT_any _ 2 A c W hR (by unfold allP SeOK; rw [awk3]; decide +kernel)
  rw [awk6] at h
  exact h
theorem allE (A : Option Addr) (c : Nat) (W : World) (hR : Rd EMsg W A exL) : Calls Try.prog 20 #[.slice A 3 c] W (Made2 EDoc 35 [wantD] 0 W) := by
  have h := allT_any exL A c W hR
  rw [awk7] at h
  exact h
theorem lateE (W : World) : Calls Try.prog 25 #[.agg #[.int .i64 5, .int .i64 2, .int .i64 1, .int .i64 3, .int .i64 100, .int .i64 98, .int .i64 1], .agg #[.int .i64 5, .int .i64 5, .int .i64 0, .int .i64 0, .int .i64 0, .int .i64 0, .int .i64 0]] W (LatPost true W) := by
  have h := later_any wantD ⟨5, 5, 0, 0, 0, 0, 0⟩ W
  rw [awk8] at h
  exact h
theorem lateE2 (W : World) : Calls Try.prog 25 #[.agg #[.int .i64 5, .int .i64 5, .int .i64 0, .int .i64 0, .int .i64 0, .int .i64 0, .int .i64 0], .agg #[.int .i64 5, .int .i64 2, .int .i64 1, .int .i64 3, .int .i64 100, .int .i64 98, .int .i64 1]] W (LatPost false W) := by
  have h := later_any ⟨5, 5, 0, 0, 0, 0, 0⟩ wantD W
  rw [awk9] at h
  exact h
theorem chkE (W : World) : Calls Try.prog 15 #[.agg #[.int .i64 5, .int .i64 1, .int .i64 0, .int .i64 1, .int .i64 1, .int .i64 2, .int .i64 100]] W fun e w' => e = .returned (.int .i64 0) ∧ Below W.heap.size W w' := by
  have h := check_any ⟨5, 1, 0, 1, 1, 2, 100⟩ W
  unfold ChkPost at h
  rw [awk10] at h
  exact h
set_option maxHeartbeats 8000000 in
set_option maxRecDepth 100000 in
theorem awake_any (w : World) : Calls Try.prog 10 #[] w (LatPost true w) := by
  obtain ⟨i0, hi, hzz⟩ := Option.map_eq_some_iff.1 infoM'
  simp only [Prod.mk.injEq] at hzz
  obtain ⟨hz0, hz1, hz2⟩ := hzz
  unfold LatPost
  have HI : Hid (Try.prog.info? 23 = some i0 ∧ i0.zero = some (.agg #[.int .i64 0, .int .i64 0, .int .i64 0, .int .i64 0, .int .i64 0, .int .i64 0, .int .i64 0]) ∧ i0.size = 7 ∧ i0.bytes = 56) := ⟨hi, hz0, hz1, hz2⟩
  clear hi hz0 hz1 hz2
  go_enter Try.func10, Try.ntmps10
  go_wp2_with fail
  refine (ex_any _).mono ?_
  rintro e w1 ⟨rfl, hO, hR, hb⟩
  have HB1 := hid_of hb
  have hc := ofE _ 3 _ hR
  clear hR hO hb
  go_wp2_with fail
  refine hc.mono ?_
  clear hc
  rintro e w2 ⟨rfl, hb⟩
  have HB2 := hid_of (below_then HB1.out HB1.out.size hb)
  clear hb HB1
  go_wp2_with fail
  refine (ex_any _).mono ?_
  rintro e w3 ⟨rfl, hO, _, hb⟩
  have hd1 : w3.heap[w2.heap.size]? = some (.cells #[.int .i64 5, .int .i64 2, .int .i64 1, .int .i64 3, .int .i64 100, .int .i64 98, .int .i64 1] 35 (0, 0)) := (hb.block _ (by simp)).trans (blkN w2 _)
  have HB3 := hid_of (below_then (HB2.out.alloc HB2.out.size (.cells #[.int .i64 5, .int .i64 2, .int .i64 1, .int .i64 3, .int .i64 100, .int .i64 98, .int .i64 1] 35)) (by have := HB2.out.size; simp; omega) hb)
  have HD1 := hid_of hd1
  have HO3 := hid_of hO
  have HB2S := hid_of HB2.out.size
  clear hd1 hO hb HB2
  have HGE : Hid ((w2.alloc (.cells #[.int .i64 5, .int .i64 2, .int .i64 1, .int .i64 3, .int .i64 100, .int .i64 98, .int .i64 1] 35)).heap.size ≠ w2.heap.size) := by show _ ≠ _; simp
  have HGW : Hid (w.heap.size ≤ (w2.alloc (.cells #[.int .i64 5, .int .i64 2, .int .i64 1, .int .i64 3, .int .i64 100, .int .i64 98, .int .i64 1] 35)).heap.size) := by show _ ≤ _; have := HB2S.out; simp; omega
  generalize (w2.alloc (.cells #[.int .i64 5, .int .i64 2, .int .i64 1, .int .i64 3, .int .i64 100, .int .i64 98, .int .i64 1] 35)).heap.size = g3 at HO3 HGE HGW ⊢
  have hg3 := (HO3.out.block g3 rfl).2
  go_wp2_with (at_builtin; refine wpList_append_own _ rfl _ _ 24 rfl g3 23 i0 _ 7 56 Try.underlying24 HI.out.1 HI.out.2.1 HI.out.2.2.1 HI.out.2.2.2 rfl (by decide) _ _ _ rfl (HO3.out.alloc _) _ 1 _ (EMsg.flat [⟨5, 3, 0, 4, 0, 0, 97⟩]) rfl ?qc1 ?qc2 ?qc3 ?qc4 ?qc5 ?qc6 ?_)
  case qc1 => rfl
  case qc2 =>
    intro j u hj
    rw [addr_plain, blk_cell (blkN _ _) j]
    simpa [Enc.flat, EMsg, Msg.cells] using hj
  case qc3 => exact EMsg.flat_one' _
  case qc4 => decide
  case qc5 => decide
  case qc6 => simp; omega
  intro v' w4 hown hgrow hnil
  have hown' : Own EMsg 23 w4 g3 v' (exL ++ [⟨5, 3, 0, 4, 0, 0, 97⟩]) := hown
  obtain ⟨A4, c4, rfl, _, hR⟩ := hown'.rd
  have hg2 : w2.heap.size < w3.heap.size := (Array.getElem?_eq_some_iff.1 HD1.out).1
  have hgne : g3 ≠ w2.heap.size := HGE.out
  have hgw : w.heap.size ≤ g3 := HGW.out
  have hd1 : w4.heap[w2.heap.size]? = some (.cells #[.int .i64 5, .int .i64 2, .int .i64 1, .int .i64 3, .int .i64 100, .int .i64 98, .int .i64 1] 35 (0, 0)) := blkG (blkA HD1.out) hgrow (by simp [Value.ownBlock]; omega)
  have HB4 := hid_of ((HB3.out.alloc HB3.out.size (.cells #[.int .i64 5, .int .i64 3, .int .i64 0, .int .i64 4, .int .i64 0, .int .i64 0, .int .i64 97] 23)).grown hgrow (by have := HB3.out.size; simp; omega) (by intro k hk; simp [Value.ownBlock] at hk; omega))
  have HD4 := hid_of hd1
  have hc := ofE2 _ c4 _ hR
  clear hd1 hown hown' hgrow hnil hR HB3 HD1 HO3 HGE HGW hgne hgw hg3 hg2
  go_wp2_with fail
  refine hc.mono ?_
  rintro e w5 ⟨rfl, hb⟩
  have HD5 := hid_of ((hb.block _ (Array.getElem?_eq_some_iff.1 HD4.out).1).trans HD4.out)
  have HB5 := hid_of (below_then HB4.out HB4.out.size hb)
  clear hb HB4 HD4 hc
  go_wp2_with fail
  refine (ex_any _).mono ?_
  rintro e w6 ⟨rfl, hO, hR, hb⟩
  have HE6 : Hid (w6.heap[w5.heap.size]? = some (.cells #[.int .i64 5, .int .i64 5, .int .i64 0, .int .i64 0, .int .i64 0, .int .i64 0, .int .i64 0] 35 (0, 0))) := (hb.block _ (by simp)).trans (blkN w5 _)
  have hs5 := (Array.getElem?_eq_some_iff.1 HD5.out).1
  have HD6 := hid_of ((hb.block _ (by simp; omega)).trans (blkA HD5.out (o' := .cells #[.int .i64 5, .int .i64 5, .int .i64 0, .int .i64 0, .int .i64 0, .int .i64 0, .int .i64 0] 35)))
  have HB6 := hid_of (below_then (HB5.out.alloc HB5.out.size (.cells #[.int .i64 5, .int .i64 5, .int .i64 0, .int .i64 0, .int .i64 0, .int .i64 0, .int .i64 0] 35)) (by have := HB5.out.size; simp; omega) hb)
  rw [World.size_alloc] at hR
  have hc := openE _ 3 _ (hR.take 1)
  clear hR hO hb HB5 HD5
  go_wp2_with fail
  refine hc.mono ?_
  clear hc
  rintro e w7 ⟨rfl, hb⟩
  have HD7 := hid_of ((hb.block _ (Array.getElem?_eq_some_iff.1 HD6.out).1).trans HD6.out)
  have HE7 := hid_of ((hb.block _ (Array.getElem?_eq_some_iff.1 HE6.out).1).trans HE6.out)
  have HB7 := hid_of (below_then HB6.out HB6.out.size hb)
  clear hb HB6 HD6 HE6
  go_wp2_with fail
  refine (ex_any _).mono ?_
  rintro e w8 ⟨rfl, hO, hR, hb⟩
  have HD8 := hid_of ((hb.block _ (Array.getElem?_eq_some_iff.1 HD7.out).1).trans HD7.out)
  have HE8 := hid_of ((hb.block _ (Array.getElem?_eq_some_iff.1 HE7.out).1).trans HE7.out)
  have HB8 := hid_of (below_then HB7.out HB7.out.size hb)
  have hc := allE _ 3 _ hR
  clear hR hO hb HB7 HD7 HE7
  go_wp2_with fail
  refine hc.mono ?_
  clear hc
  rintro e w9 ⟨v9, rfl, hO, hb⟩
  obtain ⟨A9, c9, rfl, _, hR⟩ := hO.rd
  have HR9 := hid_of hR
  have HD9 := hid_of ((hb.block _ (Array.getElem?_eq_some_iff.1 HD8.out).1).trans HD8.out)
  have HE9 := hid_of ((hb.block _ (Array.getElem?_eq_some_iff.1 HE8.out).1).trans HE8.out)
  have HB9 := hid_of (below_then HB8.out HB8.out.size hb)
  clear hb hO hR HB8 HD8 HE8
  go_upto_region 6 with (fail)
  refine nameW (fun W hW => ?_)
  have HD := hid_of ((congrArg (fun w => w.heap[w2.heap.size]?) hW).trans (blkA HD9.out))
  have HE := hid_of ((congrArg (fun w => w.heap[w5.heap.size]?) hW).trans (blkA HE9.out))
  have HF := hid_of ((congrArg (fun w => w.heap[w9.heap.size]?) hW).trans (blkN w9 (.cells #[.int .i64 5, .int .i64 2, .int .i64 1, .int .i64 3, .int .i64 100, .int .i64 98, .int .i64 1] 35)))
  have HB : Hid (Below w.heap.size w W) := by show Below _ _ _; rw [hW]; exact HB9.out.alloc HB9.out.size _
  have HR : Hid (Rd EDoc W A9 [wantD]) := by show Rd _ _ _ _; rw [hW]; exact HR9.out.alloc _
  clear hW HD9 HE9 HB9 HR9
  have d0 := (blk_cell HD.out 0).trans (show _ = some (.int .i64 5) from rfl)
  have d1 := (blk_cell HD.out 1).trans (show _ = some (.int .i64 2) from rfl)
  have d2 := (blk_cell HD.out 2).trans (show _ = some (.int .i64 1) from rfl)
  have d3 := (blk_cell HD.out 3).trans (show _ = some (.int .i64 3) from rfl)
  have d4 := (blk_cell HD.out 4).trans (show _ = some (.int .i64 100) from rfl)
  have d5 := (blk_cell HD.out 5).trans (show _ = some (.int .i64 98) from rfl)
  have d6 := (blk_cell HD.out 6).trans (show _ = some (.int .i64 1) from rfl)
  have e0 := (blk_cell HE.out 0).trans (show _ = some (.int .i64 5) from rfl)
  have e1 := (blk_cell HE.out 1).trans (show _ = some (.int .i64 5) from rfl)
  have e2 := (blk_cell HE.out 2).trans (show _ = some (.int .i64 0) from rfl)
  have e3 := (blk_cell HE.out 3).trans (show _ = some (.int .i64 0) from rfl)
  have e4 := (blk_cell HE.out 4).trans (show _ = some (.int .i64 0) from rfl)
  have e5 := (blk_cell HE.out 5).trans (show _ = some (.int .i64 0) from rfl)
  have e6 := (blk_cell HE.out 6).trans (show _ = some (.int .i64 0) from rfl)
  have f0 := (blk_cell HF.out 0).trans (show _ = some (.int .i64 5) from rfl)
  have f1 := (blk_cell HF.out 1).trans (show _ = some (.int .i64 2) from rfl)
  have f2 := (blk_cell HF.out 2).trans (show _ = some (.int .i64 1) from rfl)
  have f3 := (blk_cell HF.out 3).trans (show _ = some (.int .i64 3) from rfl)
  have f4 := (blk_cell HF.out 4).trans (show _ = some (.int .i64 100) from rfl)
  have f5 := (blk_cell HF.out 5).trans (show _ = some (.int .i64 98) from rfl)
  have f6 := (blk_cell HF.out 6).trans (show _ = some (.int .i64 1) from rfl)
  have sd := (Array.getElem?_eq_some_iff.1 HD.out).1
  have se := (Array.getElem?_eq_some_iff.1 HE.out).1
  have sf := (Array.getElem?_eq_some_iff.1 HF.out).1
  go_wp2_with fail
  clear d0 d1 d2 d3 d4 d5 d6 e0 e1 e2 e3 e4 e5 e6 f0 f1 f2 f3 f4 f5 f6 sd se sf
  have hO : Own EDoc 35 (W.alloc (.cells #[.int .i64 5, .int .i64 2, .int .i64 1, .int .i64 3, .int .i64 100, .int .i64 98, .int .i64 1] 35)) W.heap.size (.slice (some ⟨W.heap.size, 0, none⟩) 1 1) [wantD] :=
    ⟨rfl, .inr ⟨_, 1, _, rfl, Nat.le_refl _, blkN _ _, by decide, by decide, by decide, by rfl⟩⟩
  have hR2 : Rd EDoc (W.alloc (.cells #[.int .i64 5, .int .i64 2, .int .i64 1, .int .i64 3, .int .i64 100, .int .i64 98, .int .i64 1] 35)) (some ⟨W.heap.size, 0, none⟩) [wantD] := by
    obtain ⟨A, c, hv, _, hR⟩ := hO.rd
    injection hv with h1 h2 h3
    rw [h1]; exact hR
  have hc : Calls Try.prog 34 #[.slice A9 1 c9, .slice (some ⟨W.heap.size, 0, none⟩) 1 1] (W.alloc (.cells #[.int .i64 5, .int .i64 2, .int .i64 1, .int .i64 3, .int .i64 100, .int .i64 98, .int .i64 1] 35)) fun e w' => e = .returned (.bool true) ∧ Below (W.alloc (.cells #[.int .i64 5, .int .i64 2, .int .i64 1, .int .i64 3, .int .i64 100, .int .i64 98, .int .i64 1] 35)).heap.size (W.alloc (.cells #[.int .i64 5, .int .i64 2, .int .i64 1, .int .i64 3, .int .i64 100, .int .i64 98, .int .i64 1] 35)) w' := by
    have h := equalD [wantD] [wantD] A9 (some ⟨W.heap.size, 0, none⟩) c9 1 _ (HR.out.alloc _) hR2
    rw [show decide ([wantD] = [wantD]) = true by simp] at h
    exact h
  clear hO hR2 HR HF
  refine hc.mono ?_
  clear hc
  rintro e x1 ⟨rfl, hb⟩
  have HB1 := hid_of (below_then (HB.out.alloc HB.out.size _) (by have := HB.out.size; simp; omega) hb)
  have hD := (hb.block _ (Array.getElem?_eq_some_iff.1 (blkA HD.out)).1).trans (blkA HD.out)
  have hE := (hb.block _ (Array.getElem?_eq_some_iff.1 (blkA HE.out)).1).trans (blkA HE.out)
  clear HD HE hb HB
  have HD := hid_of hD
  have HE := hid_of hE
  clear hD hE
  have d0 := (blk_cell HD.out 0).trans (show _ = some (.int .i64 5) from rfl)
  have d1 := (blk_cell HD.out 1).trans (show _ = some (.int .i64 2) from rfl)
  have d2 := (blk_cell HD.out 2).trans (show _ = some (.int .i64 1) from rfl)
  have d3 := (blk_cell HD.out 3).trans (show _ = some (.int .i64 3) from rfl)
  have d4 := (blk_cell HD.out 4).trans (show _ = some (.int .i64 100) from rfl)
  have d5 := (blk_cell HD.out 5).trans (show _ = some (.int .i64 98) from rfl)
  have d6 := (blk_cell HD.out 6).trans (show _ = some (.int .i64 1) from rfl)
  have e0 := (blk_cell HE.out 0).trans (show _ = some (.int .i64 5) from rfl)
  have e1 := (blk_cell HE.out 1).trans (show _ = some (.int .i64 5) from rfl)
  have e2 := (blk_cell HE.out 2).trans (show _ = some (.int .i64 0) from rfl)
  have e3 := (blk_cell HE.out 3).trans (show _ = some (.int .i64 0) from rfl)
  have e4 := (blk_cell HE.out 4).trans (show _ = some (.int .i64 0) from rfl)
  have e5 := (blk_cell HE.out 5).trans (show _ = some (.int .i64 0) from rfl)
  have e6 := (blk_cell HE.out 6).trans (show _ = some (.int .i64 0) from rfl)
  have sd := (Array.getElem?_eq_some_iff.1 HD.out).1
  have se := (Array.getElem?_eq_some_iff.1 HE.out).1
  go_wp2_with fail
  refine (lateE _).mono ?_
  rintro e x2 ⟨rfl, hb⟩
  have HB2 := hid_of (below_then HB1.out HB1.out.size hb)
  have hD := (hb.block _ (Array.getElem?_eq_some_iff.1 HD.out).1).trans HD.out
  have hE := (hb.block _ (Array.getElem?_eq_some_iff.1 HE.out).1).trans HE.out
  clear d0 d1 d2 d3 d4 d5 d6 e0 e1 e2 e3 e4 e5 e6 sd se
  clear HD HE hb HB1
  have HD := hid_of hD
  have HE := hid_of hE
  clear hD hE
  have d0 := (blk_cell HD.out 0).trans (show _ = some (.int .i64 5) from rfl)
  have d1 := (blk_cell HD.out 1).trans (show _ = some (.int .i64 2) from rfl)
  have d2 := (blk_cell HD.out 2).trans (show _ = some (.int .i64 1) from rfl)
  have d3 := (blk_cell HD.out 3).trans (show _ = some (.int .i64 3) from rfl)
  have d4 := (blk_cell HD.out 4).trans (show _ = some (.int .i64 100) from rfl)
  have d5 := (blk_cell HD.out 5).trans (show _ = some (.int .i64 98) from rfl)
  have d6 := (blk_cell HD.out 6).trans (show _ = some (.int .i64 1) from rfl)
  have e0 := (blk_cell HE.out 0).trans (show _ = some (.int .i64 5) from rfl)
  have e1 := (blk_cell HE.out 1).trans (show _ = some (.int .i64 5) from rfl)
  have e2 := (blk_cell HE.out 2).trans (show _ = some (.int .i64 0) from rfl)
  have e3 := (blk_cell HE.out 3).trans (show _ = some (.int .i64 0) from rfl)
  have e4 := (blk_cell HE.out 4).trans (show _ = some (.int .i64 0) from rfl)
  have e5 := (blk_cell HE.out 5).trans (show _ = some (.int .i64 0) from rfl)
  have e6 := (blk_cell HE.out 6).trans (show _ = some (.int .i64 0) from rfl)
  have sd := (Array.getElem?_eq_some_iff.1 HD.out).1
  have se := (Array.getElem?_eq_some_iff.1 HE.out).1
  go_wp2_with fail
  refine (lateE2 _).mono ?_
  rintro e x3 ⟨rfl, hb⟩
  have HB3 := hid_of (below_then HB2.out HB2.out.size hb)
  clear d0 d1 d2 d3 d4 d5 d6 e0 e1 e2 e3 e4 e5 e6 sd se
  clear HD HE hb HB2
  go_wp2_with fail
  refine (ex_any _).mono ?_
  rintro e x4 ⟨rfl, hO, hR, hb⟩
  have HB4 := hid_of (below_then HB3.out HB3.out.size hb)
  clear hb hO HB3
  obtain ⟨ad, had, c0, c1, c2, c3, c4, c5, c6⟩ := Msg.at_ hR 0 (by decide)
  simp only [Option.some.injEq] at had
  subst had
  simp only [addr_plain, Nat.zero_mul, Nat.zero_add, exL, List.getElem_cons_zero] at c0 c1 c2 c3 c4 c5 c6
  clear hR
  go_wp2_with fail
  refine (chkE _).mono ?_
  rintro e x5 ⟨rfl, hb⟩
  have HB5 := hid_of (below_then HB4.out HB4.out.size hb)
  clear hb HB4
  go_wp2_with fail
  go_ret
  exact ⟨rfl, HB5.out⟩
end Go.Proofs.Ytgcnklnhambpjaa
/- DocumentForward returns true. -/
namespace Go.Proofs.Ytgcnklnhambpjaa
open Go.RowKit
attribute [local go_sem high] eqDoc
theorem ofP_cases (l : List Msg) (mv : Int) : ((ofP l mv).2 = 0 ∧ (ofP l mv).1 = ofR mv (normL l) ∧ l.length ≤ 64 ∧ (∀ m ∈ l, chkM m = 0) ∧ 1 ≤ mv ∧ mv ≤ 1073741824) ∨ ((ofP l mv).2 ≠ 0 ∧ (ofP l mv).1 = zeroDoc) := by
  unfold ofP
  rcases normR_cases l with ⟨h1, h2, h3, h4⟩ | ⟨h1, h2⟩
  · rw [h1, h2, if_neg (by simp)]
    split
    · exact .inr ⟨by simp, rfl⟩
    · exact .inl ⟨rfl, rfl, h3, h4, by omega, by omega⟩
  · rw [if_pos h1]
    exact .inr ⟨h1, rfl⟩
/-- Behind more messages: a later document, or an error and none. -/
theorem forP (l m : List Msg) (mv : Int) : ((ofP l mv).2 = 0 ∧ (ofP (l ++ m) mv).2 = 0 ∧ laterB (ofP l mv).1 (ofP (l ++ m) mv).1 = true) ∨ ((ofP l mv).2 = 0 ∧ (ofP (l ++ m) mv).2 ≠ 0 ∧ (ofP (l ++ m) mv).1 = zeroDoc) ∨ ((ofP l mv).2 ≠ 0 ∧ (ofP l mv).1 = zeroDoc ∧ (ofP (l ++ m) mv).2 = 0) ∨ ((ofP l mv).2 ≠ 0 ∧ (ofP l mv).1 = zeroDoc ∧ (ofP (l ++ m) mv).2 ≠ 0 ∧ (ofP (l ++ m) mv).1 = zeroDoc) := by
  rcases ofP_cases l mv with ⟨h1, h2, h3, h4, h5, h6⟩ | ⟨h1, h2⟩ <;> rcases ofP_cases (l ++ m) mv with ⟨g1, g2, g3, g4, g5, g6⟩ | ⟨g1, g2⟩
  · refine .inl ⟨h1, g1, ?_⟩
    rw [h2, g2]
    exact later_more mv (normL_sub (fun x hx => List.mem_append_left _ hx)) (normL_ok g4)
  · exact .inr (.inl ⟨h1, g1, g2⟩)
  · exact .inr (.inr (.inl ⟨h1, h2, g1⟩))
  · exact .inr (.inr (.inr ⟨h1, h2, g1, g2⟩))
set_option maxHeartbeats 8000000 in
set_option maxRecDepth 100000 in
theorem lforward_any (l : List Msg) (A : Option Addr) (c : Nat) (m : List Msg) (B : Option Addr) (d : Nat) (mv : Int) (w : World) (hR1 : Rd EMsg w A l) (hR2 : Rd EMsg w B m) : Calls Try.prog 7 #[.slice A l.length c, .slice B m.length d, .int .i64 mv] w (LatPost true w) := by
  unfold LatPost
  have hle1 := hR1.le
  have hle2 := hR2.le
  by_cases hs : l.length ≤ 16 ∧ m.length ≤ 16
  · obtain ⟨hs1, hs2⟩ := hs
    have hl16 : l.length * 56 ≤ 140737488355328 := by omega
    have hlm : (l.length + m.length) * 56 ≤ 140737488355328 := by omega
    obtain ⟨al, hal⟩ : ∃ al, al = l ++ m := ⟨_, rfl⟩
    have hq := forP l m mv
    rw [← hal] at hq
    have HAL := hid_of hal
    clear hal
    have h1 := fun A c W (h : Rd EMsg W A l) => ofT_any l mv A c W h
    have h2 := fun A c W (h : Rd EMsg W A al) => ofT_any al mv A c W h
    unfold OfTPost at h1 h2
    generalize ofP l mv = q1 at h1 hq
    generalize ofP al mv = q2 at h2 hq
    obtain ⟨⟨a0, a1, a2, a3, a4, a5, a6⟩, e1⟩ := q1
    obtain ⟨⟨b0, b1, b2, b3, b4, b5, b6⟩, e2⟩ := q2
    dsimp only [Doc.v] at h1 h2 hq
    have RL := hid_of hR1
    have RM := hid_of hR2
    clear hR1 hR2 hle1 hle2
    have hs1' : ¬ ((l.length : Int) > 16) := by omega
    have hs2' : ¬ ((m.length : Int) > 16) := by omega
    go_enter Try.func7, Try.ntmps7
    go_wp2_with fail
    refine (awake_any _).mono ?_
    rintro e w1 ⟨rfl, hb⟩
    replace RL := hid_of (RL.out.below hb)
    replace RM := hid_of (RM.out.below hb)
    have HB := hid_of hb
    clear hb
    go_wp2_with fail
    refine (cloneM l A c _ RL.out hl16).mono ?_
    rintro e w2 ⟨v, rfl, hO, hb⟩
    obtain ⟨Aa, ca, rfl, _, hR⟩ := hO.rd
    replace RL := hid_of (RL.out.below hb)
    replace RM := hid_of (RM.out.below hb)
    replace HB := hid_of (below_then HB.out HB.out.size hb)
    have Ra := hid_of hR
    clear hO hR hb
    have hc := h1 Aa ca w2 Ra.out
    clear Ra h1
    go_wp2_with fail
    refine (hc).mono ?_
    rintro e w3 ⟨rfl, hb⟩
    replace RL := hid_of (RL.out.below hb)
    replace RM := hid_of (RM.out.below hb)
    replace HB := hid_of (below_then HB.out HB.out.size hb)
    clear hb hc
    have HA : Hid ((w3.alloc (.cells #[.int .i64 a0, .int .i64 a1, .int .i64 a2, .int .i64 a3, .int .i64 a4, .int .i64 a5, .int .i64 a6] 35)).heap[w3.heap.size]? = some (.cells #[.int .i64 a0, .int .i64 a1, .int .i64 a2, .int .i64 a3, .int .i64 a4, .int .i64 a5, .int .i64 a6] 35 (0, 0))) := blkN w3 _
    replace RL := hid_of (RL.out.alloc (.cells #[.int .i64 a0, .int .i64 a1, .int .i64 a2, .int .i64 a3, .int .i64 a4, .int .i64 a5, .int .i64 a6] 35))
    replace RM := hid_of (RM.out.alloc (.cells #[.int .i64 a0, .int .i64 a1, .int .i64 a2, .int .i64 a3, .int .i64 a4, .int .i64 a5, .int .i64 a6] 35))
    replace HB := hid_of (HB.out.alloc HB.out.size (.cells #[.int .i64 a0, .int .i64 a1, .int .i64 a2, .int .i64 a3, .int .i64 a4, .int .i64 a5, .int .i64 a6] 35))
    have HS : Hid (((w3.alloc (.cells #[.int .i64 a0, .int .i64 a1, .int .i64 a2, .int .i64 a3, .int .i64 a4, .int .i64 a5, .int .i64 a6] 35)).alloc (.cells #[.slice A l.length c, .slice B m.length d] 24)).heap[w3.heap.size + 1]? = some (.cells #[.slice A l.length c, .slice B m.length d] 24 (0, 0))) := by
      have h := blkN (w3.alloc (.cells #[.int .i64 a0, .int .i64 a1, .int .i64 a2, .int .i64 a3, .int .i64 a4, .int .i64 a5, .int .i64 a6] 35)) (.cells #[.slice A l.length c, .slice B m.length d] 24)
      rw [World.size_alloc] at h
      exact h
    replace RL := hid_of (RL.out.alloc (.cells #[.slice A l.length c, .slice B m.length d] 24))
    replace RM := hid_of (RM.out.alloc (.cells #[.slice A l.length c, .slice B m.length d] 24))
    replace HA := hid_of (blkA (o' := .cells #[.slice A l.length c, .slice B m.length d] 24) HA.out)
    replace HB := hid_of (HB.out.alloc HB.out.size (.cells #[.slice A l.length c, .slice B m.length d] 24))
    go_wp2_with fail
    refine (concat2M l m al HAL.out A B c d _ _ HS.out RL.out RM.out hlm).mono ?_
    rintro e w4 ⟨v, rfl, hO, hb⟩
    obtain ⟨Ax, cx, rfl, _, hR⟩ := hO.rd
    replace RL := hid_of (RL.out.below hb)
    replace RM := hid_of (RM.out.below hb)
    replace HA := hid_of ((hb.block _ (Array.getElem?_eq_some_iff.1 HA.out).1).trans HA.out)
    replace HB := hid_of (below_then HB.out HB.out.size hb)
    have Rx := hid_of hR
    clear hO hR hb
    clear HS RL RM
    have hc := h2 Ax cx w4 Rx.out
    clear Rx h2
    go_wp2_with fail
    refine (hc).mono ?_
    rintro e w5 ⟨rfl, hb⟩
    replace HA := hid_of ((hb.block _ (Array.getElem?_eq_some_iff.1 HA.out).1).trans HA.out)
    replace HB := hid_of (below_then HB.out HB.out.size hb)
    clear hb hc
    have HB2 : Hid ((w5.alloc (.cells #[.int .i64 b0, .int .i64 b1, .int .i64 b2, .int .i64 b3, .int .i64 b4, .int .i64 b5, .int .i64 b6] 35)).heap[w5.heap.size]? = some (.cells #[.int .i64 b0, .int .i64 b1, .int .i64 b2, .int .i64 b3, .int .i64 b4, .int .i64 b5, .int .i64 b6] 35 (0, 0))) := blkN w5 _
    replace HA := hid_of (blkA (o' := .cells #[.int .i64 b0, .int .i64 b1, .int .i64 b2, .int .i64 b3, .int .i64 b4, .int .i64 b5, .int .i64 b6] 35) HA.out)
    replace HB := hid_of (HB.out.alloc HB.out.size (.cells #[.int .i64 b0, .int .i64 b1, .int .i64 b2, .int .i64 b3, .int .i64 b4, .int .i64 b5, .int .i64 b6] 35))
    have p0 := (blk_cell HA.out 0).trans (show _ = some (.int .i64 a0) from rfl)
    have p1 := (blk_cell HA.out 1).trans (show _ = some (.int .i64 a1) from rfl)
    have p2 := (blk_cell HA.out 2).trans (show _ = some (.int .i64 a2) from rfl)
    have p3 := (blk_cell HA.out 3).trans (show _ = some (.int .i64 a3) from rfl)
    have p4 := (blk_cell HA.out 4).trans (show _ = some (.int .i64 a4) from rfl)
    have p5 := (blk_cell HA.out 5).trans (show _ = some (.int .i64 a5) from rfl)
    have p6 := (blk_cell HA.out 6).trans (show _ = some (.int .i64 a6) from rfl)
    have q0 := (blk_cell HB2.out 0).trans (show _ = some (.int .i64 b0) from rfl)
    have q1 := (blk_cell HB2.out 1).trans (show _ = some (.int .i64 b1) from rfl)
    have q2 := (blk_cell HB2.out 2).trans (show _ = some (.int .i64 b2) from rfl)
    have q3 := (blk_cell HB2.out 3).trans (show _ = some (.int .i64 b3) from rfl)
    have q4 := (blk_cell HB2.out 4).trans (show _ = some (.int .i64 b4) from rfl)
    have q5 := (blk_cell HB2.out 5).trans (show _ = some (.int .i64 b5) from rfl)
    have q6 := (blk_cell HB2.out 6).trans (show _ = some (.int .i64 b6) from rfl)
    clear HA HB2 HAL hl16 hlm hs1 hs2
    rcases hq with ⟨rfl, rfl, hl⟩ | ⟨rfl, he2, hz⟩ | ⟨he1, hz, rfl⟩ | ⟨he1, hz1, he2, hz2⟩
    · have hlat := fun W => later_any ⟨a0, a1, a2, a3, a4, a5, a6⟩ ⟨b0, b1, b2, b3, b4, b5, b6⟩ W
      unfold LatPost at hlat
      rw [hl] at hlat
      dsimp only [Doc.v] at hlat
      clear hl
      go_wp2_with fail
      refine (hlat _).mono ?_
      rintro e w' ⟨rfl, hb⟩
      replace HB := hid_of (below_then HB.out HB.out.size hb)
      clear hb
      go_wp2_with fail
      go_ret
      exact ⟨rfl, HB.out⟩
    · simp only [zeroDoc, Doc.mk.injEq] at hz
      obtain ⟨rfl, rfl, rfl, rfl, rfl, rfl, rfl⟩ := hz
      have he2' : (e2 == 0) = false := by simpa using he2
      go_wp2_with fail
      go_ret
      exact ⟨rfl, HB.out⟩
    · simp only [zeroDoc, Doc.mk.injEq] at hz
      obtain ⟨rfl, rfl, rfl, rfl, rfl, rfl, rfl⟩ := hz
      have he1' : (e1 == 0) = false := by simpa using he1
      go_wp2_with fail
      go_ret
      exact ⟨rfl, HB.out⟩
    · simp only [zeroDoc, Doc.mk.injEq] at hz1 hz2
      obtain ⟨rfl, rfl, rfl, rfl, rfl, rfl, rfl⟩ := hz1
      obtain ⟨rfl, rfl, rfl, rfl, rfl, rfl, rfl⟩ := hz2
      have he1' : (e1 == 0) = false := by simpa using he1
      have he2' : (e2 == 0) = false := by simpa using he2
      go_wp2_with fail
      go_ret
      exact ⟨rfl, HB.out⟩
  · clear hR1 hR2
    by_cases h1 : l.length ≤ 16
    · have h2 : (m.length : Int) > 16 := by omega
      have h1' : ¬ ((l.length : Int) > 16) := by omega
      clear hs h1
      go_enter Try.func7, Try.ntmps7
      go_wp2_with fail
      refine (awake_any _).mono ?_
      rintro e w1 ⟨rfl, hb⟩
      have HB := hid_of hb
      clear hb
      go_wp2_with fail
      go_ret
      exact ⟨rfl, HB.out⟩
    · have h1' : (l.length : Int) > 16 := by omega
      clear hs h1
      go_enter Try.func7, Try.ntmps7
      go_wp2_with fail
      refine (awake_any _).mono ?_
      rintro e w1 ⟨rfl, hb⟩
      have HB := hid_of hb
      clear hb
      go_wp2_with fail
      go_ret
      exact ⟨rfl, HB.out⟩
end Go.Proofs.Ytgcnklnhambpjaa
/- Arguments that are structs of whole numbers, opened: by value. -/
namespace Go.Proofs.Ytgcnklnhambpjaa
open Go.RowKit Go.ChangeShapes Go.WideShapes Go.Deep
section
variable {H : Type} {enc : TypeId × Value → H} {P : Program} {w : World} {base : Nat} {spare : Nat → Bool} {held : Bool}
theorem open_val_fields {r : Reach} {b0 : Nat} {t : TypeId} {fs : Array Field} {v : Value} {d : DataW H} {p : List MemPlace} (hs : P.underlying t = some (.struct fs)) (hone : oneCellFields P fs = true) (hC : P.cellsOf t = fs.size)
    (hv : Value.okWide P w r b0 t v) (h : DataW.Trod enc P w base spare held t v d p) :
    ∃ cs : Array Value, v = .agg cs ∧ cs.size = fs.size ∧ ∀ (j : Nat) (f : Field), fs[j]? = some f → ∃ (u : Value) (n : Nat) (y : DataW H × List MemPlace), cs[j]? = some u ∧ DataW.trod enc P w base spare held n f.type [u] = some y := by
  obtain ⟨cs, rfl, hsz⟩ := okWide_struct hs hv
  obtain ⟨fuel, hf⟩ := h
  obtain ⟨ys, n, _, hx, _, hlen, hg⟩ := DataW.trod_struct hs hf
  refine ⟨cs, rfl, hsz.trans hC, fun j f hj => ?_⟩
  obtain ⟨ho, hk⟩ := hone_of hone j f hj
  have hjl : j < fs.size := (Array.getElem?_eq_some_iff.1 hj).1
  have hjc : j < cs.size := by rw [hsz, hC]; exact hjl
  have h1 := hg j f hj
  rw [ho, hk] at h1
  have hone' : ((Value.cells (.agg cs)).toList.drop j).take 1 = [cs[j]] := by
    rw [List.drop_eq_getElem_cons (by simpa [Value.cells] using hjc)]
    simp [Value.cells]
  have h2 : DataW.trod enc P w base spare held n f.type [cs[j]] = ys[j]? := by rw [← hone']; exact h1
  have hys : ys[j]? = some (ys[j]'(by omega)) := List.getElem?_eq_getElem (by omega)
  exact ⟨cs[j], n, _, Array.getElem?_eq_getElem hjc, h2.trans hys⟩
end
section
variable {H : Type} {enc : TypeId × Value → H} {w : World} {base : Nat} {spare : Nat → Bool} {held : Bool}
theorem intCell {n : Nat} {u : Value} {y : DataW H × List MemPlace} (h : DataW.trod enc Try.prog w base spare held n 3 [u] = some y) : ∃ k : Int, u = .int .i64 k := by
  obtain ⟨k, hk, _⟩ := DataW.trod_int Try.underlying3 h
  simp only [List.cons.injEq, and_true] at hk
  exact ⟨k, hk⟩
theorem openDoc {r : Reach} {b0 : Nat} {v : Value} {d : DataW H} {p : List MemPlace} (hv : Value.okWide Try.prog w r b0 35 v) (h : DataW.Trod enc Try.prog w base spare held 35 v d p) : ∃ x : Doc, v = x.v := by
  obtain ⟨cs, rfl, hsz, hf⟩ := open_val_fields Try.underlying35 (by kernel_rfl) (by kernel_rfl) hv h
  obtain ⟨l⟩ := cs
  match l, hsz with
  | [c0, c1, c2, c3, c4, c5, c6], _ =>
    obtain ⟨u0, _, _, hu0, ht0⟩ := hf 0 _ rfl
    obtain ⟨u1, _, _, hu1, ht1⟩ := hf 1 _ rfl
    obtain ⟨u2, _, _, hu2, ht2⟩ := hf 2 _ rfl
    obtain ⟨u3, _, _, hu3, ht3⟩ := hf 3 _ rfl
    obtain ⟨u4, _, _, hu4, ht4⟩ := hf 4 _ rfl
    obtain ⟨u5, _, _, hu5, ht5⟩ := hf 5 _ rfl
    obtain ⟨u6, _, _, hu6, ht6⟩ := hf 6 _ rfl
    obtain ⟨k0, rfl⟩ := intCell ht0
    obtain ⟨k1, rfl⟩ := intCell ht1
    obtain ⟨k2, rfl⟩ := intCell ht2
    obtain ⟨k3, rfl⟩ := intCell ht3
    obtain ⟨k4, rfl⟩ := intCell ht4
    obtain ⟨k5, rfl⟩ := intCell ht5
    obtain ⟨k6, rfl⟩ := intCell ht6
    simp only [List.getElem?_toArray, List.getElem?_cons_zero, List.getElem?_cons_succ, Option.some.injEq] at hu0 hu1 hu2 hu3 hu4 hu5 hu6
    subst hu0 hu1 hu2 hu3 hu4 hu5 hu6
    exact ⟨⟨k0, k1, k2, k3, k4, k5, k6⟩, rfl⟩
theorem openMsg {r : Reach} {b0 : Nat} {v : Value} {d : DataW H} {p : List MemPlace} (hv : Value.okWide Try.prog w r b0 23 v) (h : DataW.Trod enc Try.prog w base spare held 23 v d p) : ∃ x : Msg, v = x.v := by
  obtain ⟨cs, rfl, hsz, hf⟩ := open_val_fields Try.underlying23 (by kernel_rfl) (by kernel_rfl) hv h
  obtain ⟨l⟩ := cs
  match l, hsz with
  | [c0, c1, c2, c3, c4, c5, c6], _ =>
    obtain ⟨u0, _, _, hu0, ht0⟩ := hf 0 _ rfl
    obtain ⟨u1, _, _, hu1, ht1⟩ := hf 1 _ rfl
    obtain ⟨u2, _, _, hu2, ht2⟩ := hf 2 _ rfl
    obtain ⟨u3, _, _, hu3, ht3⟩ := hf 3 _ rfl
    obtain ⟨u4, _, _, hu4, ht4⟩ := hf 4 _ rfl
    obtain ⟨u5, _, _, hu5, ht5⟩ := hf 5 _ rfl
    obtain ⟨u6, _, _, hu6, ht6⟩ := hf 6 _ rfl
    obtain ⟨k0, rfl⟩ := intCell ht0
    obtain ⟨k1, rfl⟩ := intCell ht1
    obtain ⟨k2, rfl⟩ := intCell ht2
    obtain ⟨k3, rfl⟩ := intCell ht3
    obtain ⟨k4, rfl⟩ := intCell ht4
    obtain ⟨k5, rfl⟩ := intCell ht5
    obtain ⟨k6, rfl⟩ := intCell ht6
    simp only [List.getElem?_toArray, List.getElem?_cons_zero, List.getElem?_cons_succ, Option.some.injEq] at hu0 hu1 hu2 hu3 hu4 hu5 hu6
    subst hu0 hu1 hu2 hu3 hu4 hu5 hu6
    exact ⟨⟨k0, k1, k2, k3, k4, k5, k6⟩, rfl⟩
end
end Go.Proofs.Ytgcnklnhambpjaa
/- Arguments that are slices of messages, opened as lists. -/
namespace Go.Proofs.Ytgcnklnhambpjaa
open Go.RowKit Go.ChangeShapes Go.WideShapes Go.Deep
section
variable {H : Type} {enc : TypeId × Value → H} {P : Program} {w : World} {base : Nat} {spare : Nat → Bool} {held : Bool}
/-- A slice of structs of one-cell fields: each field's cell, with its own reading. -/
theorem openFields {t e : TypeId} {fs : Array Field} {fuel : Nat} {cs : List Value} {x : DataW H × List MemPlace} (ht : P.underlying t = some (.slice e)) (he : P.underlying e = some (.struct fs))
    (hone : oneCellFields P fs = true) (hC : P.cellsOf e = fs.size) (h : DataW.trod enc P w base spare held fuel t cs = some x) :
    cs = [.slice none 0 0] ∨
    ∃ (a : Addr) (len cap : Nat), cs = [.slice (some a) len cap] ∧ len ≤ cap ∧ cap ≤ maxLen ∧
      ∀ i, i < len → ∀ (j : Nat) (f : Field), fs[j]? = some f → ∃ (v : Value) (n : Nat) (y : DataW H × List MemPlace), w.cell? (a.add (i * fs.size + j)) = some v ∧ DataW.trod enc P w base spare held n f.type [v] = some y := by
  rcases open_slice ht h with h0 | ⟨a, len, cap, m, n, D, Pl, hcs, hb, hl, hm, hmm, hx, hi⟩
  · exact .inl h0.1
  · refine .inr ⟨a, len, cap, hcs, hl, hm, fun i him j f hj => ?_⟩
    have hlm : len ≤ m := by rw [hmm]; split <;> omega
    obtain ⟨cs', hc, ht'⟩ := hi i (by omega)
    rw [hC] at hc
    obtain ⟨ys, n', hn', hy, hlen, hyl, hf⟩ := DataW.trod_struct he ht'
    obtain ⟨_, hcl, hat⟩ := World.cells?_some hc
    obtain ⟨ho, hk⟩ := hone_of hone j f hj
    have hjl : j < fs.size := (Array.getElem?_eq_some_iff.1 hj).1
    have hcell := hat j hjl
    have hv : cs'[j]? = some (cs'[j]'(by omega)) := List.getElem?_eq_getElem (by omega)
    have h1 := hf j f hj
    rw [ho, hk] at h1
    have hone' : (cs'.drop j).take 1 = [cs'[j]'(by omega)] := by
      rw [List.drop_eq_getElem_cons (by omega)]
      rfl
    rw [hone'] at h1
    have hys : ys[j]? = some (ys[j]'(by omega)) := List.getElem?_eq_getElem (by omega)
    refine ⟨_, _, _, ?_, h1.trans hys⟩
    rw [← Go.Deep.add_add, hcell, hv]
end
/-- Element by element, as a list. -/
theorem Rd.of_elems {α : Type} [Inhabited α] {E : Enc α} {w : World} {a : Addr} {len : Nat} (hl : len ≤ 9223372036854775807) (h : ∀ i, i < len → ∃ x : α, ∀ c v, (E.enc x)[c]? = some v → w.cell? (a.add (i * E.k + c)) = some v) : ∃ xs : List α, xs.length = len ∧ Rd E w (some a) xs := by
  have h' : ∀ i : Nat, ∃ x : α, i < len → ∀ c v, (E.enc x)[c]? = some v → w.cell? (a.add (i * E.k + c)) = some v := fun i => by
    by_cases hi : i < len
    · obtain ⟨x, hx⟩ := h i hi; exact ⟨x, fun _ => hx⟩
    · exact ⟨default, fun h => absurd h hi⟩
  obtain ⟨f, hf⟩ := Classical.axiomOfChoice h'
  have hlen : ((List.range len).map f).length = len := by simp
  refine ⟨(List.range len).map f, hlen, by rw [hlen]; exact hl, fun _ => ⟨a, rfl, fun j v hv => ?_⟩⟩
  have hj : j < len * E.k := by
    have := (List.getElem?_eq_some_iff.1 hv).1
    rwa [E.flat_length, hlen] at this
  have hi : j / E.k < len := Nat.div_lt_of_lt_mul (by rwa [Nat.mul_comm])
  have hm : j % E.k < E.k := Nat.mod_lt _ E.pos
  have hx : ((List.range len).map f)[j / E.k]'(by rw [hlen]; exact hi) = f (j / E.k) := by simp
  have h1 : (E.enc (((List.range len).map f)[j / E.k]'(by rw [hlen]; exact hi)))[j % E.k]? = some ((E.enc (f (j / E.k)))[j % E.k]'(by rw [E.len]; exact hm)) := by
    rw [hx]; exact List.getElem?_eq_getElem _
  have h2 := E.flat_get _ (j / E.k) (j % E.k) (by rw [hlen]; exact hi) _ h1
  have hd : j / E.k * E.k + j % E.k = j := Nat.div_add_mod' j E.k
  rw [hd, hv] at h2
  simp only [Option.some.injEq] at h2
  have h3 := hf (j / E.k) hi (j % E.k) v (by rw [h2]; exact List.getElem?_eq_getElem _)
  rwa [hd] at h3
section
variable {H : Type} {enc : TypeId × Value → H} {w : World} {base : Nat} {spare : Nat → Bool} {held : Bool}
theorem openSMsg {r : Reach} {b0 : Nat} {v : Value} {d : DataW H} {p : List MemPlace} (hv : Value.okWide Try.prog w r b0 24 v) (h : DataW.Trod enc Try.prog w base spare held 24 v d p) : ∃ (A : Option Addr) (c : Nat) (xs : List Msg), v = .slice A xs.length c ∧ Rd EMsg w A xs := by
  obtain ⟨a, len, cap, rfl⟩ := okWide_slice Try.underlying24 hv
  obtain ⟨fuel, hf⟩ := h
  rcases openFields Try.underlying24 Try.underlying23 (by kernel_rfl) (by kernel_rfl) hf with h0 | ⟨x, l, c, hcs, hl, hm, hi⟩
  · simp [Value.cells] at h0
    obtain ⟨rfl, rfl, rfl⟩ := h0
    exact ⟨none, 0, [], rfl, Rd.nil _ _ _⟩
  · simp [Value.cells] at hcs
    obtain ⟨rfl, rfl, rfl⟩ := hcs
    obtain ⟨xs, hx, hR⟩ := Rd.of_elems (E := EMsg) (w := w) (a := x) (len := len) (by simp only [maxLen] at hm; omega) (fun i hil => by
      obtain ⟨u0, _, _, hu0, ht0⟩ := hi i hil 0 _ rfl
      obtain ⟨u1, _, _, hu1, ht1⟩ := hi i hil 1 _ rfl
      obtain ⟨u2, _, _, hu2, ht2⟩ := hi i hil 2 _ rfl
      obtain ⟨u3, _, _, hu3, ht3⟩ := hi i hil 3 _ rfl
      obtain ⟨u4, _, _, hu4, ht4⟩ := hi i hil 4 _ rfl
      obtain ⟨u5, _, _, hu5, ht5⟩ := hi i hil 5 _ rfl
      obtain ⟨u6, _, _, hu6, ht6⟩ := hi i hil 6 _ rfl
      obtain ⟨k0, rfl⟩ := intCell ht0
      obtain ⟨k1, rfl⟩ := intCell ht1
      obtain ⟨k2, rfl⟩ := intCell ht2
      obtain ⟨k3, rfl⟩ := intCell ht3
      obtain ⟨k4, rfl⟩ := intCell ht4
      obtain ⟨k5, rfl⟩ := intCell ht5
      obtain ⟨k6, rfl⟩ := intCell ht6
      refine ⟨⟨k0, k1, k2, k3, k4, k5, k6⟩, fun c v hcv => ?_⟩
      have hcv' : [Value.int .i64 k0, .int .i64 k1, .int .i64 k2, .int .i64 k3, .int .i64 k4, .int .i64 k5, .int .i64 k6][c]? = some v := hcv
      match c, hcv' with
      | 0, e => cases e; exact hu0
      | 1, e => cases e; exact hu1
      | 2, e => cases e; exact hu2
      | 3, e => cases e; exact hu3
      | 4, e => cases e; exact hu4
      | 5, e => cases e; exact hu5
      | 6, e => cases e; exact hu6
      | c + 7, e => simp at e)
    exact ⟨some x, cap, xs, by rw [hx], hR⟩
end
end Go.Proofs.Ytgcnklnhambpjaa
