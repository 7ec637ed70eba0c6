/- DocumentFolds returns true. -/
import Derived.Test.YtgcnklnhambpjaaLForms
namespace Go.Proofs.Ytgcnklnhambpjaa
open Go.RowKit
attribute [local go_sem high] eqDoc
set_option maxHeartbeats 8000000 in
set_option maxRecDepth 100000 in
theorem lfolds_any (l : List Msg) (A : Option Addr) (c : Nat) (mv tgt : Int) (w : World) (hR : Rd EMsg w A l) : Calls Try.prog 4 #[.slice A l.length c, .int .i64 mv, .int .i64 tgt] w (LatPost true w) := by
  unfold LatPost
  have hle := hR.le
  have hfew := fun W => rfew_any l.length A c W hle
  by_cases hf : fewB l.length = true
  · rw [hf] at hfew
    have hl65 := few_len hf
    have hse := seok_all l
    have hcl := fun W (h : Below w.heap.size w W) => cloneM l A c W (hR.below h) (by omega)
    have h1 := fun A c W (h : Rd EMsg W A l) => ofT_any l mv A c W h
    have h2 := fun W (h : Below w.heap.size w W) => rofT_any l mv A c W (hR.below h)
    have h3 := fun A c W (h : Rd EMsg W A l) => allT_any l A c W h
    have h4 := fun W (h : Below w.heap.size w W) => rallT_any l A c W (hR.below h)
    have h5 := fun A c W (h : Rd EMsg W A l) => openT_any l tgt A c W h hse
    have h6 := fun W (h : Below w.heap.size w W) => ropenT_any l tgt A c W (hR.below h) hse
    unfold Made at hcl
    unfold OfTPost at h1 h2
    unfold Made2 at h3 h4
    generalize ofP l mv = p at h1 h2
    generalize openP l tgt = o at h5 h6
    clear hse
    generalize allP l = q at h3 h4
    obtain ⟨d, e1⟩ := p
    obtain ⟨ds, e2⟩ := q
    obtain ⟨o, e3⟩ := o
    obtain ⟨d0, d1, d2, d3, d4, d5, d6⟩ := d
    dsimp only [Doc.v] at h1 h2 h3 h4 h5 h6
    have H1 := hid_of h1
    have H2 := hid_of h2
    have H3 := hid_of h3
    have H4 := hid_of h4
    have H5 := hid_of h5
    have H6 := hid_of h6
    have HCL := hid_of hcl
    clear h1 h2 h3 h4 h5 h6 hcl hf hR hl65 hle
    go_enter Try.func4, Try.ntmps4
    go_wp2_with fail
    refine (awake_any _).mono ?_
    rintro e w1 ⟨rfl, hb⟩
    have HB := hid_of hb
    clear hb
    go_wp2_with fail
    refine (hfew _).mono ?_
    rintro e w' ⟨rfl, rfl⟩
    have hc := HCL.out w1 HB.out
    clear hfew
    go_wp2_with fail
    refine hc.mono ?_
    rintro e w2 ⟨v, rfl, hO, hb⟩
    obtain ⟨A1, c1, rfl, hlc, hR1⟩ := hO.rd
    have hc2 := H1.out A1 c1 w2 hR1
    replace HB := hid_of (below_then HB.out HB.out.size hb)
    clear hc hO hR1 hb H1
    go_wp2_with fail
    refine hc2.mono ?_
    rintro e w3 ⟨rfl, hb⟩
    replace HB := hid_of (below_then HB.out HB.out.size hb)
    have hc := H2.out _ (HB.out.alloc HB.out.size (.cells #[.int .i64 d0, .int .i64 d1, .int .i64 d2, .int .i64 d3, .int .i64 d4, .int .i64 d5, .int .i64 d6] 35))
    have HA : Hid ((w3.alloc (.cells #[.int .i64 d0, .int .i64 d1, .int .i64 d2, .int .i64 d3, .int .i64 d4, .int .i64 d5, .int .i64 d6] 35)).heap[w3.heap.size]? = some (.cells #[.int .i64 d0, .int .i64 d1, .int .i64 d2, .int .i64 d3, .int .i64 d4, .int .i64 d5, .int .i64 d6] 35 (0, 0))) := blkN w3 _
    clear hc2 hb H2
    go_wp2_with fail
    refine hc.mono ?_
    rintro e w4 ⟨rfl, hb⟩
    replace HA := hid_of ((hb.block _ (Array.getElem?_eq_some_iff.1 HA.out).1).trans HA.out)
    replace HB := hid_of (below_then (HB.out.alloc HB.out.size _) (by have := HB.out.size; simp; omega) hb)
    have HA2 : Hid ((w4.alloc (.cells #[.int .i64 d0, .int .i64 d1, .int .i64 d2, .int .i64 d3, .int .i64 d4, .int .i64 d5, .int .i64 d6] 35)).heap[w4.heap.size]? = some (.cells #[.int .i64 d0, .int .i64 d1, .int .i64 d2, .int .i64 d3, .int .i64 d4, .int .i64 d5, .int .i64 d6] 35 (0, 0))) := blkN w4 _
    replace HA := hid_of (blkA (o' := .cells #[.int .i64 d0, .int .i64 d1, .int .i64 d2, .int .i64 d3, .int .i64 d4, .int .i64 d5, .int .i64 d6] 35) HA.out)
    replace HB := hid_of (HB.out.alloc HB.out.size (.cells #[.int .i64 d0, .int .i64 d1, .int .i64 d2, .int .i64 d3, .int .i64 d4, .int .i64 d5, .int .i64 d6] 35))
    have hc2 := HCL.out _ HB.out
    clear hc hb
    go_wp2_with fail
    refine hc2.mono ?_
    rintro e w5 ⟨v, rfl, hO, hb⟩
    obtain ⟨A1, c1, rfl, hlc, hR1⟩ := hO.rd
    have hc := H3.out A1 c1 w5 hR1
    replace HA := hid_of ((hb.block _ (Array.getElem?_eq_some_iff.1 HA.out).1).trans HA.out)
    replace HA2 := hid_of ((hb.block _ (Array.getElem?_eq_some_iff.1 HA2.out).1).trans HA2.out)
    replace HB := hid_of (below_then HB.out HB.out.size hb)
    clear hc2 hO hR1 hb H3
    go_wp2_with fail
    refine hc.mono ?_
    rintro e w6 ⟨v, rfl, hO, hb⟩
    obtain ⟨A2, c2, rfl, hlc2, hR2⟩ := hO.rd
    have HR2 := hid_of hR2
    replace HA := hid_of ((hb.block _ (Array.getElem?_eq_some_iff.1 HA.out).1).trans HA.out)
    replace HA2 := hid_of ((hb.block _ (Array.getElem?_eq_some_iff.1 HA2.out).1).trans HA2.out)
    replace HB := hid_of (below_then HB.out HB.out.size hb)
    have hc2 := H4.out _ HB.out
    clear hc hO hR2 hb H4
    go_wp2_with fail
    refine hc2.mono ?_
    rintro e w7 ⟨v, rfl, hO, hb⟩
    obtain ⟨A3, c3, rfl, hlc3, hR3⟩ := hO.rd
    have HR3 := hid_of hR3
    replace HR2 := hid_of (HR2.out.below hb)
    replace HA := hid_of ((hb.block _ (Array.getElem?_eq_some_iff.1 HA.out).1).trans HA.out)
    replace HA2 := hid_of ((hb.block _ (Array.getElem?_eq_some_iff.1 HA2.out).1).trans HA2.out)
    replace HB := hid_of (below_then HB.out HB.out.size hb)
    have hc := HCL.out _ HB.out
    clear hc2 hO hR3 hb HCL
    go_wp2_with fail
    refine hc.mono ?_
    rintro e w8 ⟨v, rfl, hO, hb⟩
    obtain ⟨A1, c1, rfl, hlc, hR1⟩ := hO.rd
    have hc2 := H5.out A1 c1 w8 hR1
    replace HR2 := hid_of (HR2.out.below hb)
    replace HR3 := hid_of (HR3.out.below hb)
    replace HA := hid_of ((hb.block _ (Array.getElem?_eq_some_iff.1 HA.out).1).trans HA.out)
    replace HA2 := hid_of ((hb.block _ (Array.getElem?_eq_some_iff.1 HA2.out).1).trans HA2.out)
    replace HB := hid_of (below_then HB.out HB.out.size hb)
    clear hc hO hR1 hb H5
    go_wp2_with fail
    refine hc2.mono ?_
    rintro e w9 ⟨rfl, hb⟩
    replace HR2 := hid_of (HR2.out.below hb)
    replace HR3 := hid_of (HR3.out.below hb)
    replace HA := hid_of ((hb.block _ (Array.getElem?_eq_some_iff.1 HA.out).1).trans HA.out)
    replace HA2 := hid_of ((hb.block _ (Array.getElem?_eq_some_iff.1 HA2.out).1).trans HA2.out)
    replace HB := hid_of (below_then HB.out HB.out.size hb)
    have hc := H6.out _ HB.out
    clear hc2 hb H6
    go_wp2_with fail
    refine hc.mono ?_
    rintro e w10 ⟨rfl, hb⟩
    have hR2 := HR2.out.below hb
    have hR3 := HR3.out.below hb
    replace HA := hid_of ((hb.block _ (Array.getElem?_eq_some_iff.1 HA.out).1).trans HA.out)
    replace HA2 := hid_of ((hb.block _ (Array.getElem?_eq_some_iff.1 HA2.out).1).trans HA2.out)
    replace HB := hid_of (below_then HB.out HB.out.size hb)
    have hsame : Calls Try.prog 24 #[.slice A2 ds.length c2, .slice A3 ds.length c3] w10 fun e w' => e = .returned (.bool true) ∧ Below w10.heap.size w10 w' := by
      have h := sameD ds ds A2 A3 c2 c3 w10 hR2 hR3
      rwa [decide_eq_true rfl] at h
    have p0 := (blk_cell HA.out 0).trans (show _ = some (.int .i64 d0) from rfl)
    have p1 := (blk_cell HA.out 1).trans (show _ = some (.int .i64 d1) from rfl)
    have p2 := (blk_cell HA.out 2).trans (show _ = some (.int .i64 d2) from rfl)
    have p3 := (blk_cell HA.out 3).trans (show _ = some (.int .i64 d3) from rfl)
    have p4 := (blk_cell HA.out 4).trans (show _ = some (.int .i64 d4) from rfl)
    have p5 := (blk_cell HA.out 5).trans (show _ = some (.int .i64 d5) from rfl)
    have p6 := (blk_cell HA.out 6).trans (show _ = some (.int .i64 d6) from rfl)
    have q0 := (blk_cell HA2.out 0).trans (show _ = some (.int .i64 d0) from rfl)
    have q1 := (blk_cell HA2.out 1).trans (show _ = some (.int .i64 d1) from rfl)
    have q2 := (blk_cell HA2.out 2).trans (show _ = some (.int .i64 d2) from rfl)
    have q3 := (blk_cell HA2.out 3).trans (show _ = some (.int .i64 d3) from rfl)
    have q4 := (blk_cell HA2.out 4).trans (show _ = some (.int .i64 d4) from rfl)
    have q5 := (blk_cell HA2.out 5).trans (show _ = some (.int .i64 d5) from rfl)
    have q6 := (blk_cell HA2.out 6).trans (show _ = some (.int .i64 d6) from rfl)
    clear hc hR2 hR3 hb HR2 HR3 HA HA2
    go_wp2_with fail
    refine hsame.mono ?_
    rintro e w11 ⟨rfl, hb⟩
    replace HB := hid_of (below_then HB.out HB.out.size hb)
    clear hsame hb p0 p1 p2 p3 p4 p5 p6 q0 q1 q2 q3 q4 q5 q6
    go_wp2_with fail
    go_ret
    exact ⟨rfl, HB.out⟩
  · have hf2 : fewB l.length = false := by simpa using hf
    rw [hf2] at hfew
    clear hf hf2 hR
    go_enter Try.func4, Try.ntmps4
    go_wp2_with fail
    refine (awake_any _).mono ?_
    rintro e w1 ⟨rfl, hb⟩
    have HB := hid_of hb
    clear hb
    go_wp2_with fail
    refine (hfew _).mono ?_
    rintro e w' ⟨rfl, rfl⟩
    go_wp2_with fail
    go_ret
    exact ⟨rfl, HB.out⟩
end Go.Proofs.Ytgcnklnhambpjaa
