/- DocumentForms, DocumentFolds return true. -/
import Derived.Test.YtgcnklnhambpjaaRAllX
import Derived.Test.YtgcnklnhambpjaaAwake
import Derived.Test.YtgcnklnhambpjaaRSame
import Derived.Deep.RegionHeld3
namespace Go.Proofs.Ytgcnklnhambpjaa
open Go.RowKit
attribute [local go_sem high] eqDoc
theorem lastI_bd {f : Msg → Int} {l : List Msg} {a b : Int} (h0 : a ≤ 0) (h1 : 0 ≤ b) (h : ∀ m ∈ l, a ≤ f m ∧ f m ≤ b) : a ≤ lastI f l ∧ lastI f l ≤ b := by
  unfold lastI
  cases hl : l.getLast? with
  | none => exact ⟨h0, h1⟩
  | some m => exact h m (List.mem_of_getLast? hl)
theorem chk_al {m : Msg} (h : chkM m = 0) : 0 ≤ m.al ∧ m.al ≤ 10737418240000 := by
  unfold chkM at h
  repeat' split at h
  all_goals omega
theorem seok_all (l : List Msg) : SeOK (allP l).1 := by
  unfold allP
  rcases normR_cases l with ⟨h1, h2, h3, h4⟩ | ⟨h1, h2⟩
  · rw [h1, h2, if_neg (by simp)]
    dsimp only
    have hl := norm_len h3
    have hv := normL_ok h4
    generalize normL l = n at hl hv
    refine ⟨?_, fun d hd => ?_⟩
    · unfold docsL
      rw [List.length_map]
      have := movs_le n n.length
      omega
    · obtain ⟨mv, _, rfl⟩ := List.mem_map.1 hd
      have hc := ofR_char mv n
      generalize ofR mv n = d at hc
      by_cases c1 : n.filter (isK mv 1) = []
      · rw [hc.none c1]; exact ⟨Int.le_refl _, by show (0 : Int) ≤ _; decide⟩
      · by_cases c2 : confl mv n
        · rw [hc.conf c1 c2]; exact ⟨Int.le_refl _, by show (0 : Int) ≤ _; decide⟩
        · rw [hc.else_ c1 c2]
          exact lastI_bd (by decide) (by decide) (fun m hm => chk_al (hv m (List.mem_filter.1 hm).1))
  · rw [if_pos h1]
    exact ⟨by simp, fun d hd => by simp at hd⟩
theorem few_len {n : Nat} (h : fewB n = true) : n ≤ 65 := by
  have := of_decide_eq_true h
  omega
theorem keep7 {w W W' : World} {p0 p1 p2 p3 p4 p5 p6 : Addr} {a0 a1 a2 a3 a4 a5 a6 : Value} (h : Below w.heap.size w W ∧ W.cell? p0 = some a0 ∧ W.cell? p1 = some a1 ∧ W.cell? p2 = some a2 ∧ W.cell? p3 = some a3 ∧ W.cell? p4 = some a4 ∧ W.cell? p5 = some a5 ∧ W.cell? p6 = some a6) (k : Below W.heap.size W W') : Below w.heap.size w W' ∧ W'.cell? p0 = some a0 ∧ W'.cell? p1 = some a1 ∧ W'.cell? p2 = some a2 ∧ W'.cell? p3 = some a3 ∧ W'.cell? p4 = some a4 ∧ W'.cell? p5 = some a5 ∧ W'.cell? p6 = some a6 := by
  obtain ⟨h0, h1, h2, h3, h4, h5, h6, h7⟩ := h
  exact ⟨below_then h0 h0.size k, cell_below k h1, cell_below k h2, cell_below k h3, cell_below k h4, cell_below k h5, cell_below k h6, cell_below k h7⟩
set_option maxHeartbeats 8000000 in
set_option maxRecDepth 100000 in
theorem lforms_any (m : Msg) (l : List Msg) (A : Option Addr) (c : Nat) (w : World) (hR : Rd EMsg w A l) : Calls Try.prog 3 #[m.v, .slice A l.length c] w (LatPost true w) := by
  unfold LatPost
  have hle := hR.le
  have hfew := fun W => rfew_any l.length A c W hle
  have hck := fun W => check_any m W
  have hrk := fun W => rcheck_any m W
  unfold ChkPost at hck
  unfold RInt at hrk
  generalize chkM m = q at hck hrk
  by_cases hf : fewB l.length = true
  · rw [hf] at hfew
    have hl65 := few_len hf
    have hcl := fun W (h : Below w.heap.size w W) => cloneM l A c W (hR.below h) (by omega)
    have hn := fun A c W (h : Rd EMsg W A l) => normal_any l A c W h
    have hrn := fun W (h : Below w.heap.size w W) => rnormalT_any l A c W (hR.below h)
    unfold Made at hcl
    unfold Made2 at hn hrn
    generalize normR l = p at hn hrn
    obtain ⟨ns, en⟩ := p
    dsimp only at hn hrn
    have HN := hid_of hn
    have HRN := hid_of hrn
    have HCL := hid_of hcl
    clear hn hrn hcl hf hR hl65 hle
    obtain ⟨a0, a1, a2, a3, a4, a5, a6⟩ := m
    dsimp only [Msg.v] at hck hrk
    go_enter Try.func3, Try.ntmps3
    go_wp2_with fail
    refine (awake_any _).mono ?_
    rintro e w1 ⟨rfl, hb⟩
    have HA : Hid (w1.heap[w.heap.size]? = some (.cells #[.int .i64 a0, .int .i64 a1, .int .i64 a2, .int .i64 a3, .int .i64 a4, .int .i64 a5, .int .i64 a6] 23 (0, 0))) := (hb.block _ (by simp)).trans (blkN w _)
    have HB := hid_of (below_then ((Below.refl _ _).alloc (Nat.le_refl _) _) (by simp) hb)
    clear hb
    go_wp2_with fail
    refine (hfew _).mono ?_
    rintro e w' ⟨rfl, rfl⟩
    have hc := HCL.out w1 HB.out
    go_wp2_with fail
    refine hc.mono ?_
    rintro e w2 ⟨v, rfl, hO, hb⟩
    obtain ⟨A1, c1, rfl, hlc, hR1⟩ := hO.rd
    have hcn := HN.out A1 c1 w2 hR1
    replace HA := hid_of ((hb.block _ (Array.getElem?_eq_some_iff.1 HA.out).1).trans HA.out)
    replace HB := hid_of (below_then HB.out HB.out.size hb)
    clear hc hO hR1 hb hfew
    go_wp2_with fail
    refine hcn.mono ?_
    rintro e w3 ⟨v, rfl, hO, hb⟩
    obtain ⟨A2, c2, rfl, hlc2, hR2⟩ := hO.rd
    have HR2 := hid_of hR2
    replace HA := hid_of ((hb.block _ (Array.getElem?_eq_some_iff.1 HA.out).1).trans HA.out)
    replace HB := hid_of (below_then HB.out HB.out.size hb)
    have hcr := HRN.out w3 HB.out
    clear hcn hO hR2 hb
    go_wp2_with fail
    refine hcr.mono ?_
    rintro e w4 ⟨v, rfl, hO, hb⟩
    obtain ⟨A3, c3, rfl, hlc3, hR3⟩ := hO.rd
    have hR2' := HR2.out.below hb
    replace HA := hid_of ((hb.block _ (Array.getElem?_eq_some_iff.1 HA.out).1).trans HA.out)
    replace HB := hid_of (below_then HB.out HB.out.size hb)
    have hsame : ∀ W, Below w4.heap.size w4 W → Calls Try.prog 17 #[.slice A2 ns.length c2, .slice A3 ns.length c3] W fun e w' => e = .returned (.bool true) ∧ Below W.heap.size W w' := fun W h => by
      have h := sameM ns ns A2 A3 c2 c3 W (hR2'.below h) (hR3.below h)
      rwa [decide_eq_true rfl] at h
    have p0 := (blk_cell HA.out 0).trans (show _ = some (.int .i64 a0) from rfl)
    have p1 := (blk_cell HA.out 1).trans (show _ = some (.int .i64 a1) from rfl)
    have p2 := (blk_cell HA.out 2).trans (show _ = some (.int .i64 a2) from rfl)
    have p3 := (blk_cell HA.out 3).trans (show _ = some (.int .i64 a3) from rfl)
    have p4 := (blk_cell HA.out 4).trans (show _ = some (.int .i64 a4) from rfl)
    have p5 := (blk_cell HA.out 5).trans (show _ = some (.int .i64 a5) from rfl)
    have p6 := (blk_cell HA.out 6).trans (show _ = some (.int .i64 a6) from rfl)
    have HS0 := hid_of (show _ ∧ _ ∧ _ ∧ _ ∧ _ ∧ _ ∧ _ ∧ _ from ⟨(below_drewN (Below.refl _ _) 1 : Below w4.heap.size w4 w4.drew), (p0 : w4.drew.cell? _ = _), (p1 : w4.drew.cell? _ = _), (p2 : w4.drew.cell? _ = _), (p3 : w4.drew.cell? _ = _), (p4 : w4.drew.cell? _ = _), (p5 : w4.drew.cell? _ = _), (p6 : w4.drew.cell? _ = _)⟩)
    clear hcr hO hR3 hR2' hb HR2 p0 p1 p2 p3 p4 p5 p6 HN HRN HCL HA
    go_wp2_with fail
    go_region_held3 (fun w' => Below w4.heap.size w4 w' ∧ w'.cell? ⟨w.heap.size, 0, none⟩ = some (.int .i64 a0) ∧ w'.cell? ⟨w.heap.size, 1, none⟩ = some (.int .i64 a1) ∧ w'.cell? ⟨w.heap.size, 2, none⟩ = some (.int .i64 a2) ∧ w'.cell? ⟨w.heap.size, 3, none⟩ = some (.int .i64 a3) ∧ w'.cell? ⟨w.heap.size, 4, none⟩ = some (.int .i64 a4) ∧ w'.cell? ⟨w.heap.size, 5, none⟩ = some (.int .i64 a5) ∧ w'.cell? ⟨w.heap.size, 6, none⟩ = some (.int .i64 a6))
      (first
        | exact HS0.out
        | exact keep7 (by assumption) hbk)
      (first
        | (go_at_call 15; with_reducible (refine (hck _).mono ?_); rintro e w' ⟨rfl, hbk⟩)
        | (go_at_call 16; with_reducible (refine (hrk _).mono ?_); rintro e w' ⟨rfl, hbk⟩)
        | (go_at_call 17; refine (hsame _ (by go_split_ands; with_reducible assumption)).mono ?_; rintro e w' ⟨rfl, hbk⟩))
    go_wp2
    go_ret
    refine ⟨rfl, ?_⟩
    go_split_ands
    refine below_then HB.out HB.out.size ?_
    with_reducible assumption
  · have hf2 : fewB l.length = false := by simpa using hf
    rw [hf2] at hfew
    clear hf hf2 hR hck hrk
    obtain ⟨a0, a1, a2, a3, a4, a5, a6⟩ := m
    go_enter Try.func3, Try.ntmps3
    go_wp2_with fail
    refine (awake_any _).mono ?_
    rintro e w1 ⟨rfl, hb⟩
    have HB := hid_of (below_then ((Below.refl _ _).alloc (Nat.le_refl _) _) (by simp) hb)
    clear hb
    go_wp2_with fail
    refine (hfew _).mono ?_
    rintro e w' ⟨rfl, rfl⟩
    go_wp2_with fail
    go_ret
    exact ⟨rfl, HB.out⟩
end Go.Proofs.Ytgcnklnhambpjaa
