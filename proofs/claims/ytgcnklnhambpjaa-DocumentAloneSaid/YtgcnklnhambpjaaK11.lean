/- Joined texts of the seat: contracts and plain laws that the rows import. -/
import Derived.Test.YtgcnklnhambpjaaK9
import Derived.Test.YtgcnklnhambpjaaK10
import Derived.Test.YtgcnklnhambpjaaK1
import Derived.Test.YtgcnklnhambpjaaK2
import Derived.Test.YtgcnklnhambpjaaK5
import Derived.Deep.CutRange
import Derived.Deep.DeepCutAuto
import Derived.Deep.QuietTactic
import Derived.Deep.RegionHeld3
import Derived.BigQuiet
import Derived.Deep.LoopGhost
set_option linter.unusedVariables false
set_option linter.unusedSimpArgs false
/- Messages about other movements do not matter for a document: plain lists. -/
namespace Go.Proofs.Ytgcnklnhambpjaa
open Go.RowKit
theorem ofFold_alone (mv : Int) : ∀ n : List Msg, ofFold mv (n.filter (fun m => decide (m.mv = mv))) = ofFold mv n := by
  refine snoc_ind rfl (fun n m ih => ?_)
  rw [List.filter_append, ofFold_snoc, ← ih]
  by_cases h : m.mv = mv
  · simp only [List.filter_cons, h, decide_true, if_true, List.filter_nil]
    rw [ofFold_snoc]
  · simp only [List.filter_cons, h, decide_false, List.filter_nil]
    have : ∀ s, ofStep mv s m = s := fun s => by unfold ofStep; rw [if_pos h]
    rw [this]; simp
theorem ofR_alone (mv : Int) (n : List Msg) : ofR mv (n.filter (fun m => decide (m.mv = mv))) = ofR mv n := by
  unfold ofR; rw [ofFold_alone]
theorem normL_filter (p : Msg → Bool) (l : List Msg) : normL (l.filter p) = (normL l).filter p := by
  refine (normL_of ((normL_strict l).filter p) (fun x => ?_)).symm
  rw [List.mem_filter, List.mem_filter, normL_mem]
theorem ofR_mv (mv : Int) (n : List Msg) : (ofR mv n).mv = mv := by
  have hc := ofR_char mv n
  by_cases c1 : n.filter (isK mv 1) = []
  · rw [hc.none c1]
  · by_cases c2 : confl mv n
    · rw [hc.conf c1 c2]
    · rw [hc.else_ c1 c2]
/-- What DocumentAlone asks. -/
structure AloneI (l : List Msg) (mv : Int) (a : Doc) (ds : List Doc) : Prop where
  len : ds.length ≤ 64
  asc : ∀ i, 0 < i → (h : i < ds.length) → (ds[i - 1]'(by omega)).mv < ds[i].mv
  idx : (l.filter (fun m => decide (m.mv = mv)) = [] ∧ fidx (fun d : Doc => decide (d.mv = mv)) ds = -1) ∨ (l.filter (fun m => decide (m.mv = mv)) ≠ [] ∧ ∃ i : Nat, ∃ h : i < ds.length, fidx (fun d : Doc => decide (d.mv = mv)) ds = i ∧ ds[i] = a)
theorem aloneP (l : List Msg) (mv : Int) : ((ofP l mv).2 ≠ 0 ∧ (ofP l mv).1 = zeroDoc) ∨ ((ofP l mv).2 = 0 ∧ ofP (l.filter (fun m => decide (m.mv = mv))) mv = ofP l mv ∧ (allP l).2 = 0 ∧ AloneI l mv (ofP l mv).1 (allP l).1) := by
  rcases ofP_cases l mv with ⟨g1, g2, g3, g4, g5, g6⟩ | ⟨g1, g2⟩
  · refine .inr ⟨g1, ?_, ?_⟩
    · have hn : (normR (l.filter (fun m => decide (m.mv = mv)))).2 = 0 ∧ (normR (l.filter (fun m => decide (m.mv = mv)))).1 = normL (l.filter (fun m => decide (m.mv = mv))) := by
        have hlen := List.length_filter_le (fun m : Msg => decide (m.mv = mv)) l
        unfold normR
        rw [if_neg (by omega), if_neg]
        · exact ⟨rfl, rfl⟩
        · intro ha
          obtain ⟨x, hx, hb⟩ := List.any_eq_true.1 ha
          simp [badM, g4 x (List.mem_filter.1 hx).1] at hb
      refine Prod.ext ?_ ?_
      · rw [g2]; unfold ofP
        rw [hn.1, if_neg (by simp), if_neg (by omega), hn.2, normL_filter]
        exact ofR_alone mv _
      · rw [g1]; unfold ofP
        rw [hn.1, if_neg (by simp), if_neg (by omega)]
    · have hall : allP l = (docsL (normL l), 0) := by
        unfold allP
        rcases normR_cases l with ⟨h1, h2, _, _⟩ | ⟨h1, _⟩
        · rw [h1, h2, if_neg (by simp)]
        · exfalso
          unfold ofP at g1
          rw [if_pos h1] at g1
          exact h1 g1
      rw [hall, g2]
      refine ⟨rfl, ?_⟩
      have hm := movs_ok (normL_strict l) (normL l).length (Nat.le_refl _)
      dsimp only
      have hle : (movs (normL l) (normL l).length).length ≤ 64 := by
        have h1 := movs_le (normL l) (normL l).length
        have h2 : (normL l).length ≤ 64 := by
          unfold normL
          have := comp_le (l.mergeSort leM)
          rw [List.length_mergeSort] at this
          omega
        omega
      have hmem : mv ∈ movs (normL l) (normL l).length ↔ l.filter (fun m => decide (m.mv = mv)) ≠ [] := by
        rw [hm.mem mv, List.take_length]
        constructor
        · rintro ⟨m, h, rfl⟩ e
          have : m ∈ l.filter (fun x => decide (x.mv = m.mv)) := List.mem_filter.2 ⟨(normL_mem l m).1 h, by simp⟩
          rw [e] at this; simp at this
        · intro h
          obtain ⟨m, r, e⟩ := List.exists_cons_of_ne_nil h
          have : m ∈ l.filter (fun x => decide (x.mv = mv)) := by rw [e]; simp
          have h2 := List.mem_filter.1 this
          exact ⟨m, (normL_mem l m).2 h2.1, by simpa using h2.2⟩
      unfold docsL
      generalize movs (normL l) (normL l).length = ms at hm hle hmem
      refine ⟨by simpa using hle, fun i h0 h => ?_, ?_⟩
      · simp only [List.getElem_map, ofR_mv]
        exact List.pairwise_iff_getElem.1 hm.asc (i - 1) i _ _ (by omega)
      · by_cases hf : l.filter (fun m => decide (m.mv = mv)) = []
        · refine .inl ⟨hf, ?_⟩
          refine fidx_miss _ _ (fun j hj => ?_)
          simp only [List.getElem_map, ofR_mv]
          refine decide_eq_false (fun e => hmem.1 ?_ hf)
          rw [← e]; exact List.getElem_mem _
        · refine .inr ⟨hf, ?_⟩
          obtain ⟨i, hi, e⟩ := List.getElem_of_mem (hmem.2 hf)
          refine ⟨i, by simpa using hi, ?_, ?_⟩
          · refine fidx_hit _ _ i (by simpa using hi) ?_ (fun j hj => ?_)
            · simp only [List.getElem_map, ofR_mv]; exact decide_eq_true e
            · simp only [List.getElem_map, ofR_mv]
              refine decide_eq_false ?_
              have := List.pairwise_iff_getElem.1 hm.asc j i (by omega) hi hj
              omega
          · simp only [List.getElem_map]; rw [e]
  · exact .inl ⟨g1, g2⟩
end Go.Proofs.Ytgcnklnhambpjaa
/- Elements left out of a list in place: plain lists. -/
namespace Go.Proofs.Ytgcnklnhambpjaa
variable {α : Type}
/-- The first j elements are looked at; the i kept ones stand first. -/
structure DelI (xs : List α) (p : α → Bool) (j i : Nat) (dk : List α) : Prop where
  len : dk.length = xs.length
  lt : i < j
  le : j ≤ xs.length
  low : dk.take i = (xs.take j).filter (fun x => !p x)
  high : ∀ k, j ≤ k → dk[k]? = xs[k]?
theorem filter_none {xs : List α} {p : α → Bool} (h : ∀ x ∈ xs, p x = false) : xs.filter (fun x => !p x) = xs := by
  rw [List.filter_eq_self]; intro x hx; simp [h x hx]
theorem DelI.start {xs : List α} {p : α → Bool} {i : Nat} (hi : i < xs.length) (h : p xs[i] = true) (h0 : ∀ j (_ : j < i) (hj : j < xs.length), p xs[j] = false) : DelI xs p (i + 1) i xs := by
  refine ⟨rfl, Nat.lt_succ_self _, hi, ?_, fun _ _ => rfl⟩
  rw [List.take_succ_eq_append_getElem hi, List.filter_append, filter_none]
  · simp [h]
  · intro x hx
    obtain ⟨j, hj, rfl⟩ := List.getElem_of_mem hx
    have hj' : j < i := by have := hj; simp at this; omega
    rw [List.getElem_take]
    exact h0 j hj' (by omega)
theorem DelI.here {xs dk : List α} {p : α → Bool} {j i : Nat} (h : DelI xs p j i dk) (hj : j < xs.length) (hd : j < dk.length) : dk[j] = xs[j] := by
  have := h.high j (Nat.le_refl _)
  rwa [List.getElem?_eq_getElem hd, List.getElem?_eq_getElem hj, Option.some.injEq] at this
theorem DelI.skip {xs dk : List α} {p : α → Bool} {j i : Nat} (h : DelI xs p j i dk) (hj : j < xs.length) (x : α) (hx : xs[j] = x) (hp : p x = true) : DelI xs p (j + 1) i dk := by
  subst hx
  refine ⟨h.len, by have := h.lt; omega, hj, ?_, fun k hk => h.high k (by omega)⟩
  rw [h.low, List.take_succ_eq_append_getElem hj, List.filter_append]; simp [hp]
theorem DelI.keep {xs dk : List α} {p : α → Bool} {j i : Nat} (h : DelI xs p j i dk) (hj : j < xs.length) (x : α) (hx : xs[j] = x) (hp : p x = false) : DelI xs p (j + 1) (i + 1) (dk.set i x) := by
  subst hx
  have hl := h.len
  have hlt := h.lt
  refine ⟨by simp [hl], by omega, hj, ?_, fun k hk => ?_⟩
  · rw [List.take_succ_eq_append_getElem (by simp; omega), List.getElem_set_self, List.take_set_of_le (Nat.le_refl _), h.low, List.take_succ_eq_append_getElem hj, List.filter_append]
    simp [hp]
  · rw [List.getElem?_set_ne (by omega)]; exact h.high k (by omega)
theorem DelI.done {xs dk : List α} {p : α → Bool} {i : Nat} (h : DelI xs p xs.length i dk) : dk.take i = xs.filter (fun x => !p x) := by rw [h.low, List.take_length]
end Go.Proofs.Ytgcnklnhambpjaa
/- slices.DeleteFunc of messages, on a row of the call's own, by whatever predicate that only makes memory. -/
namespace Go.Proofs.Ytgcnklnhambpjaa
open Go.RowKit
set_option maxHeartbeats 4000000 in
set_option maxRecDepth 100000 in
theorem deleteM (xs : List Msg) (p : Msg → Bool) (gf : Nat) (cb : Array Value) (v : Value) (base : Nat) (w : World) (hO : Own EMsg 23 w base v xs) (hb : base ≤ w.heap.size)
    (eg : ∀ args w, (callFunc gf args).run Try.prog w = .ok (.enter gf args) w)
    (hp : ∀ (x : Msg) (W : World), Below base w W → Calls Try.prog gf (#[x.v] ++ cb) W fun e W' => e = .returned (.bool (p x)) ∧ Below W.heap.size W W') :
    Calls Try.prog 27 #[v, .func (.func gf) #[] cb] w fun e w' => ∃ v', e = .returned v' ∧ Own EMsg 23 w' base v' (xs.filter (fun x => !p x)) ∧ Below base w w' := by
  obtain ⟨A, cap, hv, hcap, hR⟩ := hO.rd
  have hle := hO.le
  subst hv
  have hix := indexFuncM xs p gf cb A cap w hR eg (fun x W h => hp x W (h.mono hb))
  have HO := hid_of hO
  have HP := hid_of hp
  have HB0 := hid_of hb
  clear hR hO hp hb
  by_cases hany : ∃ i, ∃ h : i < xs.length, p xs[i] = true ∧ ∀ j (_ : j < i) (hj : j < xs.length), p xs[j] = false
  · obtain ⟨i, hi, hpi, h0⟩ := hany
    rw [fidx_hit p xs i hi hpi (fun j hj => h0 j hj (by omega))] at hix
    have HD := hid_of (DelI.start hi hpi h0)
    clear hpi h0
    obtain ⟨g, cap', hv, hbg, hgl, hc1⟩ := HO.out.open_ (by omega)
    simp only [Value.slice.injEq] at hv
    obtain ⟨rfl, hq, rfl⟩ := hv
    clear hq
    have HRow : Hid (Row EMsg 23 w g cap xs) := (show Own EMsg 23 w base (.slice (some ⟨g, 0, none⟩) xs.length cap) xs from HO.out).row.1
    have hcapl := HRow.out.cap_le
    have HBG := hid_of hbg
    have hi1 : ¬ ((i : Int) = -1) := by omega
    have hi1' : ((i : Int) == -1) = false := by simp
    clear hbg hi1
    go_enter Try.func27, Try.ntmps27
    go_wp2_with fail
    refine hix.mono ?_
    rintro e w1 ⟨rfl, hb1⟩
    have HB := hid_of (hb1.mono HB0.out)
    have HRow := hid_of (HRow.out.below hb1)
    clear hix hb1
    go_wp2_with fail
    go_loopg [5, 6, 7] xs.length (fun gg s5 s6 _ wr => ∃ (i j : Nat) (dk : List Msg), xs.length - j ≤ gg ∧ s5 = .int .i64 i ∧ s6 = .int .i64 j ∧ Hid (DelI xs p j i dk) ∧ Hid (Row EMsg 23 wr g cap dk) ∧ Hid (Below base w wr))
    case atStart => exact ⟨i, i + 1, xs, by omega, rfl, by go_num, HD.out, HRow.out, HB.out⟩
    case round =>
      obtain ⟨i, j, dk, hg, rfl, rfl, HD, HRow, BW⟩ := hrel
      have hij := HD.out.lt
      have hjl := HD.out.le
      have hl1 : dk.length ≤ xs.length := by rw [HD.out.len]; exact Nat.le_refl _
      have hl2 : xs.length ≤ dk.length := by rw [HD.out.len]; exact Nat.le_refl _
      by_cases hlt : j < xs.length
      · obtain ⟨ad, had, c0, c1, c2, c3, c4, c5, c6⟩ := Msg.at_ HRow.out.rd j (by omega)
        cases had
        simp only [addr_plain] at c0 c1 c2 c3 c4 c5 c6
        have hu0 := HD.out.here hlt (by omega)
        rw [hu0] at c0 c1 c2 c3 c4 c5 c6
        clear hu0
        have HLT := hid_of hlt
        generalize hx : xs[j] = x at c0 c1 c2 c3 c4 c5 c6
        have HX := hid_of hx
        clear hx
        have hsz : base ≤ wr.heap.size := Nat.le_trans HB0.out BW.out.size
        have BA := hid_of (BW.out.alloc hsz (.cells #[.int .i64 x.mv, .int .i64 x.kd, .int .i64 x.nu, .int .i64 x.dy, .int .i64 x.fr, .int .i64 x.tt, .int .i64 x.al] 23))
        have hcall := HP.out x _ BA.out
        have hblk := blkN wr (.cells #[.int .i64 x.mv, .int .i64 x.kd, .int .i64 x.nu, .int .i64 x.dy, .int .i64 x.fr, .int .i64 x.tt, .int .i64 x.al] 23)
        have HRA := hid_of (HRow.out.below ((Below.refl _ wr).alloc (Nat.le_refl _) (.cells #[.int .i64 x.mv, .int .i64 x.kd, .int .i64 x.nu, .int .i64 x.dy, .int .i64 x.fr, .int .i64 x.tt, .int .i64 x.al] 23)))
        have HBLK := hid_of hblk
        have HSZ := hid_of hsz
        clear hblk hsz
        cases hpx : p x with
        | true =>
          have HPX := hid_of hpx
          rw [hpx] at hcall
          clear hpx
          go_wp2_with (go_at_fn gf; refine hcall.mono ?_; rintro e w' ⟨rfl, hb'⟩)
          have HRB := hid_of (HRA.out.below hb')
          have HBB := hid_of (below_then BA.out (Nat.le_trans HSZ.out (by simp)) hb')
          clear hb'
          go_roundg (xs.length - (j + 1))
          case measure => omega
          case rel => exact ⟨i, j + 1, dk, Nat.le_refl _, rfl, by go_num, HD.out.skip HLT.out x HX.out HPX.out, HRB.out, HBB.out⟩
        | false =>
          have HPX := hid_of hpx
          rw [hpx] at hcall
          clear hpx
          have hi1 : (i : Int) < (xs.length : Int) := by omega
          have hi2 : i < xs.length := by omega
          go_wp2_with (go_at_fn gf; refine hcall.mono ?_; rintro e w' ⟨rfl, hb'⟩; have hbk := (hb'.block _ (by simp)).trans HBLK.out; have p0 := (blk_cell hbk 0).trans (show _ = some (.int .i64 x.mv) from rfl); have p1 := (blk_cell hbk 1).trans (show _ = some (.int .i64 x.kd) from rfl); have p2 := (blk_cell hbk 2).trans (show _ = some (.int .i64 x.nu) from rfl); have p3 := (blk_cell hbk 3).trans (show _ = some (.int .i64 x.dy) from rfl); have p4 := (blk_cell hbk 4).trans (show _ = some (.int .i64 x.fr) from rfl); have p5 := (blk_cell hbk 5).trans (show _ = some (.int .i64 x.tt) from rfl); have p6 := (blk_cell hbk 6).trans (show _ = some (.int .i64 x.al) from rfl); have hfz := fun j => (HRA.out.below hb').frozen j; obtain ⟨ad2, had2, e0, e1, e2, e3, e4, e5, e6⟩ := Msg.at_ (HRA.out.below hb').rd i (by omega); cases had2; simp only [addr_plain] at e0 e1 e2 e3 e4 e5 e6; have HRB := hid_of (HRA.out.below hb'); have HBB := hid_of (below_then BA.out (Nat.le_trans HSZ.out (by simp)) hb'); clear hb' hbk)
          have hs := HRB.out.set i (by omega) x
          go_roundg (xs.length - (j + 1))
          case measure => omega
          case rel =>
            have hk := HD.out.keep HLT.out x HX.out HPX.out
            exact ⟨i + 1, j + 1, _, Nat.le_refl _, by go_num, by go_num, hk, hs.1, HBB.out.grown hs.2 (Nat.le_trans HB0.out HBB.out.size) (fun k hk => by cases hk; exact HBG.out)⟩
      · have hj : j = xs.length := by omega
        subst hj
        obtain ⟨w2, hcl2, hrow, hgr⟩ := HRow.out.clear i (xs.length - i) (cap - i) Try.underlying24 Try.zeroValue23 rfl EMsg_zero (by omega) (by omega)
        have hcl3 : ∀ ty, (Builtin.clear_ #[24] ty #[.slice (some ⟨g, i * 7, none⟩) (xs.length - i) (cap - i)]).run Try.prog wr = .ok (.tuple #[]) w2 := hcl2
        have HRow2 := hid_of hrow
        have HGr := hid_of hgr
        have HSZ : Hid (base ≤ wr.heap.size) := Nat.le_trans HB0.out BW.out.size
        clear hcl2 hrow hgr
        go_wp2
        go_ret
        have hr := HRow2.out
        rw [HD.out.done] at hr
        have hli : i = (xs.filter (fun x => !p x)).length := by rw [← HD.out.done, List.length_take]; omega
        refine ⟨_, rfl, ?_, BW.out.grown HGr.out HSZ.out (fun k hk => by cases hk; exact HBG.out)⟩
        have ho := hr.own HBG.out
        rw [← hli] at ho
        exact ho
  · have hmiss : ∀ j (hj : j < xs.length), p xs[j] = false := by
      intro j
      induction j using Nat.strongRecOn with
      | ind j ih =>
        intro hj
        cases hpj : p xs[j] with
        | false => rfl
        | true => exact absurd ⟨j, hj, hpj, fun k hk hk' => ih k hk hk'⟩ hany
    rw [fidx_miss p xs hmiss] at hix
    have hf : xs.filter (fun x => !p x) = xs := filter_none (fun x hx => by obtain ⟨j, hj, rfl⟩ := List.getElem_of_mem hx; exact hmiss j hj)
    rw [hf]
    clear hany hmiss hf HP
    go_enter Try.func27, Try.ntmps27
    go_wp2_with fail
    refine hix.mono ?_
    rintro e w1 ⟨rfl, hb1⟩
    have HB := hid_of (hb1.mono HB0.out)
    have HO1 := hid_of (HO.out.below hb1)
    clear hix hb1
    go_wp2_with fail
    go_ret
    exact ⟨_, rfl, HO1.out, HB.out⟩
end Go.Proofs.Ytgcnklnhambpjaa
/- slices.IndexFunc, slices.ContainsFunc at api.Document, whatever predicate they are handed that only makes memory. -/
namespace Go.Proofs.Ytgcnklnhambpjaa
open Go.RowKit
set_option maxHeartbeats 1000000 in
theorem indexFuncD (xs : List Doc) (p : Doc → Bool) (g : Nat) (cb : Array Value) (A : Option Addr) (c : Nat) (w : World) (hR : Rd EDoc w A xs)
    (eg : ∀ args w, (callFunc g args).run Try.prog w = .ok (.enter g args) w)
    (hp : ∀ (x : Doc) (W : World), Below w.heap.size w W → Calls Try.prog g (#[x.v] ++ cb) W fun e W' => e = .returned (.bool (p x)) ∧ Below W.heap.size W W') :
    Calls Try.prog 29 #[.slice A xs.length c, .func (.func g) #[] cb] w fun e w' => e = .returned (.int .i64 (fidx p xs)) ∧ Below w.heap.size w w' := by
  have hle := hR.le
  go_enter Try.func29, Try.ntmps29
  go_wp2
  go_loopg [5, 8] xs.length (fun gg _ s8 wr => ∃ k : Nat, k ≤ xs.length ∧ xs.length - k ≤ gg ∧ s8 = .int .i64 k ∧ Hid (Below w.heap.size w wr) ∧ Hid (∀ j (_ : j < k) (hj : j < xs.length), p xs[j] = false))
  case atStart => exact ⟨0, Nat.zero_le _, by omega, rfl, Below.refl _ _, fun j hj => absurd hj (Nat.not_lt_zero _)⟩
  case round =>
    obtain ⟨k, hk, hg, rfl, BW, HA⟩ := hrel
    by_cases hlt : k < xs.length
    · obtain ⟨ad, rfl, c0, c1, c2, c3, c4, c5, c6⟩ := Doc.at_ (hR.below BW.out) k hlt
      have hcall := hp xs[k] _ BW.out
      have HX : Hid (Rd EDoc w (some ad) xs) := hR
      clear hR hp
      generalize hy : xs[k] = y at *
      have HY : Hid (xs[k] = y) := hy
      clear hy
      cases hq : p y with
      | true =>
        rw [hq] at hcall
        go_wp2_with (go_at_fn g; refine hcall.mono ?_; rintro e w' ⟨rfl, hb'⟩)
        go_ret
        refine ⟨?_, below_then BW.out BW.out.size hb'⟩
        rw [fidx_hit p xs k hlt (by rw [HY.out]; exact hq) (fun j hj => HA.out j hj (by omega))]
        rfl
      | false =>
        rw [hq] at hcall
        go_wp2_with (go_at_fn g; refine hcall.mono ?_; rintro e w' ⟨rfl, hb'⟩)
        go_roundg (xs.length - (k + 1))
        case measure => omega
        case rel =>
          refine ⟨k + 1, by omega, by omega, by go_num, below_then BW.out BW.out.size hb', (show Hid _ from fun j hj hj' => ?_)⟩
          by_cases e : j = k
          · subst e
            rw [HY.out]; exact hq
          · exact HA.out j (by omega) hj'
    · have : k = xs.length := by omega
      subst this
      go_wp2
      go_ret
      refine ⟨?_, BW.out⟩
      rw [fidx_miss p xs (fun j hj => HA.out j hj hj)]
      rfl
end Go.Proofs.Ytgcnklnhambpjaa
/- DocumentAlone returns true. -/
namespace Go.Proofs.Ytgcnklnhambpjaa
open Go.RowKit
attribute [local go_sem high] eqDoc
theorem doc_set (a : Doc) {W : World} {g : Nat} (hz : W.heap[g]? = some (.cells #[.int .i64 0, .int .i64 0, .int .i64 0, .int .i64 0, .int .i64 0, .int .i64 0, .int .i64 0] 35 (0, 0))) : (setCellsAt W g 0 (EDoc.enc a)).heap[g]? = some (.cells #[.int .i64 a.mv, .int .i64 a.st, .int .i64 a.fr, .int .i64 a.tt, .int .i64 a.se, .int .i64 a.re, .int .i64 a.ch] 35 (0, 0)) ∧ W.grownBy (setCellsAt W g 0 (EDoc.enc a)) (some g) := by
  have h := setCellsAt_heap (EDoc.enc a) W g 0 _ _ hz
  exact h
set_option maxHeartbeats 4000000 in
theorem alone1 (x : Msg) (g : Nat) (mv : Int) (W : World) (h : W.cell? ⟨g, 0, none⟩ = some (.int .i64 mv)) : Calls Try.prog 28 #[x.v, .pointer (some ⟨g, 0, none⟩)] W fun e W' => e = .returned (.bool (!decide (x.mv = mv))) ∧ Below W.heap.size W W' := by
  obtain ⟨x0, x1, x2, x3, x4, x5, x6⟩ := x
  have hb := cell_below ((Below.refl _ W).alloc (Nat.le_refl _) (.cells #[.int .i64 x0, .int .i64 x1, .int .i64 x2, .int .i64 x3, .int .i64 x4, .int .i64 x5, .int .i64 x6] 23)) h
  clear h
  by_cases hx : x0 = mv
  · subst hx
    go_enter Try.func28, Try.ntmps28
    go_wp2
    go_ret
    exact ⟨by simp, (Below.refl _ _).alloc (Nat.le_refl _) _⟩
  · have hd : (x0 != mv) = true := by simpa using hx
    go_enter Try.func28, Try.ntmps28
    go_wp2
    go_ret
    exact ⟨by simp [hx], (Below.refl _ _).alloc (Nat.le_refl _) _⟩
set_option maxHeartbeats 4000000 in
theorem alone2 (x : Doc) (g : Nat) (mv : Int) (W : World) (h : W.cell? ⟨g, 0, none⟩ = some (.int .i64 mv)) : Calls Try.prog 30 #[x.v, .pointer (some ⟨g, 0, none⟩)] W fun e W' => e = .returned (.bool (decide (x.mv = mv))) ∧ Below W.heap.size W W' := by
  obtain ⟨x0, x1, x2, x3, x4, x5, x6⟩ := x
  have hb := cell_below ((Below.refl _ W).alloc (Nat.le_refl _) (.cells #[.int .i64 x0, .int .i64 x1, .int .i64 x2, .int .i64 x3, .int .i64 x4, .int .i64 x5, .int .i64 x6] 35)) h
  clear h
  by_cases hx : x0 = mv
  · subst hx
    go_enter Try.func30, Try.ntmps30
    go_wp2
    go_ret
    exact ⟨by simp, (Below.refl _ _).alloc (Nat.le_refl _) _⟩
  · have hd : (x0 == mv) = false := by simpa using hx
    go_enter Try.func30, Try.ntmps30
    go_wp2
    go_ret
    exact ⟨by simp [hx], (Below.refl _ _).alloc (Nat.le_refl _) _⟩
set_option maxHeartbeats 8000000 in
set_option maxRecDepth 100000 in
theorem lalone_any (l : List Msg) (A : Option Addr) (c : Nat) (mv : Int) (w : World) (hR1 : Rd EMsg w A l) : Calls Try.prog 6 #[.slice A l.length c, .int .i64 mv] w (LatPost true w) := by
  unfold LatPost
  have hle1 := hR1.le
  by_cases hs : l.length ≤ 16
  · have hl16 : l.length * 56 ≤ 140737488355328 := by omega
    have hs' : ¬ ((l.length : Int) > 16) := by omega
    have hq := aloneP l mv
    obtain ⟨own, hown⟩ : ∃ own, own = l.filter (fun m => decide (m.mv = mv)) := ⟨_, rfl⟩
    have hol : own.length ≤ 16 := by rw [hown]; exact Nat.le_trans (List.length_filter_le _ _) hs
    have h1 := fun A c W (h : Rd EMsg W A l) => ofT_any l mv A c W h
    have h3 := fun A c W (h : Rd EMsg W A l) => allT_any l A c W h
    rw [← hown] at hq
    unfold OfTPost at h1
    unfold Made2 at h3
    generalize ofP l mv = q1 at h1 hq
    generalize allP l = q3 at h3 hq
    obtain ⟨⟨a0, a1, a2, a3, a4, a5, a6⟩, e1⟩ := q1
    obtain ⟨ds, e3⟩ := q3
    dsimp only [Doc.v] at h1 hq h3
    have HQ := hid_of hq
    have HOWN := hid_of hown
    have HOWN2 := hid_of hown
    have HOL := hid_of hol
    have HL1 := hid_of hs
    clear hq hown hol hle1 hs
    have RL := hid_of (hR1.alloc (.cells #[.int .i64 mv] 3))
    have HBX : Hid ((w.alloc (.cells #[.int .i64 mv] 3)).heap[w.heap.size]? = some (.cells #[.int .i64 mv] 3 (0, 0))) := blkN w _
    have HB := hid_of ((Below.refl _ w).alloc (Nat.le_refl _) (.cells #[.int .i64 mv] 3))
    clear hR1
    go_enter Try.func6, Try.ntmps6
    go_wp2_with fail
    refine (awake_any _).mono ?_
    rintro e w1 ⟨rfl, hb⟩
    replace RL := hid_of (RL.out.below hb)
    replace HBX := hid_of ((hb.block _ (Array.getElem?_eq_some_iff.1 HBX.out).1).trans HBX.out)
    replace HB := hid_of (below_then HB.out (by simp) hb)
    clear hb
    go_wp2_with fail
    have bx := (blk_cell HBX.out 0).trans (show _ = some (.int .i64 mv) from rfl)
    have RL1 : Rd EMsg w1.drew A l := RL.out
    have bx1 : w1.drew.cell? _ = _ := bx
    have bx1a := cell_below ((Below.refl _ w1.drew).alloc (Nat.le_refl _) (.cells #[.int .i64 0, .int .i64 0, .int .i64 0, .int .i64 0, .int .i64 0, .int .i64 0, .int .i64 0] 35)) bx1
    have bx1b : (w1.alloc (.cells #[.int .i64 0, .int .i64 0, .int .i64 0, .int .i64 0, .int .i64 0, .int .i64 0, .int .i64 0] 35)).drew.cell? ⟨w.heap.size, 0, none⟩ = some (.int .i64 mv) := bx1a
    have hC1 := cloneM l A c w1.drew RL1 hl16
    have hC2 := cloneM l A c (w1.drew.alloc (.cells #[.int .i64 0, .int .i64 0, .int .i64 0, .int .i64 0, .int .i64 0, .int .i64 0, .int .i64 0] 35)) (RL1.alloc _) hl16
    go_cut [5, 6] (fun s5 s6 wx => ∃ g : Nat, s5 = .pointer (some ⟨g, 0, none⟩) ∧ s6 = .int .i64 e1 ∧ Hid (Below w1.heap.size w1 wx) ∧ Hid (wx.heap[g]? = some (.cells #[.int .i64 a0, .int .i64 a1, .int .i64 a2, .int .i64 a3, .int .i64 a4, .int .i64 a5, .int .i64 a6] 35 (0, 0))))
    case first =>
      go_region_with (first
        | (go_at_call 13; refine hC1.mono ?_; rintro e w2 ⟨v, rfl, hO, hb2⟩; obtain ⟨Aa, ca, rfl, _, hRa⟩ := hO.rd; have bx2 := cell_below hb2 bx1; have bx3 := cell_below ((Below.refl _ w2).alloc (Nat.le_refl _) (.cells #[.int .i64 0, .int .i64 0, .int .i64 0, .int .i64 0, .int .i64 0, .int .i64 0, .int .i64 0] 35)) bx2; have hB2 := hid_of (((Below.refl w1.heap.size w1).drew).trans hb2))
        | (go_at_call 13; refine hC2.mono ?_; rintro e w2 ⟨v, rfl, hO, hb2⟩; obtain ⟨Aa, ca, rfl, _, hRa⟩ := hO.rd; have bx2 := cell_below hb2 (cell_below ((Below.refl _ _).alloc (Nat.le_refl _) (.cells #[.int .i64 0, .int .i64 0, .int .i64 0, .int .i64 0, .int .i64 0, .int .i64 0, .int .i64 0] 35)) bx1); have hz2 := (hb2.block w1.heap.size (by simp)).trans (blkN w1.drew (.cells #[.int .i64 0, .int .i64 0, .int .i64 0, .int .i64 0, .int .i64 0, .int .i64 0, .int .i64 0] 35)); have hB2 := hid_of (below_then (((Below.refl w1.heap.size w1).drew).alloc (Nat.le_refl _) (.cells #[.int .i64 0, .int .i64 0, .int .i64 0, .int .i64 0, .int .i64 0, .int .i64 0, .int .i64 0] 35)) (by simp) hb2))
        | (go_at_call 18; with_reducible (refine (h1 Aa ca (w2.alloc (.cells #[.int .i64 0, .int .i64 0, .int .i64 0, .int .i64 0, .int .i64 0, .int .i64 0, .int .i64 0] 35)) (hRa.alloc _)).mono ?_); rintro e w3 ⟨rfl, hb3⟩; have hz3 := (hb3.block w2.heap.size (by simp)).trans (blkN w2 (.cells #[.int .i64 0, .int .i64 0, .int .i64 0, .int .i64 0, .int .i64 0, .int .i64 0, .int .i64 0] 35)); have hB3 := hid_of (below_then (hB2.out.alloc hB2.out.size (.cells #[.int .i64 0, .int .i64 0, .int .i64 0, .int .i64 0, .int .i64 0, .int .i64 0, .int .i64 0] 35)) (by have := hB2.out.size; simp; omega) hb3); have z0 := (blk_cell hz3 0).trans (show _ = some (.int .i64 0) from rfl); have z1 := (blk_cell hz3 1).trans (show _ = some (.int .i64 0) from rfl); have z2 := (blk_cell hz3 2).trans (show _ = some (.int .i64 0) from rfl); have z3 := (blk_cell hz3 3).trans (show _ = some (.int .i64 0) from rfl); have z4 := (blk_cell hz3 4).trans (show _ = some (.int .i64 0) from rfl); have z5 := (blk_cell hz3 5).trans (show _ = some (.int .i64 0) from rfl); have z6 := (blk_cell hz3 6).trans (show _ = some (.int .i64 0) from rfl); have zf := fun j => blk_frozen hz3 j)
        | (go_at_call 18; with_reducible (refine (h1 Aa ca w2 hRa).mono ?_); rintro e w3 ⟨rfl, hb3⟩; have hz3 := (hb3.block w1.heap.size (Array.getElem?_eq_some_iff.1 hz2).1).trans hz2; have hB3 := hid_of (below_then hB2.out hB2.out.size hb3); have z0 := (blk_cell hz3 0).trans (show _ = some (.int .i64 0) from rfl); have z1 := (blk_cell hz3 1).trans (show _ = some (.int .i64 0) from rfl); have z2 := (blk_cell hz3 2).trans (show _ = some (.int .i64 0) from rfl); have z3 := (blk_cell hz3 3).trans (show _ = some (.int .i64 0) from rfl); have z4 := (blk_cell hz3 4).trans (show _ = some (.int .i64 0) from rfl); have z5 := (blk_cell hz3 5).trans (show _ = some (.int .i64 0) from rfl); have z6 := (blk_cell hz3 6).trans (show _ = some (.int .i64 0) from rfl); have zf := fun j => blk_frozen hz3 j)
        | (go_at_call 18; with_reducible (refine (h1 Aa ca w2 hRa).mono ?_); rintro e w3 ⟨rfl, hb3⟩; have hB3 := hid_of (below_then hB2.out hB2.out.size hb3)))
      all_goals go_wp2_with fail
      all_goals go_meet
      all_goals first
        | (have hds := doc_set ⟨a0, a1, a2, a3, a4, a5, a6⟩ hz3; have hg := hB3.out.grown hds.2 hB3.out.size (fun k hk => by cases hk; first | exact Nat.le_refl _ | exact hB2.out.size); have hHD := hid_of hds.1; have hHB := hid_of hg; clear hds hg; exact ⟨_, rfl, rfl, hHB, hHD⟩)
        | exact ⟨w3.heap.size, rfl, rfl, hB3.out.alloc hB3.out.size _, blkN w3 _⟩
    case rest =>
      obtain ⟨g1, rfl, rfl, HBc, HD1⟩ := hcut
      replace RL := hid_of (RL.out.below HBc.out)
      replace HBX := hid_of ((HBc.out.block _ (Array.getElem?_eq_some_iff.1 HBX.out).1).trans HBX.out)
      replace HB := hid_of (below_then HB.out HB.out.size HBc.out)
      clear HBc RL1 bx bx1 bx1a bx1b hC1 hC2 h1
      rcases HQ.out with ⟨he1, hz⟩ | ⟨rfl, hown2, rfl, HI⟩
      · simp only [zeroDoc, Doc.mk.injEq] at hz
        obtain ⟨rfl, rfl, rfl, rfl, rfl, rfl, rfl⟩ := hz
        have he1' : (e1 == 0) = false := by simpa using he1
        have p0 := (blk_cell HD1.out 0).trans (show _ = some (.int .i64 0) from rfl)
        have p1 := (blk_cell HD1.out 1).trans (show _ = some (.int .i64 0) from rfl)
        have p2 := (blk_cell HD1.out 2).trans (show _ = some (.int .i64 0) from rfl)
        have p3 := (blk_cell HD1.out 3).trans (show _ = some (.int .i64 0) from rfl)
        have p4 := (blk_cell HD1.out 4).trans (show _ = some (.int .i64 0) from rfl)
        have p5 := (blk_cell HD1.out 5).trans (show _ = some (.int .i64 0) from rfl)
        have p6 := (blk_cell HD1.out 6).trans (show _ = some (.int .i64 0) from rfl)
        clear HQ HD1 h3
        go_wp2_with fail
        go_ret
        exact ⟨rfl, HB.out⟩
      · have h2 := fun A c W (h : Rd EMsg W A own) => ofT_any own mv A c W h
        unfold OfTPost at h2
        rw [hown2] at h2
        dsimp only [Doc.v] at h2
        have HI' := hid_of HI
        have H2 := hid_of h2
        have H3 := hid_of h3
        have hlt0 : w.heap.size < wc.heap.size := (Array.getElem?_eq_some_iff.1 HBX.out).1
        have HLT0 := hid_of hlt0
        clear HI HQ h2 h3 hown2 hlt0
        go_wp2_with fail
        refine (cloneM l A c wc RL.out hl16).mono ?_
        rintro e wu ⟨v, rfl, hO, hb⟩
        have hdel := deleteM l (fun m => !decide (m.mv = mv)) 28 #[.pointer (some ⟨w.heap.size, 0, none⟩)] v wc.heap.size wu hO hb.size (enters_of Try.func28 (by kernel_rfl) rfl) (fun x W h => alone1 x w.heap.size mv W ((blk_cell ((h.block _ HLT0.out).trans ((hb.block _ HLT0.out).trans HBX.out)) 0).trans rfl))
        have HBC := hid_of hb
        clear hO hb
        go_wp2_with fail
        refine hdel.mono ?_
        rintro e wv ⟨vo, rfl, hO, hb⟩
        have hfe : (l.filter (fun x => !(fun m : Msg => !decide (m.mv = mv)) x)) = own := by rw [HOWN.out]; congr 1; funext x; simp
        rw [hfe] at hO
        obtain ⟨Ao, co, rfl, _, hRo⟩ := hO.rd
        have RO := hid_of hRo
        have hbb := HBC.out.trans hb
        replace RL := hid_of (RL.out.below hbb)
        replace HBX := hid_of ((hbb.block _ (Array.getElem?_eq_some_iff.1 HBX.out).1).trans HBX.out)
        replace HD1 := hid_of ((hbb.block _ (Array.getElem?_eq_some_iff.1 HD1.out).1).trans HD1.out)
        replace HB := hid_of (below_then HB.out HB.out.size hbb)
        clear hO hRo hb hbb hdel hfe HBC
        have hol56 : own.length * 56 ≤ 140737488355328 := by have := HOL.out; omega
        have h2 := H2.out
        go_wp2_with fail
        have bx := (blk_cell HBX.out 0).trans (show _ = some (.int .i64 mv) from rfl)
        have RL1 : Rd EMsg wv.drew Ao own := RO.out
        have bx1 : wv.drew.cell? _ = _ := bx
        have bx1a := cell_below ((Below.refl _ wv.drew).alloc (Nat.le_refl _) (.cells #[.int .i64 0, .int .i64 0, .int .i64 0, .int .i64 0, .int .i64 0, .int .i64 0, .int .i64 0] 35)) bx1
        have bx1b : (wv.alloc (.cells #[.int .i64 0, .int .i64 0, .int .i64 0, .int .i64 0, .int .i64 0, .int .i64 0, .int .i64 0] 35)).drew.cell? ⟨w.heap.size, 0, none⟩ = some (.int .i64 mv) := bx1a
        have hC1 := cloneM own Ao co wv.drew RL1 hol56
        have hC2 := cloneM own Ao co (wv.drew.alloc (.cells #[.int .i64 0, .int .i64 0, .int .i64 0, .int .i64 0, .int .i64 0, .int .i64 0, .int .i64 0] 35)) (RL1.alloc _) hol56
        go_cut [8, 9] (fun s5 s6 wx => ∃ g : Nat, s5 = .pointer (some ⟨g, 0, none⟩) ∧ s6 = .int .i64 0 ∧ Hid (Below wv.heap.size wv wx) ∧ Hid (wx.heap[g]? = some (.cells #[.int .i64 a0, .int .i64 a1, .int .i64 a2, .int .i64 a3, .int .i64 a4, .int .i64 a5, .int .i64 a6] 35 (0, 0))))
        case first =>
          go_region_with (first
            | (go_at_call 13; refine hC1.mono ?_; rintro e w2 ⟨v, rfl, hO, hb2⟩; obtain ⟨Aa, ca, rfl, _, hRa⟩ := hO.rd; have bx2 := cell_below hb2 bx1; have bx3 := cell_below ((Below.refl _ w2).alloc (Nat.le_refl _) (.cells #[.int .i64 0, .int .i64 0, .int .i64 0, .int .i64 0, .int .i64 0, .int .i64 0, .int .i64 0] 35)) bx2; have hB2 := hid_of (((Below.refl wv.heap.size wv).drew).trans hb2))
            | (go_at_call 13; refine hC2.mono ?_; rintro e w2 ⟨v, rfl, hO, hb2⟩; obtain ⟨Aa, ca, rfl, _, hRa⟩ := hO.rd; have bx2 := cell_below hb2 (cell_below ((Below.refl _ _).alloc (Nat.le_refl _) (.cells #[.int .i64 0, .int .i64 0, .int .i64 0, .int .i64 0, .int .i64 0, .int .i64 0, .int .i64 0] 35)) bx1); have hz2 := (hb2.block wv.heap.size (by simp)).trans (blkN wv.drew (.cells #[.int .i64 0, .int .i64 0, .int .i64 0, .int .i64 0, .int .i64 0, .int .i64 0, .int .i64 0] 35)); have hB2 := hid_of (below_then (((Below.refl wv.heap.size wv).drew).alloc (Nat.le_refl _) (.cells #[.int .i64 0, .int .i64 0, .int .i64 0, .int .i64 0, .int .i64 0, .int .i64 0, .int .i64 0] 35)) (by simp) hb2))
            | (go_at_call 18; with_reducible (refine (h2 Aa ca (w2.alloc (.cells #[.int .i64 0, .int .i64 0, .int .i64 0, .int .i64 0, .int .i64 0, .int .i64 0, .int .i64 0] 35)) (hRa.alloc _)).mono ?_); rintro e w3 ⟨rfl, hb3⟩; have hz3 := (hb3.block w2.heap.size (by simp)).trans (blkN w2 (.cells #[.int .i64 0, .int .i64 0, .int .i64 0, .int .i64 0, .int .i64 0, .int .i64 0, .int .i64 0] 35)); have hB3 := hid_of (below_then (hB2.out.alloc hB2.out.size (.cells #[.int .i64 0, .int .i64 0, .int .i64 0, .int .i64 0, .int .i64 0, .int .i64 0, .int .i64 0] 35)) (by have := hB2.out.size; simp; omega) hb3); have z0 := (blk_cell hz3 0).trans (show _ = some (.int .i64 0) from rfl); have z1 := (blk_cell hz3 1).trans (show _ = some (.int .i64 0) from rfl); have z2 := (blk_cell hz3 2).trans (show _ = some (.int .i64 0) from rfl); have z3 := (blk_cell hz3 3).trans (show _ = some (.int .i64 0) from rfl); have z4 := (blk_cell hz3 4).trans (show _ = some (.int .i64 0) from rfl); have z5 := (blk_cell hz3 5).trans (show _ = some (.int .i64 0) from rfl); have z6 := (blk_cell hz3 6).trans (show _ = some (.int .i64 0) from rfl); have zf := fun j => blk_frozen hz3 j)
            | (go_at_call 18; with_reducible (refine (h2 Aa ca w2 hRa).mono ?_); rintro e w3 ⟨rfl, hb3⟩; have hz3 := (hb3.block wv.heap.size (Array.getElem?_eq_some_iff.1 hz2).1).trans hz2; have hB3 := hid_of (below_then hB2.out hB2.out.size hb3); have z0 := (blk_cell hz3 0).trans (show _ = some (.int .i64 0) from rfl); have z1 := (blk_cell hz3 1).trans (show _ = some (.int .i64 0) from rfl); have z2 := (blk_cell hz3 2).trans (show _ = some (.int .i64 0) from rfl); have z3 := (blk_cell hz3 3).trans (show _ = some (.int .i64 0) from rfl); have z4 := (blk_cell hz3 4).trans (show _ = some (.int .i64 0) from rfl); have z5 := (blk_cell hz3 5).trans (show _ = some (.int .i64 0) from rfl); have z6 := (blk_cell hz3 6).trans (show _ = some (.int .i64 0) from rfl); have zf := fun j => blk_frozen hz3 j)
            | (go_at_call 18; with_reducible (refine (h2 Aa ca w2 hRa).mono ?_); rintro e w3 ⟨rfl, hb3⟩; have hB3 := hid_of (below_then hB2.out hB2.out.size hb3)))
          all_goals go_wp2_with fail
          all_goals go_meet
          all_goals first
            | (have hds := doc_set ⟨a0, a1, a2, a3, a4, a5, a6⟩ hz3; have hg := hB3.out.grown hds.2 hB3.out.size (fun k hk => by cases hk; first | exact Nat.le_refl _ | exact hB2.out.size); have hHD := hid_of hds.1; have hHB := hid_of hg; clear hds hg; exact ⟨_, rfl, rfl, hHB, hHD⟩)
            | exact ⟨w3.heap.size, rfl, rfl, hB3.out.alloc hB3.out.size _, blkN w3 _⟩
        case rest =>
          obtain ⟨g2, rfl, rfl, HBc, HD2⟩ := hcut
          replace RL := hid_of (RL.out.below HBc.out)
          replace RO := hid_of (RO.out.below HBc.out)
          replace HBX := hid_of ((HBc.out.block _ (Array.getElem?_eq_some_iff.1 HBX.out).1).trans HBX.out)
          replace HD1 := hid_of ((HBc.out.block _ (Array.getElem?_eq_some_iff.1 HD1.out).1).trans HD1.out)
          replace HB := hid_of (below_then HB.out HB.out.size HBc.out)
          clear HBc RL1 bx bx1 bx1a bx1b hC1 hC2 h2 H2
          go_wp2_with fail
          refine (cloneM l A c _ RL.out hl16).mono ?_
          rintro e w11 ⟨v, rfl, hO, hb⟩
          obtain ⟨Aa, ca, rfl, _, hR⟩ := hO.rd
          replace RL := hid_of (RL.out.below hb)
          replace RO := hid_of (RO.out.below hb)
          replace HBX := hid_of ((hb.block _ (Array.getElem?_eq_some_iff.1 HBX.out).1).trans HBX.out)
          replace HD1 := hid_of ((hb.block _ (Array.getElem?_eq_some_iff.1 HD1.out).1).trans HD1.out)
          replace HD2 := hid_of ((hb.block _ (Array.getElem?_eq_some_iff.1 HD2.out).1).trans HD2.out)
          replace HB := hid_of (below_then HB.out HB.out.size hb)
          have Ra := hid_of hR
          clear hO hR hb
          clear RL
          have hc := H3.out Aa ca w11 Ra.out
          clear Ra H3
          go_wp2_with fail
          refine (hc).mono ?_
          rintro e w12 ⟨v, rfl, hO, hb⟩
          obtain ⟨Ad, cd, rfl, _, hR⟩ := hO.rd
          replace RO := hid_of (RO.out.below hb)
          replace HBX := hid_of ((hb.block _ (Array.getElem?_eq_some_iff.1 HBX.out).1).trans HBX.out)
          replace HD1 := hid_of ((hb.block _ (Array.getElem?_eq_some_iff.1 HD1.out).1).trans HD1.out)
          replace HD2 := hid_of ((hb.block _ (Array.getElem?_eq_some_iff.1 HD2.out).1).trans HD2.out)
          replace HB := hid_of (below_then HB.out HB.out.size hb)
          have Rd := hid_of hR
          clear hO hR hb hc
          have p0 := (blk_cell HD1.out 0).trans (show _ = some (.int .i64 a0) from rfl)
          have p1 := (blk_cell HD1.out 1).trans (show _ = some (.int .i64 a1) from rfl)
          have p2 := (blk_cell HD1.out 2).trans (show _ = some (.int .i64 a2) from rfl)
          have p3 := (blk_cell HD1.out 3).trans (show _ = some (.int .i64 a3) from rfl)
          have p4 := (blk_cell HD1.out 4).trans (show _ = some (.int .i64 a4) from rfl)
          have p5 := (blk_cell HD1.out 5).trans (show _ = some (.int .i64 a5) from rfl)
          have p6 := (blk_cell HD1.out 6).trans (show _ = some (.int .i64 a6) from rfl)
          have q0 := (blk_cell HD2.out 0).trans (show _ = some (.int .i64 a0) from rfl)
          have q1 := (blk_cell HD2.out 1).trans (show _ = some (.int .i64 a1) from rfl)
          have q2 := (blk_cell HD2.out 2).trans (show _ = some (.int .i64 a2) from rfl)
          have q3 := (blk_cell HD2.out 3).trans (show _ = some (.int .i64 a3) from rfl)
          have q4 := (blk_cell HD2.out 4).trans (show _ = some (.int .i64 a4) from rfl)
          have q5 := (blk_cell HD2.out 5).trans (show _ = some (.int .i64 a5) from rfl)
          have q6 := (blk_cell HD2.out 6).trans (show _ = some (.int .i64 a6) from rfl)
          have hdl := HI'.out.len
          go_wp2_with fail
          clear q0 q1 q2 q3 q4 q5 q6 HD2 p0 p1 p2 p3 p4 p5 p6
          go_loopg [12] ds.length (fun gg s12 wr => ∃ i : Nat, 1 ≤ i ∧ ds.length - i ≤ gg ∧ s12 = .int .i64 i ∧ Hid (Below w12.heap.size w12 wr))
          case atStart => exact ⟨1, Nat.le_refl _, by omega, rfl, Below.refl _ _⟩
          case round =>
            obtain ⟨i, hi1, hg, rfl, BW⟩ := hrel
            by_cases hlt : i < ds.length
            · obtain ⟨ad, had, c0, c1, c2, c3, c4, c5, c6⟩ := Doc.at_ (Rd.out.below BW.out) i hlt
              obtain ⟨ad', had', d0, d1, d2, d3, d4, d5, d6⟩ := Doc.at_ (Rd.out.below BW.out) (i - 1) (by omega)
              subst had
              cases had'
              have hasc := HI'.out.asc i hi1 hlt
              generalize ds[i] = y at c0 hasc
              generalize ds[i - 1]'(by omega) = x at d0 hasc
              have hwr : IntKind.i64.wrap ((i : Int) - 1) = ((i - 1 : Nat) : Int) := by rw [IntKind.wrap_i64]; omega
              have hj1 : ((i - 1 : Nat) : Int) < (ds.length : Int) := by omega
              have hj2 : i - 1 < ds.length := by omega
              have hge : ¬ (x.mv ≥ y.mv) := by omega
              clear c1 c2 c3 c4 c5 c6 d1 d2 d3 d4 d5 d6 hasc
              go_wp2_with fail
              go_quiet (fail)
              go_wp2_with fail
              go_roundg (ds.length - (i + 1))
              case measure => omega
              case rel => exact ⟨i + 1, by omega, Nat.le_refl _, by go_num, below_drewN BW.out _⟩
            · replace Rd := hid_of (Rd.out.below BW.out)
              replace RO := hid_of (RO.out.below BW.out)
              replace HBX := hid_of ((BW.out.block _ (Array.getElem?_eq_some_iff.1 HBX.out).1).trans HBX.out)
              replace HD1 := hid_of ((BW.out.block _ (Array.getElem?_eq_some_iff.1 HD1.out).1).trans HD1.out)
              replace HB := hid_of (below_then HB.out HB.out.size BW.out)
              have hidx := indexFuncD ds (fun d => decide (d.mv = mv)) 30 #[.pointer (some ⟨w.heap.size, 0, none⟩)] Ad cd wr Rd.out (enters_of Try.func30 (by kernel_rfl) rfl) (fun x W h => alone2 x w.heap.size mv W ((blk_cell ((h.block _ (Array.getElem?_eq_some_iff.1 HBX.out).1).trans HBX.out) 0).trans rfl))
              clear BW
              go_wp2_with fail
              refine hidx.mono ?_
              rintro e w9 ⟨rfl, hb⟩
              replace Rd := hid_of (Rd.out.below hb)
              replace HD1 := hid_of ((hb.block _ (Array.getElem?_eq_some_iff.1 HD1.out).1).trans HD1.out)
              replace HB := hid_of (below_then HB.out HB.out.size hb)
              clear hb hidx RO HBX
              have p0 := (blk_cell HD1.out 0).trans (show _ = some (.int .i64 a0) from rfl)
              have p1 := (blk_cell HD1.out 1).trans (show _ = some (.int .i64 a1) from rfl)
              have p2 := (blk_cell HD1.out 2).trans (show _ = some (.int .i64 a2) from rfl)
              have p3 := (blk_cell HD1.out 3).trans (show _ = some (.int .i64 a3) from rfl)
              have p4 := (blk_cell HD1.out 4).trans (show _ = some (.int .i64 a4) from rfl)
              have p5 := (blk_cell HD1.out 5).trans (show _ = some (.int .i64 a5) from rfl)
              have p6 := (blk_cell HD1.out 6).trans (show _ = some (.int .i64 a6) from rfl)
              rcases HI'.out.idx with ⟨ho, hf⟩ | ⟨ho, i, hi, hf, ha⟩
              · have ho2 : own = [] := HOWN2.out.trans ho
                subst ho2
                rw [hf]
                go_wp2_with fail
                go_quiet (fail)
                go_wp2_with fail
                go_ret
                exact ⟨rfl, below_drewN HB.out _⟩
              · have ho2 : 0 < own.length := by
                  rw [HOWN2.out]; exact List.length_pos_iff.2 ho
                have ho3 : (own.length : Int) > 0 := by omega
                obtain ⟨ad, had, c0, c1, c2, c3, c4, c5, c6⟩ := Doc.at_ Rd.out i hi
                subst had
                rw [ha] at c0 c1 c2 c3 c4 c5 c6
                dsimp only at c0 c1 c2 c3 c4 c5 c6
                rw [hf]
                go_wp2_with fail
                go_quiet (fail)
                go_wp2_with fail
                go_ret
                exact ⟨rfl, below_drewN HB.out _⟩
  · have h1' : (l.length : Int) > 16 := by omega
    clear hs hR1
    have HB := hid_of ((Below.refl _ w).alloc (Nat.le_refl _) (.cells #[.int .i64 mv] 3))
    go_enter Try.func6, Try.ntmps6
    go_wp2_with fail
    refine (awake_any _).mono ?_
    rintro e w1 ⟨rfl, hb⟩
    replace HB := hid_of (below_then HB.out (by simp) hb)
    clear hb
    go_wp2_with fail
    go_ret
    exact ⟨rfl, HB.out⟩
end Go.Proofs.Ytgcnklnhambpjaa
