/- The reference's all, All, Open: what they return. -/
import Derived.Test.YtgcnklnhambpjaaRAllW
namespace Go.Proofs.Ytgcnklnhambpjaa
open Go.RowKit
theorem movs_step (n : List Msg) (k : Nat) (hk : k < n.length) (h0 : ∀ m ∈ n, chkM m = 0) : movs n (k + 1) = if ((zeroMsg :: n)[k + 1]'(by simpa using hk)).mv = ((zeroMsg :: n)[k]'(by simp; omega)).mv then movs n k else movs n k ++ [n[k].mv] := by
  conv => lhs; unfold movs
  rw [dif_pos hk]
  cases k with
  | zero =>
    have := chk_mv (h0 n[0] (List.getElem_mem _))
    rw [if_pos (.inl rfl), if_neg]
    show ¬ n[0].mv = 0
    omega
  | succ k =>
    simp only [List.getElem_cons_succ, Nat.add_sub_cancel]
    by_cases h : n[k + 1].mv = (n[k]'(by omega)).mv
    · rw [if_neg (by rintro (h1 | h1); omega; exact h1 h), if_pos h]
    · rw [if_pos (.inr h), if_neg h]
theorem norm_len {l : List Msg} (h : l.length ≤ 64) : (normL l).length ≤ 64 := by
  unfold normL
  have := comp_le (l.mergeSort leM)
  rw [List.length_mergeSort] at this
  omega
set_option maxHeartbeats 8000000 in
set_option maxRecDepth 100000 in
theorem rall_any (l : List Msg) (A : Option Addr) (c : Nat) (w : World) (hR : Rd EMsg w A l) (hl64 : l.length ≤ 64) (hv : ∀ m ∈ l, chkM m = 0) : Calls Try.prog 49 #[.slice A l.length c] w (Made EDoc 35 (docsL (normL l)) w) := by
  have hn := rnormal_any l A c w hR hl64
  have hlen := norm_len hl64
  have hgd := fun A c W (h : Rd EMsg W A (normL l)) => rguard_any (normL l) A c W h (by omega)
  have hnv := normL_ok hv
  have hof := fun (mv : Int) (h : 1 ≤ mv) A c W (h' : Rd EMsg W A (zeroMsg :: normL l)) => rof_any (zeroMsg :: normL l) mv A c W h' (fun _ => by show (0 : Int) ≠ mv; omega)
  have hofe : ∀ mv, 1 ≤ mv → rofR mv (zeroMsg :: normL l) = ofR mv (normL l) := fun mv h => rof_eq (normL_strict l) hnv (by omega)
  unfold Made at hn hgd ⊢
  unfold ROfPost at hof
  generalize normL l = n at *
  obtain ⟨i0, hi, hzz⟩ := Option.map_eq_some_iff.1 infoD
  simp only [Prod.mk.injEq] at hzz
  obtain ⟨hz0, hz1, hz2⟩ := hzz
  have HI : Hid (Try.prog.info? 35 = some i0 ∧ i0.zero = some (.agg #[.int .i64 0, .int .i64 0, .int .i64 0, .int .i64 0, .int .i64 0, .int .i64 0, .int .i64 0]) ∧ i0.size = 7 ∧ i0.bytes = 56) := ⟨hi, hz0, hz1, hz2⟩
  have HGD := hid_of hgd
  have HOF := hid_of hof
  have HOE := hid_of hofe
  have HNV := hid_of hnv
  clear hi hz0 hz1 hz2 hR hv hl64 hgd hof hofe hnv
  go_enter Try.func49, Try.ntmps49
  go_wp2_with fail
  refine hn.mono ?_
  rintro e w1 ⟨v, rfl, hO, hb⟩
  obtain ⟨A1, c1, rfl, hlc, hR1⟩ := hO.rd
  have hc := HGD.out A1 c1 w1 hR1
  have HB := hid_of hb
  clear hn hO hR1 HGD hb
  go_wp2_with fail
  refine hc.mono ?_
  rintro e w2 ⟨v, rfl, hO, hb⟩
  obtain ⟨A2, c2, rfl, hlc2, hR2⟩ := hO.rd
  have HR2 := hid_of hR2
  have hB2 := below_then HB.out HB.out.size hb
  have HB2 := hid_of hB2
  have hgl : (zeroMsg :: n).length = n.length + 1 := by simp
  rw [hgl]
  clear hc hO hR2 HB hb hB2 hgl
  go_wp2_with fail
  go_loopg [4, 5] n.length (fun gg s4 s5 wr => ∃ k : Nat, k ≤ n.length ∧ n.length - k ≤ gg ∧ s5 = .int .i64 ((k + 1 : Nat) : Int) ∧ Hid (Own EDoc 35 wr w2.heap.size s4 ((movs n k).map (fun x => ofR x n))) ∧ Hid (Below w2.heap.size w2 wr))
  case atStart => exact ⟨0, Nat.zero_le _, by omega, rfl, World.ownsRow_made w2 #[] 0 (Nat.le_refl _) (Nat.zero_le _) (by simp), (Below.refl _ _).alloc (Nat.le_refl _) _⟩
  case round =>
    obtain ⟨k, hk, hg, rfl, HO, BW⟩ := hrel
    have hkc : ((k + 1 : Nat) : Int) = (k : Int) + 1 := by omega
    rw [hkc]
    by_cases hlt : k < n.length
    · have hms := movs_step n k hlt HNV.out
      have hlt1 : k + 1 < (zeroMsg :: n).length := by simpa using hlt
      have hlt0 : k < (zeroMsg :: n).length := by omega
      obtain ⟨ad, rfl, c0, _, _, _, _, _, _⟩ := Msg.at_ (HR2.out.below BW.out) (k + 1) hlt1
      obtain ⟨ad', had, d0, _, _, _, _, _, _⟩ := Msg.at_ (HR2.out.below BW.out) k hlt0
      cases had
      have hx : (zeroMsg :: n)[k + 1] = n[k] := rfl
      rw [hx] at c0 hms
      generalize hy : ((zeroMsg :: n)[k]'hlt0).mv = y at d0 hms
      have hx1 := chk_mv (HNV.out n[k] (List.getElem_mem _))
      generalize hxm : n[k].mv = x at c0 hms hx1
      have HMS := hid_of hms
      have hw1 : IntKind.i64.wrap ((k : Int) + 1 - 1) = (k : Int) := by rw [IntKind.wrap_i64]; omega
      have hw2 : (k : Int) < (n.length : Int) + 1 := by omega
      have hw3 : (k : Int) + 1 < (n.length : Int) + 1 := by omega
      have hw4 : k < n.length + 1 := by omega
      have hw5 : k + 1 < n.length + 1 := by omega
      clear hms hx hy hxm hkc
      by_cases hxy : x = y
      · have hne : (x != y) = false := by simpa using hxy
        have HXY := hid_of hxy
        clear hxy
        go_wp2_with fail
        go_quiet (fail)
        go_wp2_with fail
        go_roundg (n.length - (k + 1))
        case measure => omega
        case rel =>
          refine ⟨k + 1, by omega, Nat.le_refl _, by go_num, ?_, below_drewN BW.out _⟩
          rw [HMS.out, if_pos HXY.out]
          exact HO.out.drewN _
      · have hne : (x != y) = true := by simpa using hxy
        have HXY := hid_of hxy
        clear hxy
        have hof := HOF.out x hx1 (some ad) c2
        rw [HOE.out x hx1, show (zeroMsg :: n).length = n.length + 1 by simp] at hof
        have HF := hid_of hof
        clear hof
        have hm := movs_le n k
        have hml : ((movs n k).map (fun x => ofR x n)).length ≤ 64 := by rw [List.length_map]; omega
        generalize hd : ofR x n = d at HF
        have HD := hid_of hd
        clear hm hd
        go_wp2_with fail
        go_quiet (fail)
        have hc := HF.out (wr.drewN nq) ((HR2.out.below BW.out).drewN nq)
        go_wp2_with fail
        refine hc.mono ?_
        rintro e w3 ⟨rfl, hb'⟩
        have hb : Below wr.heap.size wr w3 := below_then (below_drewN (Below.refl _ _) _) (Nat.le_refl _) hb'
        have HB3 := hid_of (below_then BW.out BW.out.size hb)
        have HO3 := hid_of (HO.out.below hb)
        have hsz := HB3.out.size
        clear hc hb' hb HO BW
        go_wp2_with (at_builtin; refine wpList_append_own _ rfl _ _ 38 rfl w2.heap.size 35 i0 _ 7 56 Try.underlying38 HI.out.1 HI.out.2.1 HI.out.2.2.1 HI.out.2.2.2 rfl (by decide) _ _ _ rfl (HO3.out.alloc _) _ 1 _ (EDoc.flat [d]) rfl ?qc1 ?qc2 ?qc3 ?qc4 ?qc5 ?qc6 ?_)
        case qc1 => exact EDoc.flat_length _
        case qc2 =>
          intro j u hj
          rw [addr_plain, blk_cell (blkN _ _) j]
          simpa [Enc.flat, EDoc, Doc.cells] using hj
        case qc3 => exact EDoc.flat_one' _
        case qc4 => simp only [maxLen]; omega
        case qc5 => omega
        case qc6 => simp; omega
        intro v' w4 hown hgrow hnil
        have hown' : Own EDoc 35 w4 w2.heap.size v' ((movs n k).map (fun x => ofR x n) ++ [d]) := by
          unfold Own; rw [EDoc.flat_append, List.length_append, List.length_map, List.length_singleton]
          exact hown
        have hnb := fun k h => (HO3.out.block k h).1
        have HB4 := hid_of ((HB3.out.alloc hsz (.cells #[.int .i64 d.mv, .int .i64 d.st, .int .i64 d.fr, .int .i64 d.tt, .int .i64 d.se, .int .i64 d.re, .int .i64 d.ch] 35)).grown hgrow (by simp; omega) hnb)
        have HO4 := hid_of hown'
        clear hown hown' hgrow hnil hnb HO3 HB3
        go_wp2_with fail
        go_roundg (n.length - (k + 1))
        case measure => omega
        case rel =>
          refine ⟨k + 1, by omega, Nat.le_refl _, by go_num, ?_, HB4.out⟩
          rw [HMS.out, if_neg HXY.out, List.map_append]
          have := HO4.out
          rw [← HD.out] at this
          exact this
    · have hkl : k = n.length := by omega
      subst hkl
      go_wp2_with fail
      go_ret
      exact ⟨_, rfl, HO.out.lower HB2.out.size, below_then HB2.out HB2.out.size BW.out⟩
set_option maxHeartbeats 4000000 in
theorem rallT_any (l : List Msg) (A : Option Addr) (c : Nat) (w : World) (hR : Rd EMsg w A l) : Calls Try.prog 21 #[.slice A l.length c] w (Made2 EDoc 35 (allP l).1 (allP l).2 w) := by
  have hs := rstart_any l A c w hR
  rw [start_norm] at hs
  unfold RInt at hs
  unfold allP
  rcases normR_cases l with ⟨h1, h2, h3, h4⟩ | ⟨h1, h2⟩
  · rw [h1, h2, if_neg (by simp)]
    rw [h1] at hs
    dsimp only
    have hn := fun W (h : Below w.heap.size w W) => rall_any l A c W (hR.below h) h3 h4
    unfold Made at hn
    clear h1 h2 h3 h4 hR
    go_enter Try.func21, Try.ntmps21
    go_wp2_with fail
    refine hs.mono ?_
    rintro e w1 ⟨rfl, hb⟩
    have HB := hid_of hb
    have hc := hn w1 hb
    clear hs hn hb
    go_wp2_with fail
    refine hc.mono ?_
    rintro e w2 ⟨v, rfl, hO, hb2⟩
    have HO := hid_of hO
    have HB2 := hid_of (below_then HB.out HB.out.size hb2)
    have hsz := HB.out.size
    clear hO hb2 hc
    go_wp2_with fail
    go_ret2
    exact ⟨_, rfl, HO.out.lower hsz, HB2.out⟩
  · generalize (normR l).2 = r at hs h1 ⊢
    rw [if_pos h1]
    dsimp only
    have hne : (r != 0) = true := by simpa using h1
    clear h1 h2 hR
    go_enter Try.func21, Try.ntmps21
    go_wp2_with fail
    refine hs.mono ?_
    rintro e w1 ⟨rfl, hb⟩
    have HB := hid_of hb
    clear hs hb
    go_wp2_with fail
    go_ret2
    exact ⟨_, rfl, Own.nil _ _ _ _, HB.out⟩
set_option maxHeartbeats 4000000 in
set_option maxRecDepth 100000 in
theorem ropenT_any (l : List Msg) (tgt : Int) (A : Option Addr) (c : Nat) (w : World) (hR : Rd EMsg w A l) (hse : SeOK (allP l).1) : Calls Try.prog 23 #[.slice A l.length c, .int .i64 tgt] w fun e w' => e = .returned (.tuple #[.int .i64 (openP l tgt).1, .int .i64 (openP l tgt).2]) ∧ Below w.heap.size w w' := by
  have hs := rstart_any l A c w hR
  rw [start_norm] at hs
  unfold RInt at hs
  have hnode := fun W => rnode_any tgt W
  rcases normR_cases l with ⟨h1, h2, h3, h4⟩ | ⟨h1, h2⟩
  · have hp : openP l tgt = if nodeB tgt = false then (0, 2) else (openS tgt (docsL (normL l)), 0) := by
      unfold openP allP
      rw [h1, h2]
      simp
    have ha : (allP l).1 = docsL (normL l) := by
      unfold allP
      rw [h1, h2]
      simp
    rw [hp]
    rw [ha] at hse
    rw [h1] at hs
    clear hp ha
    have hn := fun W (h : Below w.heap.size w W) => rall_any l A c W (hR.below h) h3 h4
    unfold Made at hn
    generalize docsL (normL l) = ns at hn hse ⊢
    have HS := hid_of hse
    have hsl := hse.1
    clear h1 h2 h3 h4 hR hse
    generalize nodeB tgt = nb at hnode ⊢
    cases nb with
    | false =>
      rw [if_pos rfl]
      go_enter Try.func23, Try.ntmps23
      go_wp2_with fail
      refine hs.mono ?_
      rintro e w1 ⟨rfl, hb⟩
      have HB := hid_of hb
      clear hs hb hn
      go_wp2_with fail
      refine (hnode _).mono ?_
      rintro e w2 ⟨rfl, rfl⟩
      go_wp2_with fail
      go_ret2
      exact ⟨rfl, HB.out⟩
    | true =>
      rw [if_neg (by simp)]
      go_enter Try.func23, Try.ntmps23
      go_wp2_with fail
      refine hs.mono ?_
      rintro e w1 ⟨rfl, hb⟩
      have HB := hid_of hb
      have hc := hn w1 hb
      clear hs hb hn
      go_wp2_with fail
      refine (hnode _).mono ?_
      rintro e w2 ⟨rfl, rfl⟩
      go_wp2_with fail
      refine hc.mono ?_
      rintro e w2 ⟨v, rfl, hO, hb⟩
      obtain ⟨A1, c1, rfl, hlc, hR1⟩ := hO.rd
      have HR1 := hid_of hR1
      have HB2 := hid_of (below_then HB.out HB.out.size hb)
      clear hc hO hR1 hb HB
      go_wp2_with fail
      go_loopg [8, 9] ns.length (fun gg s8 s9 wr => ∃ (k : Nat) (u : Int), k ≤ ns.length ∧ ns.length - k ≤ gg ∧ s9 = .int .i64 k ∧ s8 = .int .i64 u ∧ wr = w2 ∧ Hid (u = openS tgt (ns.take k)))
      case atStart => exact ⟨0, 0, Nat.zero_le _, by omega, rfl, rfl, rfl, rfl⟩
      case round =>
        obtain ⟨k, u, hk, hg, rfl, rfl, rfl, HU⟩ := hrel
        have hul := openS_le (tgt := tgt) HS.out k hk
        rw [← HU.out] at hul
        by_cases hlt : k < ns.length
        · obtain ⟨ad, rfl, c0, c1', c2, c3, c4, c5, c6⟩ := Doc.at_ HR1.out k hlt
          have hsx := HS.out.2 ns[k] (List.getElem_mem _)
          have htk : openS tgt (ns.take (k + 1)) = openStep tgt u ns[k] := by rw [List.take_succ_eq_append_getElem hlt, openS_snoc, ← HU.out]
          generalize ns[k] = x at c0 c1' c2 c3 c4 c5 c6 hsx htk
          have HT := hid_of htk
          clear htk
          obtain ⟨x0, x1, x2, x3, x4, x5, x6⟩ := x
          dsimp only at c0 c1' c2 c3 c4 c5 c6 hsx
          by_cases h1 : x1 = 1
          · subst h1
            by_cases h2 : x3 = tgt
            · have h2' := h2.symm
              subst h2'
              go_wp2
              go_roundg (ns.length - (k + 1))
              case measure => omega
              case rel => exact ⟨k + 1, u + x4, by omega, Nat.le_refl _, by go_num, by go_num, rfl, (show Hid _ from by show _ = _; rw [HT.out]; simp [openStep])⟩
            · have h2b : (x3 == tgt) = false := by simpa using h2
              have H2 := hid_of h2
              clear h2
              go_wp2
              go_roundg (ns.length - (k + 1))
              case measure => omega
              case rel => exact ⟨k + 1, u, by omega, Nat.le_refl _, by go_num, by go_num, rfl, (show Hid _ from by show _ = _; rw [HT.out]; simp [openStep, H2.out])⟩
          · have h1b : (x1 == 1) = false := by simpa using h1
            have H1 := hid_of h1
            clear h1
            go_wp2
            go_roundg (ns.length - (k + 1))
            case measure => omega
            case rel => exact ⟨k + 1, u, by omega, Nat.le_refl _, by go_num, by go_num, rfl, (show Hid _ from by show _ = _; rw [HT.out]; simp [openStep, H1.out])⟩
        · have hkl : k = ns.length := by omega
          subst hkl
          have hu := HU.out
          rw [List.take_of_length_le (Nat.le_refl _)] at hu
          subst hu
          go_wp2_with fail
          go_ret2
          exact ⟨rfl, HB2.out⟩
  · have hp : openP l tgt = (0, (normR l).2) := by
      unfold openP allP
      rw [if_pos h1]
      dsimp only
      rw [if_pos h1]
    rw [hp]
    clear hp
    generalize (normR l).2 = r at hs h1 ⊢
    have hne : (r != 0) = true := by simpa using h1
    clear h1 h2 hR hse
    go_enter Try.func23, Try.ntmps23
    go_wp2_with fail
    refine hs.mono ?_
    rintro e w1 ⟨rfl, hb⟩
    have HB := hid_of hb
    clear hs hb
    go_wp2_with fail
    go_ret2
    exact ⟨rfl, HB.out⟩
end Go.Proofs.Ytgcnklnhambpjaa
