/- Joined texts of the seat: contracts and plain laws that the rows import. -/
import Derived.Test.YtfhlkkjochjhoaaK1
import Derived.Test.YtfhlkkjochjhoaaK2
import Derived.Test.YtfhlkkjochjhoaaK8
import Derived.Test.YtfhlkkjochjhoaaK6
import Derived.Test.YtfhlkkjochjhoaaK7
import Derived.Test.YtfhlkkjochjhoaaK9
import Derived.Deep.LoopGhost
import Derived.Deep.QuietTactic
import Derived.BigQuiet
import Derived.Outline
set_option linter.unusedVariables false
set_option linter.unusedSimpArgs false
/- '==' of envelopes as equality. -/
namespace Go.Proofs.Ytfhlkkjochjhoaa
open Go.RowKit
theorem eqEnv (d : Nat) (w : World) (x y : Env) :
    (Op.equalIn (d + 3) 33 (.agg #[.int .i64 x.fr, .int .i64 x.tt, .int .i64 x.nu, .int .i64 x.m.mv, .int .i64 x.m.kd, .int .i64 x.m.nu, .int .i64 x.m.dy, .int .i64 x.m.fr, .int .i64 x.m.tt, .int .i64 x.m.al]) (.agg #[.int .i64 y.fr, .int .i64 y.tt, .int .i64 y.nu, .int .i64 y.m.mv, .int .i64 y.m.kd, .int .i64 y.m.nu, .int .i64 y.m.dy, .int .i64 y.m.fr, .int .i64 y.m.tt, .int .i64 y.m.al])).run Try.prog w = .ok (decide (x = y)) w := by
  have e : decide (x = y) = (x.fr == y.fr && (x.tt == y.tt && (x.nu == y.nu && decide (x.m = y.m)))) := by
    obtain ⟨a0, a1, a2, a3⟩ := x
    obtain ⟨b0, b1, b2, b3⟩ := y
    rw [Bool.eq_iff_iff]
    simp
  rw [e]
  refine eqAgg_of Try.underlying33 (by kernel_rfl) ?_
  iterate 3 refine eqFields_cons (by rfl) (by go_simp; rfl) (by go_simp; rfl) (by go_simp) ?_
  exact eqFields_last (by rfl) (by go_simp) (by go_simp) (eqMsg d w x.m y.m)
end Go.Proofs.Ytfhlkkjochjhoaa
/- The reference's Deliver, Known, Crossed of envelopes. -/
namespace Go.Proofs.Ytfhlkkjochjhoaa
open Go.RowKit
attribute [local go_sem high] eqMsg
theorem nodeB_iff (n : Int) : nodeB n = false ↔ (n < 1 ∨ n > 99) := by simp [nodeB]; omega
theorem toF_snoc (nd : Int) (pre : List (Int × Env)) (x : Int × Env) : toF nd (pre ++ [x]) = if x.2.tt = nd then toF nd pre ++ [x.2] else toF nd pre := by
  unfold toF
  rw [List.filter_append, List.map_append]
  by_cases h : x.2.tt = nd
  · simp [h]
  · simp [h]
set_option maxHeartbeats 8000000 in
set_option maxRecDepth 100000 in
theorem rdeliver_any (l : List Env) (s : List Int) (nd : Int) (A1 A2 : Option Addr) (c1 c2 : Nat) (w : World) (hR1 : Rd EEnv w A1 l) (hR2 : Rd EI w A2 s) :
    Calls Try.prog 17 #[.slice A1 l.length c1, .slice A2 s.length c2, .int .i64 nd] w (Made2 EEnv 33 (toR l s nd).1 (toR l s nd).2 w) := by
  have hask := rstartN_any l s A1 A2 c1 c2 w hR1 hR2
  unfold RInt at hask
  unfold Made2 toR
  by_cases ha : askR l s = 0
  · have hle1 := hR1.le
    have hnode := fun W => rnode_any nd W
    rw [if_neg (by simp [ha])]
    rw [ha] at hask
    by_cases hn : nd < 1 ∨ nd > 99
    · rw [if_pos hn]
      rw [(nodeB_iff nd).2 hn] at hnode
      clear hR1 hR2 ha hn
      go_enter Try.func17, Try.ntmps17
      go_wp2_with fail
      refine hask.mono ?_
      rintro e w1 ⟨rfl, hb⟩
      have HB := hid_of hb
      clear hask hb
      go_wp2_with fail
      refine (hnode _).mono ?_
      rintro e w2 ⟨rfl, rfl⟩
      go_wp2_with fail
      go_ret2
      exact ⟨_, rfl, Own.nil _ _ _ _, HB.out⟩
    · rw [if_neg hn]
      have hnb : nodeB nd = true := by
        cases h : nodeB nd with
        | true => rfl
        | false => exact absurd ((nodeB_iff nd).1 h) hn
      rw [hnb] at hnode
      obtain ⟨hr0, hs256, hv⟩ := ask_ok ha
      obtain ⟨i0, hi, hzz⟩ := Option.map_eq_some_iff.1 infoE
      simp only [Prod.mk.injEq] at hzz
      obtain ⟨hz0, hz1, hz2⟩ := hzz
      have HI : Hid (Try.prog.info? 33 = some i0 ∧ i0.zero = some (.agg #[.int .i64 0, .int .i64 0, .int .i64 0, .int .i64 0, .int .i64 0, .int .i64 0, .int .i64 0, .int .i64 0, .int .i64 0, .int .i64 0]) ∧ i0.size = 10 ∧ i0.bytes = 80) := ⟨hi, hz0, hz1, hz2⟩
      have HR1 := hid_of hR1
      have HR2 := hid_of hR2
      have HV := hid_of hv
      clear hR1 hR2 ha hn hnb hr0 hv hi hz0 hz1 hz2
      go_enter Try.func17, Try.ntmps17
      go_wp2_with fail
      refine hask.mono ?_
      rintro e w1 ⟨rfl, hb⟩
      have HB := hid_of hb
      clear hask hb
      go_wp2_with fail
      refine (hnode _).mono ?_
      rintro e w2 ⟨rfl, rfl⟩
      go_wp2_with fail
      go_loopg [9, 10] s.length (fun gg s9 s10 wr => ∃ k : Nat, k ≤ s.length ∧ s.length - k ≤ gg ∧ s10 = .int .i64 k ∧ Hid (Own EEnv 33 wr w1.heap.size s9 (toF nd ((dlv l s).take k))) ∧ Hid (Below w1.heap.size w1 wr))
      case atStart => exact ⟨0, Nat.zero_le _, by omega, rfl, World.ownsRow_made w1 #[] 0 (Nat.le_refl _) (Nat.zero_le _) (by simp), (Below.refl _ _).alloc (Nat.le_refl _) _⟩
      case round =>
        obtain ⟨k, hk, hg, rfl, HO, BW⟩ := hrel
        have HBW := hid_of (below_then HB.out HB.out.size BW.out)
        by_cases hlt : k < s.length
        · obtain ⟨ad, rfl, c0⟩ := I.at_ (HR2.out.below HBW.out) k hlt
          have hvk := HV.out s[k] (List.getElem_mem _)
          obtain ⟨j, hj⟩ : ∃ j : Nat, s[k] = (j : Int) := ⟨s[k].toNat, by omega⟩
          have hjl : j < l.length := by omega
          have hdl := dlv_at l s k j hlt hjl hj
          rw [hj] at c0
          obtain ⟨ad2, rfl, e0, e1, e2, e3, e4, e5, e6, e7, e8, e9⟩ := Env.at_ (HR1.out.below HBW.out) j hjl
          have hsn := toF_snoc nd ((dlv l s).take k) ((j : Int), l[j])
          rw [← hdl] at hsn
          have hll := toF_len nd ((dlv l s).take k)
          rw [List.length_take] at hll
          generalize toF nd ((dlv l s).take k) = ls at HO hll hsn
          generalize l[j] = x at e0 e1 e2 e3 e4 e5 e6 e7 e8 e9 hsn
          have HSN := hid_of hsn
          have hsz := BW.out.size
          have hjc : (j : Int) < (l.length : Int) := by omega
          have hll2 : ls.length ≤ 256 := by omega
          clear hsn hdl hj hvk hll
          obtain ⟨x0, x1, x2, ⟨m0, m1, m2, m3, m4, m5, m6⟩⟩ := x
          dsimp only at e0 e1 e2 e3 e4 e5 e6 e7 e8 e9
          by_cases hm : x1 = nd
          · have hmb : (x1 == nd) = true := by simpa using hm
            have HMM := hid_of hm
            clear hm
            go_wp2_with (at_builtin; refine wpList_append_own _ rfl _ _ 22 rfl w1.heap.size 33 i0 _ 10 80 Try.underlying22 HI.out.1 HI.out.2.1 HI.out.2.2.1 HI.out.2.2.2 rfl (by decide) _ _ _ rfl (HO.out.alloc _) _ 1 _ (EEnv.flat [⟨x0, x1, x2, ⟨m0, m1, m2, m3, m4, m5, m6⟩⟩]) rfl ?qc1 ?qc2 ?qc3 ?qc4 ?qc5 ?qc6 ?_)
            case qc1 => rfl
            case qc2 =>
              intro j u hj
              first
                | (rw [addr_plain, blk_cell (blkN _ _) j]; simpa [Enc.flat, EEnv, Env.cells] using hj)
                | (simpa [Enc.flat, EEnv, Env.cells] using hj)
            case qc3 => exact EEnv.flat_one' _
            case qc4 => simp only [maxLen]; omega
            case qc5 => omega
            case qc6 => first | omega | (simp; omega) | (show _ ≤ _; simp; omega)
            intro v' w3 hown hgrow hnil
            have hown' : Own EEnv 33 w3 w1.heap.size v' (ls ++ [⟨x0, x1, x2, ⟨m0, m1, m2, m3, m4, m5, m6⟩⟩]) := by
              unfold Own; rw [EEnv.flat_append, List.length_append, List.length_singleton]; exact hown
            have hnb := fun k h => (HO.out.block k h).1
            have HB4 := hid_of ((BW.out.alloc hsz (.cells #[.int .i64 x0, .int .i64 x1, .int .i64 x2, .int .i64 m0, .int .i64 m1, .int .i64 m2, .int .i64 m3, .int .i64 m4, .int .i64 m5, .int .i64 m6] 33)).grown hgrow (by simp; omega) hnb)
            have HO4 := hid_of hown'
            clear hown hown' hgrow hnil hnb HO BW e0 e1 e2 e3 e4 e5 e6 e7 e8 e9
            go_wp2_with fail
            go_roundg (s.length - (k + 1))
            case measure => omega
            case rel =>
              refine ⟨k + 1, by omega, Nat.le_refl _, by go_num, ?_, HB4.out⟩
              rw [HSN.out, if_pos HMM.out]
              exact HO4.out
          · have hmb : (x1 == nd) = false := by simpa using hm
            have HMM := hid_of hm
            clear hm
            go_wp2_with fail
            go_roundg (s.length - (k + 1))
            case measure => omega
            case rel =>
              refine ⟨k + 1, by omega, Nat.le_refl _, by go_num, ?_, BW.out⟩
              rw [HSN.out, if_neg HMM.out]
              exact HO.out
        · have hkl : k = s.length := by omega
          subst hkl
          have ho := HO.out
          rw [← dlv_len l s, List.take_length] at ho
          have HO1 := hid_of ho
          clear ho
          go_wp2_with fail
          go_ret2
          exact ⟨_, rfl, HO1.out.lower HB.out.size, HBW.out⟩
  · rw [if_pos ha]
    generalize askR l s = a at hask ha ⊢
    have hne : (a != 0) = true := by simpa using ha
    clear hR1 hR2 ha
    go_enter Try.func17, Try.ntmps17
    go_wp2_with fail
    refine hask.mono ?_
    rintro e w1 ⟨rfl, hb⟩
    have HB := hid_of hb
    clear hask hb
    go_wp2_with fail
    go_ret2
    exact ⟨_, rfl, Own.nil _ _ _ _, HB.out⟩
set_option maxHeartbeats 8000000 in
set_option maxRecDepth 100000 in
theorem rknown_any (l : List Env) (s : List Int) (nd : Int) (A1 A2 : Option Addr) (c1 c2 : Nat) (w : World) (hR1 : Rd EEnv w A1 l) (hR2 : Rd EI w A2 s) :
    Calls Try.prog 19 #[.slice A1 l.length c1, .slice A2 s.length c2, .int .i64 nd] w (Made2 EMsg 31 (knownR l s nd).1 (knownR l s nd).2 w) := by
  have h := rdeliver_any l s nd A1 A2 c1 c2 w hR1 hR2
  have h256 := dlv_len' l s nd
  unfold knownR
  generalize toR l s nd = p at h h256 ⊢
  obtain ⟨xs, n⟩ := p
  unfold Made2 at h ⊢
  dsimp only at h h256 ⊢
  clear hR1 hR2
  by_cases hn : n = 0
  · subst hn
    rw [if_neg (by simp)]
    have hnm := fun A c W (h : Rd EMsg W A (knL xs)) => rnormalT_any (knL xs) A c W h
    unfold Made2 at hnm
    obtain ⟨i0, hi, hzz⟩ := Option.map_eq_some_iff.1 infoM
    simp only [Prod.mk.injEq] at hzz
    obtain ⟨hz0, hz1, hz2⟩ := hzz
    have HI : Hid (Try.prog.info? 31 = some i0 ∧ i0.zero = some (.agg #[.int .i64 0, .int .i64 0, .int .i64 0, .int .i64 0, .int .i64 0, .int .i64 0, .int .i64 0]) ∧ i0.size = 7 ∧ i0.bytes = 56) := ⟨hi, hz0, hz1, hz2⟩
    have HN := hid_of hnm
    clear hi hz0 hz1 hz2 hnm
    generalize hq : normR (knL xs) = q at HN ⊢
    obtain ⟨ns, en⟩ := q
    have HQ := hid_of hq
    clear hq
    go_enter Try.func19, Try.ntmps19
    go_wp2_with fail
    refine h.mono ?_
    rintro e w1 ⟨v, rfl, hO, hb⟩
    obtain ⟨A3, c3, rfl, hlc, hR3⟩ := hO.rd
    have HR := hid_of hR3
    have HB := hid_of hb
    clear hO hR3 hb h
    go_wp2_with fail
    go_loopg [10, 11] xs.length (fun gg s10 s11 wr => ∃ k : Nat, k ≤ xs.length ∧ xs.length - k ≤ gg ∧ s11 = .int .i64 k ∧ Hid (Own EMsg 31 wr w1.heap.size s10 (knL (xs.take k))) ∧ Hid (Below w1.heap.size w1 wr))
    case atStart => exact ⟨0, Nat.zero_le _, by omega, rfl, World.ownsRow_made w1 #[] 0 (Nat.le_refl _) (Nat.zero_le _) (by simp), (Below.refl _ _).alloc (Nat.le_refl _) _⟩
    case round =>
      obtain ⟨k, hk, hg, rfl, HO, BW⟩ := hrel
      by_cases hlt : k < xs.length
      · obtain ⟨ad, rfl, e0, e1, e2, e3, e4, e5, e6, e7, e8, e9⟩ := Env.at_ (HR.out.below BW.out) k hlt
        have hsn := knL_snoc (xs.take k) xs[k]
        rw [← List.take_succ_eq_append_getElem hlt] at hsn
        have hkl := knL_len (xs.take k)
        rw [List.length_take] at hkl
        generalize knL (xs.take k) = ms at hsn hkl HO
        generalize xs[k] = x at e0 e1 e2 e3 e4 e5 e6 e7 e8 e9 hsn
        have HSN := hid_of hsn
        have hml : ms.length ≤ 256 := by omega
        clear hsn hkl
        obtain ⟨x0, x1, x2, m⟩ := x
        dsimp only at e0 e1 e2 e3 e4 e5 e6 e7 e8 e9 HSN
        clear e0 e1 e2
        obtain ⟨A4, c4, rfl, hlc4, hR4⟩ := HO.out.rd
        have HR4 := hid_of hR4
        have hsz := BW.out.size
        have hkc : (k : Int) < (xs.length : Int) := by omega
        clear hR4
        go_wp2_with fail
        go_loopg [12, 13] ms.length (fun gg s12 s13 wq => ∃ (kk q : Nat) (b : Bool), kk ≤ ms.length ∧ ms.length - kk ≤ gg ∧ s13 = .int .i64 kk ∧ s12 = .bool b ∧ wq = wr.drewN q ∧ Hid (b = (ms.take kk).any (fun y => decide (y = m))))
        case atStart => exact ⟨0, 0, false, Nat.zero_le _, by omega, rfl, rfl, rfl, rfl⟩
        case round =>
          obtain ⟨kk, q, b, hkk, hgk, rfl, rfl, rfl, HBB⟩ := hrel
          by_cases hltk : kk < ms.length
          · have hat := any_take_succE (fun y => decide (y = m)) ms kk hltk
            rw [← HBB.out] at hat
            obtain ⟨ad1, rfl, d0, d1, d2, d3, d4, d5, d6⟩ := Msg.at_ HR4.out kk hltk
            generalize hy : ms[kk] = y at d0 d1 d2 d3 d4 d5 d6 hat
            have HAT := hid_of hat
            clear hat hy
            cases b with
            | true =>
              clear d0 d1 d2 d3 d4 d5 d6
              go_wp2_with fail
              go_quiet (fail)
              go_wp2_with fail
              go_roundg (ms.length - (kk + 1))
              case measure => omega
              case rel => exact ⟨kk + 1, q + nq, true, by omega, Nat.le_refl _, by go_num, rfl, by first | rfl | simp [World.drewN, Nat.add_assoc] | exact World.drewN_add .., (show Hid _ from by show _ = _; rw [HAT.out]; rfl)⟩
            | false =>
              by_cases hxy : y = m
              · subst hxy
                go_wp2_with fail
                go_quiet (fail)
                go_wp2_with fail
                go_roundg (ms.length - (kk + 1))
                case measure => omega
                case rel => exact ⟨kk + 1, q + nq, true, by omega, Nat.le_refl _, by go_num, rfl, by first | rfl | simp [World.drewN, Nat.add_assoc] | exact World.drewN_add .., (show Hid _ from by show _ = _; rw [HAT.out]; simp)⟩
              · have hd : decide (y = m) = false := by simpa using hxy
                have HXY := hid_of hxy
                clear hxy
                go_wp2_with fail
                go_quiet (fail)
                go_wp2_with fail
                go_roundg (ms.length - (kk + 1))
                case measure => omega
                case rel => exact ⟨kk + 1, q + nq, false, by omega, Nat.le_refl _, by go_num, rfl, by first | rfl | simp [World.drewN, Nat.add_assoc] | exact World.drewN_add .., (show Hid _ from by show _ = _; rw [HAT.out]; simp [HXY.out])⟩
          · have hkx : kk = ms.length := by omega
            subst hkx
            have hbm : b = true ↔ m ∈ ms := by
              have hb := HBB.out
              rw [List.take_length] at hb
              rw [hb, List.any_eq_true]
              constructor
              · rintro ⟨y, hy, he⟩
                rw [← of_decide_eq_true he]; exact hy
              · intro h; exact ⟨m, h, by simp⟩
            have HBM := hid_of hbm
            clear hbm HBB
            cases b with
            | true =>
              have hm := HBM.out.1 rfl
              have HM := hid_of hm
              clear hm HBM
              go_wp2_with fail
              go_roundg (xs.length - (k + 1))
              case measure => omega
              case rel =>
                refine ⟨k + 1, by omega, Nat.le_refl _, by go_num, ?_, below_drewN BW.out _⟩
                rw [HSN.out, if_pos HM.out]
                exact HO.out.drewN _
            | false =>
              have hm : m ∉ ms := fun h => absurd (HBM.out.2 h) (by simp)
              have HM := hid_of hm
              clear hm HBM
              go_wp2_with (at_builtin; refine wpList_append_own _ rfl _ _ 37 rfl w1.heap.size 31 i0 _ 7 56 Try.underlying37 HI.out.1 HI.out.2.1 HI.out.2.2.1 HI.out.2.2.2 rfl (by decide) _ _ _ rfl ((HO.out.drewN _).alloc _) _ 1 _ (EMsg.flat [m]) rfl ?qc1 ?qc2 ?qc3 ?qc4 ?qc5 ?qc6 ?_)
              case qc1 => rfl
              case qc2 =>
                intro j u hj
                have hb := blkN (wr.drewN q) (.cells #[.int .i64 m.mv, .int .i64 m.kd, .int .i64 m.nu, .int .i64 m.dy, .int .i64 m.fr, .int .i64 m.tt, .int .i64 m.al] 31)
                rw [show (wr.drewN q).heap.size = wr.heap.size from rfl] at hb
                rw [addr_plain, blk_cell hb j]
                simpa [Enc.flat, EMsg, Msg.cells] using hj
              case qc3 => exact EMsg.flat_one' _
              case qc4 => simp only [maxLen]; omega
              case qc5 => omega
              case qc6 => simp; omega
              intro v' w3 hown hgrow hnil
              have hown' : Own EMsg 31 w3 w1.heap.size v' (ms ++ [m]) := by
                unfold Own; rw [EMsg.flat_append, List.length_append, List.length_singleton]; exact hown
              have hnb := fun k h => (HO.out.block k h).1
              have HB4 := hid_of (((below_drewN BW.out q).alloc hsz (.cells #[.int .i64 m.mv, .int .i64 m.kd, .int .i64 m.nu, .int .i64 m.dy, .int .i64 m.fr, .int .i64 m.tt, .int .i64 m.al] 31)).grown hgrow (by simp; omega) hnb)
              have HO4 := hid_of hown'
              clear hown hown' hgrow hnil hnb HO BW HR4
              go_wp2_with fail
              go_roundg (xs.length - (k + 1))
              case measure => omega
              case rel =>
                refine ⟨k + 1, by omega, Nat.le_refl _, by go_num, ?_, HB4.out⟩
                rw [HSN.out, if_neg HM.out]
                exact HO4.out
      · have hkl : k = xs.length := by omega
        subst hkl
        have ho := HO.out
        rw [List.take_length] at ho
        obtain ⟨A4, c4, rfl, hlc4, hR4⟩ := ho.rd
        have hc := HN.out A4 c4 wr hR4
        have HB2 := hid_of (below_then HB.out HB.out.size BW.out)
        clear ho hR4 HO BW
        go_wp2_with fail
        refine hc.mono ?_
        rintro e w2 ⟨v, rfl, hO, hb⟩
        have HO := hid_of (hO.lower HB2.out.size)
        have HB3 := hid_of (below_then HB2.out HB2.out.size hb)
        clear hO hb hc
        go_wp2_with fail
        go_ret2
        exact ⟨_, rfl, HO.out, HB3.out⟩
  · rw [if_pos hn]
    have hne : (n != 0) = true := by simpa using hn
    clear hn
    go_enter Try.func19, Try.ntmps19
    go_wp2_with fail
    refine h.mono ?_
    rintro e w1 ⟨v, rfl, hO, hb⟩
    obtain ⟨A3, c3, rfl, hlc, hR3⟩ := hO.rd
    have HB := hid_of hb
    clear hO hR3 hb h
    go_wp2_with fail
    go_ret2
    exact ⟨_, rfl, Own.nil _ _ _ _, HB.out⟩
end Go.Proofs.Ytfhlkkjochjhoaa
/- The reference's Crossed of envelopes: it counts what network.Crossed counts. -/
namespace Go.Proofs.Ytfhlkkjochjhoaa
open Go.RowKit
def gB (s : List Int) (k i : Nat) : Bool := decide (0 ≤ fstI s i) && decide (fstI s i < fstI s k)
def rcIn (s : List Int) (i : Nat) : Nat → Nat
  | 0 => 0
  | k + 1 => rcIn s i k + (if gB s k i = true then 1 else 0)
def rcOut (s : List Int) : Nat → Nat
  | 0 => 0
  | i + 1 => rcOut s i + rcIn s i i
theorem rcIn_le (s : List Int) (i : Nat) : ∀ k, rcIn s i k ≤ k
  | 0 => Nat.le_refl _
  | k + 1 => by have := rcIn_le s i k; unfold rcIn; split <;> omega
theorem rcOut_le (s : List Int) (n : Nat) : ∀ i, i ≤ n → rcOut s i ≤ i * n
  | 0, _ => by simp [rcOut]
  | i + 1, h => by
    have := rcOut_le s n i (by omega)
    have := rcIn_le s i i
    unfold rcOut
    rw [Nat.add_mul, Nat.one_mul]; omega
theorem rcIn_sum (s : List Int) (i : Nat) : ∀ k, rcIn s i k = ((List.range k).map (fun j => if gB s j i = true then 1 else 0)).sum
  | 0 => rfl
  | k + 1 => by unfold rcIn; rw [rcIn_sum s i k, List.range_succ, List.map_append, List.sum_append]; simp
theorem rcOut_sum (s : List Int) : ∀ n, rcOut s n = ((List.range n).map (fun i => rcIn s i i)).sum
  | 0 => rfl
  | k + 1 => by unfold rcOut; rw [rcOut_sum s k, List.range_succ, List.map_append, List.sum_append]; simp
theorem sum_add (f g : Nat → Nat) (l : List Nat) : (l.map (fun x => f x + g x)).sum = (l.map f).sum + (l.map g).sum := by
  induction l with
  | nil => rfl
  | cons x l ih => simp only [List.map_cons, List.sum_cons, ih]; omega
theorem sum_zero (l : List Nat) : (l.map (fun _ => 0)).sum = 0 := by
  induction l with
  | nil => rfl
  | cons x l ih => simp only [List.map_cons, List.sum_cons, ih]
/-- Sums over two lists may change places. -/
theorem sum_swap (f : Nat → Nat → Nat) (l1 l2 : List Nat) : (l1.map (fun x => (l2.map (fun y => f x y)).sum)).sum = (l2.map (fun y => (l1.map (fun x => f x y)).sum)).sum := by
  induction l1 with
  | nil => simp only [List.map_nil, List.sum_nil]; rw [sum_zero]
  | cons x l1 ih => simp only [List.map_cons, List.sum_cons, ih]; rw [sum_add]
theorem sum_filter (p : Nat → Bool) (f : Nat → Nat) (l : List Nat) : ((l.filter p).map f).sum = (l.map (fun x => if p x = true then f x else 0)).sum := by
  induction l with
  | nil => rfl
  | cons x l ih =>
    rw [List.filter_cons, List.map_cons, List.sum_cons, ← ih]
    split
    · simp
    · simp
theorem range_low (i n : Nat) (h : i ≤ n) : (List.range n).filter (fun k => decide (k < i)) = List.range i := by
  induction n with
  | zero => rw [show i = 0 by omega]; rfl
  | succ n ih =>
    rw [List.range_succ, List.filter_append]
    by_cases hi : i ≤ n
    · rw [ih hi]; simp; omega
    · have : i = n + 1 := by omega
      subst this
      rw [List.filter_eq_self.2 (fun a ha => by have := List.mem_range.1 ha; simp; omega), List.range_succ]
      simp
def gN (s : List Int) (p q : Nat) : Nat := if p < q ∧ 0 ≤ fstI s q ∧ fstI s q < fstI s p then 1 else 0
theorem rcOut_eq (s : List Int) (n : Nat) : rcOut s n = ((List.range n).map (fun p => ((List.range n).map (fun q => gN s p q)).sum)).sum := by
  rw [sum_swap, rcOut_sum]
  congr 1
  apply List.map_congr_left
  intro i hi
  have hin := List.mem_range.1 hi
  rw [rcIn_sum, ← range_low i n (by omega), sum_filter]
  congr 1
  apply List.map_congr_left
  intro k hk
  unfold gN gB
  by_cases h : k < i
  · simp only [h, decide_true, if_true, true_and, Bool.and_eq_true, decide_eq_true_eq]
  · simp [h]
/-- The delivered envelopes' numbers. -/
theorem once_range {s : List Int} {n : Nat} (hv : ∀ i ∈ s, 0 ≤ i ∧ i < n) : (once s).Perm (((List.range n).filter (fun k : Nat => decide ((k : Int) ∈ s))).map (fun k : Nat => (k : Int))) := by
  refine (List.perm_ext_iff_of_nodup (once_nodup s) ?_).2 (fun i => ?_)
  · rw [List.nodup_iff_pairwise_ne, List.pairwise_map]
    exact (List.Pairwise.filter _ (List.nodup_iff_pairwise_ne.1 List.nodup_range)).imp (fun h e => h (by omega))
  · rw [once_mem, List.mem_map]
    constructor
    · intro h
      have := hv i h
      refine ⟨i.toNat, ?_, by omega⟩
      rw [List.mem_filter, List.mem_range]
      exact ⟨by omega, by simp; rw [Int.max_eq_left (by omega)]; exact h⟩
    · rintro ⟨k, hk, rfl⟩
      exact of_decide_eq_true (List.mem_filter.1 hk).2
theorem frM_map {s : List Int} : frM s = (once s).map (fun i => (i, fstI s i)) := by
  obtain ⟨hk, hv⟩ := frM_char s
  rw [← hk, List.map_map]
  conv => lhs; rw [← List.map_id (frM s)]
  apply List.map_congr_left
  intro p hp
  have := hv p hp
  simp only [Function.comp, id]
  rw [← this]
theorem sum_permI {f : Int → Nat} {l1 l2 : List Int} (h : l1.Perm l2) : (l1.map f).sum = (l2.map f).sum := sum_perm (h.map f)
theorem crossE_eq {s : List Int} {n : Nat} (hv : ∀ i ∈ s, 0 ≤ i ∧ i < n) (p : Nat) (hp : (p : Int) ∈ s) : crossE (frM s) ((p : Int), fstI s p) = ((List.range n).map (fun q => gN s p q)).sum := by
  unfold crossE
  rw [frM_map, List.filter_map, List.length_map]
  have h1 : ((once s).filter ((fun q : Int × Int => decide ((p : Int) < q.1) && decide (q.2 < fstI s p)) ∘ fun i => (i, fstI s i))).length = ((once s).map (fun i => if (decide ((p : Int) < i) && decide (fstI s i < fstI s p)) = true then 1 else 0)).sum := by
    generalize once s = l
    induction l with
    | nil => rfl
    | cons x l ih =>
      rw [List.filter_cons, List.map_cons, List.sum_cons, ← ih]
      simp only [Function.comp]
      split
      · simp; omega
      · simp
  rw [h1, sum_permI (once_range hv), List.map_map, sum_filter]
  congr 1
  apply List.map_congr_left
  intro q hq
  unfold gN
  have hqs : decide ((q : Int) ∈ s) = true ↔ 0 ≤ fstI s q := by rw [decide_eq_true_iff, fstI_mem]
  by_cases h : (q : Int) ∈ s
  · have h2 := fstI_mem.2 h
    simp only [h, decide_true, if_true, Function.comp, h2, true_and, Bool.and_eq_true, decide_eq_true_eq, Int.ofNat_lt]
  · have h2 : ¬ 0 ≤ fstI s q := fun e => h (fstI_mem.1 e)
    simp [h, h2]
theorem cross_eq {s : List Int} {n : Nat} (hv : ∀ i ∈ s, 0 ≤ i ∧ i < n) : crossM (frM s) = rcOut s n := by
  rw [rcOut_eq]
  unfold crossM
  rw [congrArg (List.map (crossE (frM s))) (frM_map (s := s)), List.map_map, sum_permI (once_range hv), List.map_map, sum_filter]
  congr 1
  apply List.map_congr_left
  intro p hp
  by_cases h : (p : Int) ∈ s
  · simp only [h, decide_true, if_true, Function.comp]
    exact crossE_eq hv p h
  · have h2 := fstI_no h
    simp only [h, decide_false, if_false, Bool.false_eq_true]
    have : (fun q => gN s p q) = fun _ => 0 := by
      funext q
      unfold gN
      rw [h2, if_neg]
      omega
    rw [this, sum_zero]
set_option maxHeartbeats 8000000 in
set_option maxRecDepth 100000 in
theorem rcrossed_any (l : List Env) (s : List Int) (A1 A2 : Option Addr) (k1 k2 : Nat) (w : World) (hR1 : Rd EEnv w A1 l) (hR2 : Rd EI w A2 s) :
    Calls Try.prog 27 #[.slice A1 l.length k1, .slice A2 s.length k2] w (R2 (crR l s) w) := by
  have hask := rstartN_any l s A1 A2 k1 k2 w hR1 hR2
  unfold RInt at hask
  unfold R2 crR
  by_cases ha : askR l s = 0
  · have hfi := fun (i : Int) W (h : Below w.heap.size w W) => rfirst_any s i A2 k2 W (hR2.below h)
    obtain ⟨hnr, hs256, hv⟩ := ask_ok ha
    have hl64 : l.length ≤ 64 := by
      unfold netR at hnr
      split at hnr
      · cases hnr
      · omega
    rw [if_neg (by simp [ha]), cross_eq hv]
    rw [ha] at hask
    have HFI := hid_of hfi
    clear hR1 hR2 ha hnr hv hfi hs256
    go_enter Try.func27, Try.ntmps27
    go_wp2_with fail
    refine hask.mono ?_
    rintro e w2 ⟨rfl, hb⟩
    have HB2 := hid_of hb
    clear hask hb
    go_wp2_with fail
    go_loopg [7, 8] l.length (fun gg s7 s8 wr => ∃ (i u : Nat), i ≤ l.length ∧ l.length - i ≤ gg ∧ s8 = .int .i64 i ∧ s7 = .int .i64 u ∧ wr = w2 ∧ Hid (u = rcOut s i))
    case atStart => exact ⟨0, 0, Nat.zero_le _, by omega, rfl, rfl, rfl, rfl⟩
    case round =>
      obtain ⟨i, u, hi, hg, rfl, rfl, rfl, HU⟩ := hrel
      have hul := rcOut_le s l.length i hi
      rw [← HU.out] at hul
      have hul2 : u ≤ 4096 := Nat.le_trans hul (Nat.mul_le_mul (Nat.le_trans hi hl64) hl64)
      by_cases hlt : i < l.length
      · have hci := HFI.out (i : Int) wr HB2.out
        clear hul
        go_wp2_with fail
        go_loopg [7, 9] i (fun gg s7 s9 wq => ∃ (k v : Nat), k ≤ i ∧ i - k ≤ gg ∧ s9 = .int .i64 k ∧ s7 = .int .i64 ((u + v : Nat) : Int) ∧ wq = wr ∧ Hid (v = rcIn s i k))
        case atStart => exact ⟨0, 0, Nat.zero_le _, by omega, rfl, rfl, rfl, rfl⟩
        case round =>
          obtain ⟨k, v, hk, hgk, rfl, rfl, rfl, HV⟩ := hrel
          have hvl := rcIn_le s i k
          rw [← HV.out] at hvl
          have hcast : ((u + v : Nat) : Int) = (u : Int) + (v : Int) := by omega
          rw [hcast]
          by_cases hki : k < i
          · have hck := HFI.out (k : Int) wr HB2.out
            have hsn : rcIn s i (k + 1) = rcIn s i k + (if gB s k i = true then 1 else 0) := rfl
            unfold gB at hsn
            rw [← HV.out] at hsn
            generalize fstI s i = fi at hci hsn
            generalize fstI s k = fk at hck hsn
            have HSN := hid_of hsn
            clear hsn
            by_cases h1 : 0 ≤ fi
            · by_cases h2 : fi < fk
              · go_wp2_with fail
                refine hck.mono ?_
                rintro e w3 ⟨rfl, rfl⟩
                go_wp2_with fail
                refine hci.mono ?_
                rintro e w3 ⟨rfl, rfl⟩
                go_wp2_with fail
                go_roundg (i - (k + 1))
                case measure => omega
                case rel =>
                  refine ⟨k + 1, v + 1, by omega, Nat.le_refl _, by go_num, by go_num, rfl, ?_⟩
                  show _ = _
                  rw [HSN.out, if_pos (by simp [h1, h2])]
              · have h2b : decide (fi < fk) = false := by simpa using h2
                have H2 := hid_of h2b
                clear h2
                go_wp2_with fail
                refine hck.mono ?_
                rintro e w3 ⟨rfl, rfl⟩
                go_wp2_with fail
                refine hci.mono ?_
                rintro e w3 ⟨rfl, rfl⟩
                go_wp2_with fail
                go_roundg (i - (k + 1))
                case measure => omega
                case rel =>
                  refine ⟨k + 1, v, by omega, Nat.le_refl _, by go_num, by go_num, rfl, ?_⟩
                  show _ = _
                  rw [HSN.out, if_neg (by rw [H2.out]; simp), Nat.add_zero]
            · have h1b : decide (0 ≤ fi) = false := by simpa using h1
              have H1 := hid_of h1b
              clear h1
              go_wp2_with fail
              refine hck.mono ?_
              rintro e w3 ⟨rfl, rfl⟩
              go_wp2_with fail
              refine hci.mono ?_
              rintro e w3 ⟨rfl, rfl⟩
              go_wp2_with fail
              go_roundg (i - (k + 1))
              case measure => omega
              case rel =>
                refine ⟨k + 1, v, by omega, Nat.le_refl _, by go_num, by go_num, rfl, ?_⟩
                show _ = _
                rw [HSN.out, if_neg (by rw [H1.out]; simp), Nat.add_zero]
          · have hki2 : k = i := by omega
            subst hki2
            go_wp2_with fail
            go_roundg (l.length - (k + 1))
            case measure => omega
            case rel =>
              refine ⟨k + 1, u + v, by omega, Nat.le_refl _, by go_num, by go_num, rfl, ?_⟩
              show _ = _
              unfold rcOut
              rw [← HU.out, HV.out]
      · have hkl : i = l.length := by omega
        subst hkl
        have hu := HU.out
        subst hu
        go_wp2_with fail
        go_ret2
        exact ⟨rfl, HB2.out⟩
  · rw [if_pos ha]
    generalize askR l s = a at hask ha ⊢
    have hne : (a != 0) = true := by simpa using ha
    clear hR1 hR2 ha
    go_enter Try.func27, Try.ntmps27
    go_wp2_with fail
    refine hask.mono ?_
    rintro e w1 ⟨rfl, hb⟩
    have HB := hid_of hb
    clear hask hb
    go_wp2_with fail
    go_ret2
    exact ⟨rfl, HB.out⟩
end Go.Proofs.Ytfhlkkjochjhoaa
/- The reference's Same at envelopes. -/
namespace Go.Proofs.Ytfhlkkjochjhoaa
open Go.RowKit
attribute [local go_sem high] eqEnv
set_option maxHeartbeats 4000000 in
set_option maxRecDepth 100000 in
theorem sameE (xs ys : List Env) (A B : Option Addr) (c d : Nat) (w : World) (hA : Rd EEnv w A xs) (hB : Rd EEnv w B ys) : Calls Try.prog 20 #[.slice A xs.length c, .slice B ys.length d] w fun e w' => e = .returned (.bool (decide (xs = ys))) ∧ Below w.heap.size w w' := by
  have hlx := hA.le
  have hly := hB.le
  by_cases hlen : xs.length = ys.length
  · have hw : ∀ r, r = decide (xs = ys) → Calls Try.prog 20 #[.slice A xs.length c, .slice B ys.length d] w fun e w' => e = .returned (.bool r) ∧ Below w.heap.size w w' := by
      intro r hr
      have HR := hid_of hr
      clear hr
      have HL := hid_of hlen
      rw [← hlen]
      clear hlen hly
      go_enter Try.func20, Try.ntmps20
      go_wp2
      go_loopg [5] xs.length (fun gg s13 wr => ∃ (k q : Nat), k ≤ xs.length ∧ xs.length - k ≤ gg ∧ s13 = .int .i64 k ∧ wr = w.drewN q ∧ Hid (∀ j (hj : j < xs.length) (hj' : j < ys.length), j < k → xs[j] = ys[j]))
      case atStart => exact ⟨0, 0, Nat.zero_le _, by omega, rfl, rfl, fun j _ _ h => absurd h (by omega)⟩
      case round =>
        obtain ⟨k, q, hk, hg, rfl, rfl, HA⟩ := hrel
        by_cases hlt : k < xs.length
        · have hlt2 : k < ys.length := by rw [← HL.out]; exact hlt
          obtain ⟨ad, rfl, c0, c1, c2, c3, c4, c5, c6, c7, c8, c9⟩ := Env.at_ hA k hlt
          obtain ⟨ad', rfl, d0, d1, d2, d3, d4, d5, d6, d7, d8, d9⟩ := Env.at_ hB k hlt2
          generalize hx : xs[k] = x at c0 c1 c2 c3 c4 c5 c6 c7 c8 c9
          generalize hy : ys[k] = y at d0 d1 d2 d3 d4 d5 d6 d7 d8 d9
          have HX : Hid (xs[k] = x ∧ ys[k] = y) := ⟨hx, hy⟩
          have HA1 := hid_of hA
          have HB1 := hid_of hB
          clear hx hy hA hB
          by_cases hxy : x = y
          · subst hxy
            go_wp2_with fail
            go_quiet (fail)
            go_wp2_with fail
            go_roundg (xs.length - (k + 1))
            case measure => omega
            case rel =>
              refine ⟨k + 1, q + nq, by omega, Nat.le_refl _, by go_num, by first | rfl | simp [World.drewN, Nat.add_assoc] | exact World.drewN_add .. , (show Hid _ from fun j hj hj' hjk => ?_)⟩
              by_cases e : j = k
              · subst e; exact HX.out.1.trans HX.out.2.symm
              · exact HA.out j hj hj' (by omega)
          · have hd : decide (x = y) = false := by simpa using hxy
            have HN := hid_of hxy
            clear hxy
            go_wp2_with fail
            go_quiet (fail)
            go_wp2_with fail
            go_ret
            refine ⟨ret_b ?_, below_drewN (below_drewN (Below.refl _ _) _) _⟩
            rw [HR.out, ne_of_at xs ys k hlt (by rw [← HL.out]; exact hlt) (by rw [HX.out.1, HX.out.2]; exact HN.out)]
        · go_wp2_with fail
          go_ret
          refine ⟨ret_b ?_, below_drewN (Below.refl _ _) _⟩
          rw [HR.out, eq_of_all xs ys HL.out (fun j hj hj' => HA.out j hj hj' (by omega))]
    exact hw _ rfl
  · rw [ne_of_len xs ys hlen]
    have hn : ((xs.length : Int) != (ys.length : Int)) = true := by simp; omega
    clear hA hB
    go_enter Try.func20, Try.ntmps20
    go_wp2
    go_ret
    exact ⟨rfl, Below.refl _ _⟩
end Go.Proofs.Ytfhlkkjochjhoaa
/- The reference's Same. -/
namespace Go.Proofs.Ytfhlkkjochjhoaa
open Go.RowKit
attribute [local go_sem high] eqMsg
set_option maxHeartbeats 4000000 in
set_option maxRecDepth 100000 in
theorem sameM (xs ys : List Msg) (A B : Option Addr) (c d : Nat) (w : World) (hA : Rd EMsg w A xs) (hB : Rd EMsg w B ys) : Calls Try.prog 21 #[.slice A xs.length c, .slice B ys.length d] w fun e w' => e = .returned (.bool (decide (xs = ys))) ∧ Below w.heap.size w w' := by
  have hlx := hA.le
  have hly := hB.le
  by_cases hlen : xs.length = ys.length
  · have hw : ∀ r, r = decide (xs = ys) → Calls Try.prog 21 #[.slice A xs.length c, .slice B ys.length d] w fun e w' => e = .returned (.bool r) ∧ Below w.heap.size w w' := by
      intro r hr
      have HR := hid_of hr
      clear hr
      have HL := hid_of hlen
      rw [← hlen]
      clear hlen hly
      go_enter Try.func21, Try.ntmps21
      go_wp2
      go_loopg [5] xs.length (fun gg s13 wr => ∃ (k q : Nat), k ≤ xs.length ∧ xs.length - k ≤ gg ∧ s13 = .int .i64 k ∧ wr = w.drewN q ∧ Hid (∀ j (hj : j < xs.length) (hj' : j < ys.length), j < k → xs[j] = ys[j]))
      case atStart => exact ⟨0, 0, Nat.zero_le _, by omega, rfl, rfl, fun j _ _ h => absurd h (by omega)⟩
      case round =>
        obtain ⟨k, q, hk, hg, rfl, rfl, HA⟩ := hrel
        by_cases hlt : k < xs.length
        · have hlt2 : k < ys.length := by rw [← HL.out]; exact hlt
          obtain ⟨ad, rfl, c0, c1, c2, c3, c4, c5, c6⟩ := Msg.at_ hA k hlt
          obtain ⟨ad', rfl, d0, d1, d2, d3, d4, d5, d6⟩ := Msg.at_ hB k hlt2
          generalize hx : xs[k] = x at c0 c1 c2 c3 c4 c5 c6
          generalize hy : ys[k] = y at d0 d1 d2 d3 d4 d5 d6
          have HX : Hid (xs[k] = x ∧ ys[k] = y) := ⟨hx, hy⟩
          have HA1 := hid_of hA
          have HB1 := hid_of hB
          clear hx hy hA hB
          by_cases hxy : x = y
          · subst hxy
            go_wp2_with fail
            go_quiet (fail)
            go_wp2_with fail
            go_roundg (xs.length - (k + 1))
            case measure => omega
            case rel =>
              refine ⟨k + 1, q + nq, by omega, Nat.le_refl _, by go_num, by first | rfl | simp [World.drewN, Nat.add_assoc] | exact World.drewN_add .. , (show Hid _ from fun j hj hj' hjk => ?_)⟩
              by_cases e : j = k
              · subst e; exact HX.out.1.trans HX.out.2.symm
              · exact HA.out j hj hj' (by omega)
          · have hd : decide (x = y) = false := by simpa using hxy
            have HN := hid_of hxy
            clear hxy
            go_wp2_with fail
            go_quiet (fail)
            go_wp2_with fail
            go_ret
            refine ⟨ret_b ?_, below_drewN (below_drewN (Below.refl _ _) _) _⟩
            rw [HR.out, ne_of_at xs ys k hlt (by rw [← HL.out]; exact hlt) (by rw [HX.out.1, HX.out.2]; exact HN.out)]
        · go_wp2_with fail
          go_ret
          refine ⟨ret_b ?_, below_drewN (Below.refl _ _) _⟩
          rw [HR.out, eq_of_all xs ys HL.out (fun j hj hj' => HA.out j hj hj' (by omega))]
    exact hw _ rfl
  · rw [ne_of_len xs ys hlen]
    have hn : ((xs.length : Int) != (ys.length : Int)) = true := by simp; omega
    clear hA hB
    go_enter Try.func21, Try.ntmps21
    go_wp2
    go_ret
    exact ⟨rfl, Below.refl _ _⟩
end Go.Proofs.Ytfhlkkjochjhoaa
