/- document.All: what it returns for every slice of messages. -/
import Derived.Test.YtgcnklnhambpjaaOfW
import Derived.Test.YtgcnklnhambpjaaNormM
import Derived.Laws.AppendOwn
namespace Go.Proofs.Ytgcnklnhambpjaa
open Go.RowKit
theorem infoD : (Try.prog.info? 35).map (fun i => (i.zero, i.size, i.bytes)) = some (some (.agg #[.int .i64 0, .int .i64 0, .int .i64 0, .int .i64 0, .int .i64 0, .int .i64 0, .int .i64 0]), 7, 56) := by kernel_rfl
/-- The movements of messages: each at the first of a run. -/
def movs (n : List Msg) : Nat → List Int
  | 0 => []
  | k + 1 => if h : k < n.length then (if k = 0 ∨ n[k].mv ≠ (n[k - 1]'(by omega)).mv then movs n k ++ [n[k].mv] else movs n k) else movs n k
def docsL (n : List Msg) : List Doc := (movs n n.length).map (fun x => ofR x n)
theorem movs_le (n : List Msg) : ∀ k, (movs n k).length ≤ k
  | 0 => by simp [movs]
  | k + 1 => by
    have := movs_le n k
    unfold movs
    repeat' split
    all_goals first | omega | (simp; omega)
theorem comp_le_go (l : List Msg) : ∀ acc : List Msg, (l.foldl (fun acc x => if acc.getLast? = some x then acc else acc ++ [x]) acc).length ≤ acc.length + l.length := by
  induction l with
  | nil => intro acc; simp
  | cons a l ih =>
    intro acc
    rw [List.foldl_cons]
    refine Nat.le_trans (ih _) ?_
    split
    · simp
    · simp; omega
theorem comp_le (l : List Msg) : (comp l).length ≤ l.length := by
  have := comp_le_go l []
  simpa [comp] using this
theorem normR_len (l : List Msg) : (normR l).1.length ≤ 64 := by
  unfold normR
  repeat' split
  · simp
  · simp
  · have := comp_le (l.mergeSort leM)
    rw [List.length_mergeSort] at this
    unfold normL
    dsimp only
    omega
def allP (l : List Msg) : List Doc × Int := if (normR l).2 ≠ 0 then ([], (normR l).2) else (docsL (normR l).1, 0)
set_option maxHeartbeats 4000000 in
set_option maxRecDepth 100000 in
theorem allT_any (l : List Msg) (A : Option Addr) (c : Nat) (w : World) (hR : Rd EMsg w A l) : Calls Try.prog 20 #[.slice A l.length c] w (Made2 EDoc 35 (allP l).1 (allP l).2 w) := by
  have hn := normal_any l A c w hR
  have hof := fun (mv : Int) (A : Option Addr) (c : Nat) (W : World) (hR : Rd EMsg W A (normR l).1) => of_any (normR l).1 mv A c W hR
  have hnl := normR_len l
  unfold OfPost at hof
  have hp : allP l = allP l := rfl
  conv at hp => rhs; unfold allP
  generalize allP l = p at hp ⊢
  obtain ⟨p1, p2⟩ := p
  generalize normR l = q at hn hof hp hnl
  obtain ⟨ns, en⟩ := q
  dsimp only at hn hof hp hnl ⊢
  have HP := hid_of hp
  clear hp hR
  obtain ⟨i0, hi, hzz⟩ := Option.map_eq_some_iff.1 infoD
  simp only [Prod.mk.injEq] at hzz
  obtain ⟨hz0, hz1, hz2⟩ := hzz
  unfold Made2 at hn
  go_enter Try.func20, Try.ntmps20
  go_wp2_with fail
  refine hn.mono ?_
  rintro e w1 ⟨v, rfl, hO, hb1⟩
  obtain ⟨A1, c1, rfl, hlc, hR1⟩ := hO.rd
  have HB := hid_of hb1
  have HR1 := hid_of hR1
  have hwl := hb1.size
  clear hn hO hb1 hR1
  by_cases he : en = 0
  · subst he
    have hp := HP.out
    rw [if_neg (by simp)] at hp
    simp only [Prod.mk.injEq] at hp
    obtain ⟨rfl, rfl⟩ := hp
    clear HP
    go_wp2_with fail
    go_loopg [6, 19] ns.length (fun gg s6 s19 wr => ∃ k : Nat, k ≤ ns.length ∧ ns.length - k ≤ gg ∧ s19 = .int .i64 k ∧ Hid (Own EDoc 35 wr w1.heap.size s6 ((movs ns k).map (fun x => ofR x ns))) ∧ Hid (Below w1.heap.size w1 wr))
    case atStart => exact ⟨0, Nat.zero_le _, by omega, rfl, Own.nil _ _ _ _, Below.refl _ _⟩
    case round =>
      obtain ⟨k, hk, hg, rfl, HO, BW⟩ := hrel
      by_cases hlt : k < ns.length
      · obtain ⟨ad, rfl, c0, c1', c2, c3, c4, c5, c6⟩ := Msg.at_ (HR1.out.below BW.out) k hlt
        generalize hx : ns[k] = x at c0 c1' c2 c3 c4 c5 c6
        have HX := hid_of hx
        clear hx
        by_cases hk0 : k = 0
        · subst hk0
          simp only [Nat.zero_mul, addr_add_zero] at c0 c1' c2 c3 c4 c5 c6
          have hm := movs_le ns 0
          have hml : ((movs ns 0).map (fun x => ofR x ns)).length ≤ 64 := by rw [List.length_map]; omega
          have hc := fun (W : World) (h : Rd EMsg W (some ad) ns) => hof x.mv (some ad) c1 W h
          clear hof hm
          go_wp2_with fail
          go_quiet (fail)
          go_wp2_with fail
          refine (hc _ (((HR1.out.below BW.out).alloc _).drewN _)).mono ?_
          rintro e w2 ⟨rfl, hb2'⟩
          have hb2 : Below (wr.alloc (.cells #[.int .i64 x.mv, .int .i64 x.kd, .int .i64 x.nu, .int .i64 x.dy, .int .i64 x.fr, .int .i64 x.tt, .int .i64 x.al] 23)).heap.size (wr.alloc (.cells #[.int .i64 x.mv, .int .i64 x.kd, .int .i64 x.nu, .int .i64 x.dy, .int .i64 x.fr, .int .i64 x.tt, .int .i64 x.al] 23)) w2 := below_then (below_drewN (Below.refl _ _) _) (Nat.le_refl _) hb2'
          clear hb2'
          have HB2 := hid_of (below_then ((BW.out.alloc (by have := BW.out.size; omega) _)) (by have := BW.out.size; simp; omega) hb2)
          have hown := (HO.out.alloc (.cells #[.int .i64 x.mv, .int .i64 x.kd, .int .i64 x.nu, .int .i64 x.dy, .int .i64 x.fr, .int .i64 x.tt, .int .i64 x.al] 23)).below hb2
          clear hb2 hc
          have HO2 := hid_of hown
          clear hown HO BW
          have hw2 := HB2.out.size
          go_wp2_with (at_builtin; refine wpList_append_own _ rfl _ _ 38 rfl w1.heap.size 35 i0 _ 7 56 Try.underlying38 hi hz0 hz1 hz2 rfl (by decide) _ _ _ rfl (HO2.out.alloc _) _ 1 _ (EDoc.flat [ofR x.mv ns]) rfl ?qc1 ?qc2 ?qc3 ?qc4 ?qc5 ?qc6 ?_)
          case qc1 => exact EDoc.flat_length _
          case qc2 =>
            intro j u hj
            rw [addr_plain, blk_cell (blkN _ _) j]
            simpa [Enc.flat, EDoc, Doc.cells] using hj
          case qc3 => exact EDoc.flat_one' _
          case qc4 => simp only [maxLen]; omega
          case qc5 => omega
          case qc6 => simp; omega
          intro v' w3 hown hgrow hnil
          have hown' : Own EDoc 35 w3 w1.heap.size v' ((movs ns 0).map (fun x => ofR x ns) ++ [ofR x.mv ns]) := by
            unfold Own; rw [EDoc.flat_append, List.length_append, List.length_map, List.length_singleton]; exact hown
          have hnb := fun k h => (HO2.out.block k h).1
          have HB3 := hid_of ((HB2.out.alloc hw2 (.cells #[.int .i64 (ofR x.mv ns).mv, .int .i64 (ofR x.mv ns).st, .int .i64 (ofR x.mv ns).fr, .int .i64 (ofR x.mv ns).tt, .int .i64 (ofR x.mv ns).se, .int .i64 (ofR x.mv ns).re, .int .i64 (ofR x.mv ns).ch] 35)).grown hgrow (by simp; omega) hnb)
          have HO3 := hid_of hown'
          clear hown hown' hgrow hnil hnb HO2 HB2
          go_wp2
          go_roundg (ns.length - (0 + 1))
          case measure => omega
          case rel =>
            refine ⟨0 + 1, by omega, Nat.le_refl _, by go_num, ?_, HB3.out⟩
            have e : movs ns (0 + 1) = movs ns 0 ++ [x.mv] := by
              have hx := HX.out
              conv => lhs; unfold movs
              rw [dif_pos hlt, if_pos (by first | exact .inl rfl | exact .inr (by rw [hx]; exact HNE.out)), hx]
            rw [e, List.map_append]
            exact HO3.out
        · have hk1 : 1 ≤ k := by omega
          have hk2 : ((k : Int) == 0) = false := by simp; omega
          have hwr : IntKind.i64.wrap ((k : Int) - 1) = ((k - 1 : Nat) : Int) := by rw [IntKind.wrap_i64]; omega
          clear hk0
          have hlt0 : k - 1 < ns.length := by omega
          obtain ⟨ad', had, d0, d1, d2, d3, d4, d5, d6⟩ := Msg.at_ (HR1.out.below BW.out) (k - 1) hlt0
          simp only [Option.some.injEq] at had
          subst had
          clear d1 d2 d3 d4 d5 d6
          generalize hy : ns[k - 1] = y at d0
          have hd0 := World.block_lt_of_cell? wr _ d0
          have hd1 : (wr.alloc (.cells #[.int .i64 x.mv, .int .i64 x.kd, .int .i64 x.nu, .int .i64 x.dy, .int .i64 x.fr, .int .i64 x.tt, .int .i64 x.al] 23)).cell? (ad.add ((k - 1) * 7)) = some (.int .i64 y.mv) := cell_below ((Below.refl _ _).alloc (Nat.le_refl _) _) d0
          have HY := hid_of hy
          clear hy
          by_cases hne : x.mv = y.mv
          · have hne1 : (x.mv != y.mv) = false := by simpa using hne
            have HNE := hid_of hne
            clear hne
            go_wp2_with fail
            go_quiet (fail)
            go_wp2_with fail
            go_roundg (ns.length - (k + 1))
            case measure => omega
            case rel =>
              refine ⟨k + 1, by omega, Nat.le_refl _, by go_num, ?_, below_drewN (BW.out.alloc (by have := BW.out.size; omega) _) _⟩
              have e : movs ns (k + 1) = movs ns k := by
                have hx := HX.out
                have hy := HY.out
                conv => lhs; unfold movs
                rw [dif_pos hlt, if_neg (by rw [hx]; rintro (h | h); exact absurd h (by omega); exact h (HNE.out.trans (by rw [hy])))]
              rw [e]
              exact HO.out.alloc _
          · have hne1 : (x.mv != y.mv) = true := by simpa using hne
            have HNE : Hid (x.mv ≠ ns[k - 1].mv) := by
              have hy := HY.out
              show x.mv ≠ ns[k - 1].mv
              rw [hy]; exact hne
            clear hne
            have hm := movs_le ns k
            have hml : ((movs ns k).map (fun x => ofR x ns)).length ≤ 64 := by rw [List.length_map]; omega
            have hc := fun (W : World) (h : Rd EMsg W (some ad) ns) => hof x.mv (some ad) c1 W h
            clear hof hm
            go_wp2_with fail
            go_quiet (fail)
            go_wp2_with fail
            refine (hc _ (((HR1.out.below BW.out).alloc _).drewN _)).mono ?_
            rintro e w2 ⟨rfl, hb2'⟩
            have hb2 : Below (wr.alloc (.cells #[.int .i64 x.mv, .int .i64 x.kd, .int .i64 x.nu, .int .i64 x.dy, .int .i64 x.fr, .int .i64 x.tt, .int .i64 x.al] 23)).heap.size (wr.alloc (.cells #[.int .i64 x.mv, .int .i64 x.kd, .int .i64 x.nu, .int .i64 x.dy, .int .i64 x.fr, .int .i64 x.tt, .int .i64 x.al] 23)) w2 := below_then (below_drewN (Below.refl _ _) _) (Nat.le_refl _) hb2'
            clear hb2'
            have HB2 := hid_of (below_then ((BW.out.alloc (by have := BW.out.size; omega) _)) (by have := BW.out.size; simp; omega) hb2)
            have hown := (HO.out.alloc (.cells #[.int .i64 x.mv, .int .i64 x.kd, .int .i64 x.nu, .int .i64 x.dy, .int .i64 x.fr, .int .i64 x.tt, .int .i64 x.al] 23)).below hb2
            clear hb2 hc
            have HO2 := hid_of hown
            clear hown HO BW
            have hw2 := HB2.out.size
            go_wp2_with (at_builtin; refine wpList_append_own _ rfl _ _ 38 rfl w1.heap.size 35 i0 _ 7 56 Try.underlying38 hi hz0 hz1 hz2 rfl (by decide) _ _ _ rfl (HO2.out.alloc _) _ 1 _ (EDoc.flat [ofR x.mv ns]) rfl ?qc1 ?qc2 ?qc3 ?qc4 ?qc5 ?qc6 ?_)
            case qc1 => exact EDoc.flat_length _
            case qc2 =>
              intro j u hj
              rw [addr_plain, blk_cell (blkN _ _) j]
              simpa [Enc.flat, EDoc, Doc.cells] using hj
            case qc3 => exact EDoc.flat_one' _
            case qc4 => simp only [maxLen]; omega
            case qc5 => omega
            case qc6 => simp; omega
            intro v' w3 hown hgrow hnil
            have hown' : Own EDoc 35 w3 w1.heap.size v' ((movs ns k).map (fun x => ofR x ns) ++ [ofR x.mv ns]) := by
              unfold Own; rw [EDoc.flat_append, List.length_append, List.length_map, List.length_singleton]; exact hown
            have hnb := fun k h => (HO2.out.block k h).1
            have HB3 := hid_of ((HB2.out.alloc hw2 (.cells #[.int .i64 (ofR x.mv ns).mv, .int .i64 (ofR x.mv ns).st, .int .i64 (ofR x.mv ns).fr, .int .i64 (ofR x.mv ns).tt, .int .i64 (ofR x.mv ns).se, .int .i64 (ofR x.mv ns).re, .int .i64 (ofR x.mv ns).ch] 35)).grown hgrow (by simp; omega) hnb)
            have HO3 := hid_of hown'
            clear hown hown' hgrow hnil hnb HO2 HB2
            go_wp2
            go_roundg (ns.length - (k + 1))
            case measure => omega
            case rel =>
              refine ⟨k + 1, by omega, Nat.le_refl _, by go_num, ?_, HB3.out⟩
              have e : movs ns (k + 1) = movs ns k ++ [x.mv] := by
                have hx := HX.out
                conv => lhs; unfold movs
                rw [dif_pos hlt, if_pos (by first | exact .inl rfl | exact .inr (by rw [hx]; exact HNE.out)), hx]
              rw [e, List.map_append]
              exact HO3.out
      · have hkl : k = ns.length := by omega
        subst hkl
        go_wp2_with fail
        go_ret2
        exact ⟨_, rfl, HO.out.lower (by have := HB.out.size; omega), below_then HB.out HB.out.size BW.out⟩
  · have hne : (en != 0) = true := by simpa using he
    have hp := HP.out
    rw [if_pos he] at hp
    simp only [Prod.mk.injEq] at hp
    obtain ⟨rfl, rfl⟩ := hp
    clear he HP
    go_wp2_with fail
    go_ret2
    exact ⟨_, rfl, Own.nil _ _ _ _, HB.out⟩
end Go.Proofs.Ytgcnklnhambpjaa
