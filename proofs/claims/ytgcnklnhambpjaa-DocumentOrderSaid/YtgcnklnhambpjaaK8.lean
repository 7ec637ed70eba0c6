/- Joined texts of the seat: contracts and plain laws that the rows import. -/
import Derived.Test.YtgcnklnhambpjaaK5
import Derived.Test.YtgcnklnhambpjaaK2
import Derived.Laws.AppendOwn
import Derived.Test.YtgcnklnhambpjaaK7
set_option linter.unusedVariables false
set_option linter.unusedSimpArgs false
/- document.All: what it returns for every slice of messages. -/
namespace Go.Proofs.Ytgcnklnhambpjaa
open Go.RowKit
theorem infoD : (Try.prog.info? 35).map (fun i => (i.zero, i.size, i.bytes)) = some (some (.agg #[.int .i64 0, .int .i64 0, .int .i64 0, .int .i64 0, .int .i64 0, .int .i64 0, .int .i64 0]), 7, 56) := by kernel_rfl
/-- The movements of messages: each at the first of a run. -/
def movs (n : List Msg) : Nat → List Int
  | 0 => []
  | k + 1 => if h : k < n.length then (if k = 0 ∨ n[k].mv ≠ (n[k - 1]'(by omega)).mv then movs n k ++ [n[k].mv] else movs n k) else movs n k
def docsL (n : List Msg) : List Doc := (movs n n.length).map (fun x => ofR x n)
theorem movs_le (n : List Msg) : ∀ k, (movs n k).length ≤ k
  | 0 => by simp [movs]
  | k + 1 => by
    have := movs_le n k
    unfold movs
    repeat' split
    all_goals first | omega | (simp; omega)
theorem comp_le_go (l : List Msg) : ∀ acc : List Msg, (l.foldl (fun acc x => if acc.getLast? = some x then acc else acc ++ [x]) acc).length ≤ acc.length + l.length := by
  induction l with
  | nil => intro acc; simp
  | cons a l ih =>
    intro acc
    rw [List.foldl_cons]
    refine Nat.le_trans (ih _) ?_
    split
    · simp
    · simp; omega
theorem comp_le (l : List Msg) : (comp l).length ≤ l.length := by
  have := comp_le_go l []
  simpa [comp] using this
theorem normR_len (l : List Msg) : (normR l).1.length ≤ 64 := by
  unfold normR
  repeat' split
  · simp
  · simp
  · have := comp_le (l.mergeSort leM)
    rw [List.length_mergeSort] at this
    unfold normL
    dsimp only
    omega
def allP (l : List Msg) : List Doc × Int := if (normR l).2 ≠ 0 then ([], (normR l).2) else (docsL (normR l).1, 0)
set_option maxHeartbeats 4000000 in
set_option maxRecDepth 100000 in
theorem allT_any (l : List Msg) (A : Option Addr) (c : Nat) (w : World) (hR : Rd EMsg w A l) : Calls Try.prog 20 #[.slice A l.length c] w (Made2 EDoc 35 (allP l).1 (allP l).2 w) := by
  have hn := normal_any l A c w hR
  have hof := fun (mv : Int) (A : Option Addr) (c : Nat) (W : World) (hR : Rd EMsg W A (normR l).1) => of_any (normR l).1 mv A c W hR
  have hnl := normR_len l
  unfold OfPost at hof
  have hp : allP l = allP l := rfl
  conv at hp => rhs; unfold allP
  generalize allP l = p at hp ⊢
  obtain ⟨p1, p2⟩ := p
  generalize normR l = q at hn hof hp hnl
  obtain ⟨ns, en⟩ := q
  dsimp only at hn hof hp hnl ⊢
  have HP := hid_of hp
  clear hp hR
  obtain ⟨i0, hi, hzz⟩ := Option.map_eq_some_iff.1 infoD
  simp only [Prod.mk.injEq] at hzz
  obtain ⟨hz0, hz1, hz2⟩ := hzz
  unfold Made2 at hn
  go_enter Try.func20, Try.ntmps20
  go_wp2_with fail
  refine hn.mono ?_
  rintro e w1 ⟨v, rfl, hO, hb1⟩
  obtain ⟨A1, c1, rfl, hlc, hR1⟩ := hO.rd
  have HB := hid_of hb1
  have HR1 := hid_of hR1
  have hwl := hb1.size
  clear hn hO hb1 hR1
  by_cases he : en = 0
  · subst he
    have hp := HP.out
    rw [if_neg (by simp)] at hp
    simp only [Prod.mk.injEq] at hp
    obtain ⟨rfl, rfl⟩ := hp
    clear HP
    go_wp2_with fail
    go_loopg [6, 19] ns.length (fun gg s6 s19 wr => ∃ k : Nat, k ≤ ns.length ∧ ns.length - k ≤ gg ∧ s19 = .int .i64 k ∧ Hid (Own EDoc 35 wr w1.heap.size s6 ((movs ns k).map (fun x => ofR x ns))) ∧ Hid (Below w1.heap.size w1 wr))
    case atStart => exact ⟨0, Nat.zero_le _, by omega, rfl, Own.nil _ _ _ _, Below.refl _ _⟩
    case round =>
      obtain ⟨k, hk, hg, rfl, HO, BW⟩ := hrel
      by_cases hlt : k < ns.length
      · obtain ⟨ad, rfl, c0, c1', c2, c3, c4, c5, c6⟩ := Msg.at_ (HR1.out.below BW.out) k hlt
        generalize hx : ns[k] = x at c0 c1' c2 c3 c4 c5 c6
        have HX := hid_of hx
        clear hx
        by_cases hk0 : k = 0
        · subst hk0
          simp only [Nat.zero_mul, addr_add_zero] at c0 c1' c2 c3 c4 c5 c6
          have hm := movs_le ns 0
          have hml : ((movs ns 0).map (fun x => ofR x ns)).length ≤ 64 := by rw [List.length_map]; omega
          have hc := fun (W : World) (h : Rd EMsg W (some ad) ns) => hof x.mv (some ad) c1 W h
          clear hof hm
          go_wp2_with fail
          go_quiet (fail)
          go_wp2_with fail
          refine (hc _ (((HR1.out.below BW.out).alloc _).drewN _)).mono ?_
          rintro e w2 ⟨rfl, hb2'⟩
          have hb2 : Below (wr.alloc (.cells #[.int .i64 x.mv, .int .i64 x.kd, .int .i64 x.nu, .int .i64 x.dy, .int .i64 x.fr, .int .i64 x.tt, .int .i64 x.al] 23)).heap.size (wr.alloc (.cells #[.int .i64 x.mv, .int .i64 x.kd, .int .i64 x.nu, .int .i64 x.dy, .int .i64 x.fr, .int .i64 x.tt, .int .i64 x.al] 23)) w2 := below_then (below_drewN (Below.refl _ _) _) (Nat.le_refl _) hb2'
          clear hb2'
          have HB2 := hid_of (below_then ((BW.out.alloc (by have := BW.out.size; omega) _)) (by have := BW.out.size; simp; omega) hb2)
          have hown := (HO.out.alloc (.cells #[.int .i64 x.mv, .int .i64 x.kd, .int .i64 x.nu, .int .i64 x.dy, .int .i64 x.fr, .int .i64 x.tt, .int .i64 x.al] 23)).below hb2
          clear hb2 hc
          have HO2 := hid_of hown
          clear hown HO BW
          have hw2 := HB2.out.size
          go_wp2_with (at_builtin; refine wpList_append_own _ rfl _ _ 38 rfl w1.heap.size 35 i0 _ 7 56 Try.underlying38 hi hz0 hz1 hz2 rfl (by decide) _ _ _ rfl (HO2.out.alloc _) _ 1 _ (EDoc.flat [ofR x.mv ns]) rfl ?qc1 ?qc2 ?qc3 ?qc4 ?qc5 ?qc6 ?_)
          case qc1 => exact EDoc.flat_length _
          case qc2 =>
            intro j u hj
            rw [addr_plain, blk_cell (blkN _ _) j]
            simpa [Enc.flat, EDoc, Doc.cells] using hj
          case qc3 => exact EDoc.flat_one' _
          case qc4 => simp only [maxLen]; omega
          case qc5 => omega
          case qc6 => simp; omega
          intro v' w3 hown hgrow hnil
          have hown' : Own EDoc 35 w3 w1.heap.size v' ((movs ns 0).map (fun x => ofR x ns) ++ [ofR x.mv ns]) := by
            unfold Own; rw [EDoc.flat_append, List.length_append, List.length_map, List.length_singleton]; exact hown
          have hnb := fun k h => (HO2.out.block k h).1
          have HB3 := hid_of ((HB2.out.alloc hw2 (.cells #[.int .i64 (ofR x.mv ns).mv, .int .i64 (ofR x.mv ns).st, .int .i64 (ofR x.mv ns).fr, .int .i64 (ofR x.mv ns).tt, .int .i64 (ofR x.mv ns).se, .int .i64 (ofR x.mv ns).re, .int .i64 (ofR x.mv ns).ch] 35)).grown hgrow (by simp; omega) hnb)
          have HO3 := hid_of hown'
          clear hown hown' hgrow hnil hnb HO2 HB2
          go_wp2
          go_roundg (ns.length - (0 + 1))
          case measure => omega
          case rel =>
            refine ⟨0 + 1, by omega, Nat.le_refl _, by go_num, ?_, HB3.out⟩
            have e : movs ns (0 + 1) = movs ns 0 ++ [x.mv] := by
              have hx := HX.out
              conv => lhs; unfold movs
              rw [dif_pos hlt, if_pos (by first | exact .inl rfl | exact .inr (by rw [hx]; exact HNE.out)), hx]
            rw [e, List.map_append]
            exact HO3.out
        · have hk1 : 1 ≤ k := by omega
          have hk2 : ((k : Int) == 0) = false := by simp; omega
          have hwr : IntKind.i64.wrap ((k : Int) - 1) = ((k - 1 : Nat) : Int) := by rw [IntKind.wrap_i64]; omega
          clear hk0
          have hlt0 : k - 1 < ns.length := by omega
          obtain ⟨ad', had, d0, d1, d2, d3, d4, d5, d6⟩ := Msg.at_ (HR1.out.below BW.out) (k - 1) hlt0
          simp only [Option.some.injEq] at had
          subst had
          clear d1 d2 d3 d4 d5 d6
          generalize hy : ns[k - 1] = y at d0
          have hd0 := World.block_lt_of_cell? wr _ d0
          have hd1 : (wr.alloc (.cells #[.int .i64 x.mv, .int .i64 x.kd, .int .i64 x.nu, .int .i64 x.dy, .int .i64 x.fr, .int .i64 x.tt, .int .i64 x.al] 23)).cell? (ad.add ((k - 1) * 7)) = some (.int .i64 y.mv) := cell_below ((Below.refl _ _).alloc (Nat.le_refl _) _) d0
          have HY := hid_of hy
          clear hy
          by_cases hne : x.mv = y.mv
          · have hne1 : (x.mv != y.mv) = false := by simpa using hne
            have HNE := hid_of hne
            clear hne
            go_wp2_with fail
            go_quiet (fail)
            go_wp2_with fail
            go_roundg (ns.length - (k + 1))
            case measure => omega
            case rel =>
              refine ⟨k + 1, by omega, Nat.le_refl _, by go_num, ?_, below_drewN (BW.out.alloc (by have := BW.out.size; omega) _) _⟩
              have e : movs ns (k + 1) = movs ns k := by
                have hx := HX.out
                have hy := HY.out
                conv => lhs; unfold movs
                rw [dif_pos hlt, if_neg (by rw [hx]; rintro (h | h); exact absurd h (by omega); exact h (HNE.out.trans (by rw [hy])))]
              rw [e]
              exact HO.out.alloc _
          · have hne1 : (x.mv != y.mv) = true := by simpa using hne
            have HNE : Hid (x.mv ≠ ns[k - 1].mv) := by
              have hy := HY.out
              show x.mv ≠ ns[k - 1].mv
              rw [hy]; exact hne
            clear hne
            have hm := movs_le ns k
            have hml : ((movs ns k).map (fun x => ofR x ns)).length ≤ 64 := by rw [List.length_map]; omega
            have hc := fun (W : World) (h : Rd EMsg W (some ad) ns) => hof x.mv (some ad) c1 W h
            clear hof hm
            go_wp2_with fail
            go_quiet (fail)
            go_wp2_with fail
            refine (hc _ (((HR1.out.below BW.out).alloc _).drewN _)).mono ?_
            rintro e w2 ⟨rfl, hb2'⟩
            have hb2 : Below (wr.alloc (.cells #[.int .i64 x.mv, .int .i64 x.kd, .int .i64 x.nu, .int .i64 x.dy, .int .i64 x.fr, .int .i64 x.tt, .int .i64 x.al] 23)).heap.size (wr.alloc (.cells #[.int .i64 x.mv, .int .i64 x.kd, .int .i64 x.nu, .int .i64 x.dy, .int .i64 x.fr, .int .i64 x.tt, .int .i64 x.al] 23)) w2 := below_then (below_drewN (Below.refl _ _) _) (Nat.le_refl _) hb2'
            clear hb2'
            have HB2 := hid_of (below_then ((BW.out.alloc (by have := BW.out.size; omega) _)) (by have := BW.out.size; simp; omega) hb2)
            have hown := (HO.out.alloc (.cells #[.int .i64 x.mv, .int .i64 x.kd, .int .i64 x.nu, .int .i64 x.dy, .int .i64 x.fr, .int .i64 x.tt, .int .i64 x.al] 23)).below hb2
            clear hb2 hc
            have HO2 := hid_of hown
            clear hown HO BW
            have hw2 := HB2.out.size
            go_wp2_with (at_builtin; refine wpList_append_own _ rfl _ _ 38 rfl w1.heap.size 35 i0 _ 7 56 Try.underlying38 hi hz0 hz1 hz2 rfl (by decide) _ _ _ rfl (HO2.out.alloc _) _ 1 _ (EDoc.flat [ofR x.mv ns]) rfl ?qc1 ?qc2 ?qc3 ?qc4 ?qc5 ?qc6 ?_)
            case qc1 => exact EDoc.flat_length _
            case qc2 =>
              intro j u hj
              rw [addr_plain, blk_cell (blkN _ _) j]
              simpa [Enc.flat, EDoc, Doc.cells] using hj
            case qc3 => exact EDoc.flat_one' _
            case qc4 => simp only [maxLen]; omega
            case qc5 => omega
            case qc6 => simp; omega
            intro v' w3 hown hgrow hnil
            have hown' : Own EDoc 35 w3 w1.heap.size v' ((movs ns k).map (fun x => ofR x ns) ++ [ofR x.mv ns]) := by
              unfold Own; rw [EDoc.flat_append, List.length_append, List.length_map, List.length_singleton]; exact hown
            have hnb := fun k h => (HO2.out.block k h).1
            have HB3 := hid_of ((HB2.out.alloc hw2 (.cells #[.int .i64 (ofR x.mv ns).mv, .int .i64 (ofR x.mv ns).st, .int .i64 (ofR x.mv ns).fr, .int .i64 (ofR x.mv ns).tt, .int .i64 (ofR x.mv ns).se, .int .i64 (ofR x.mv ns).re, .int .i64 (ofR x.mv ns).ch] 35)).grown hgrow (by simp; omega) hnb)
            have HO3 := hid_of hown'
            clear hown hown' hgrow hnil hnb HO2 HB2
            go_wp2
            go_roundg (ns.length - (k + 1))
            case measure => omega
            case rel =>
              refine ⟨k + 1, by omega, Nat.le_refl _, by go_num, ?_, HB3.out⟩
              have e : movs ns (k + 1) = movs ns k ++ [x.mv] := by
                have hx := HX.out
                conv => lhs; unfold movs
                rw [dif_pos hlt, if_pos (by first | exact .inl rfl | exact .inr (by rw [hx]; exact HNE.out)), hx]
              rw [e, List.map_append]
              exact HO3.out
      · have hkl : k = ns.length := by omega
        subst hkl
        go_wp2_with fail
        go_ret2
        exact ⟨_, rfl, HO.out.lower (by have := HB.out.size; omega), below_then HB.out HB.out.size BW.out⟩
  · have hne : (en != 0) = true := by simpa using he
    have hp := HP.out
    rw [if_pos he] at hp
    simp only [Prod.mk.injEq] at hp
    obtain ⟨rfl, rfl⟩ := hp
    clear he HP
    go_wp2_with fail
    go_ret2
    exact ⟨_, rfl, Own.nil _ _ _ _, HB.out⟩
end Go.Proofs.Ytgcnklnhambpjaa
/- document.Open: what it returns for every slice of messages. -/
namespace Go.Proofs.Ytgcnklnhambpjaa
open Go.RowKit
def openStep (tgt : Int) (s : Int) (d : Doc) : Int := if d.st = 1 ∧ d.tt = tgt then s + d.se else s
def openS (tgt : Int) (l : List Doc) : Int := l.foldl (openStep tgt) 0
theorem openS_snoc (tgt : Int) (l : List Doc) (d : Doc) : openS tgt (l ++ [d]) = openStep tgt (openS tgt l) d := by unfold openS; rw [List.foldl_append]; rfl
def openP (l : List Msg) (tgt : Int) : Int × Int := if (allP l).2 ≠ 0 then (0, (allP l).2) else if nodeB tgt = false then (0, 2) else (openS tgt (allP l).1, 0)
/-- Every document says of what was sent that it is not more than the greatest amount. -/
def SeOK (l : List Doc) : Prop := l.length ≤ 64 ∧ ∀ d ∈ l, 0 ≤ d.se ∧ d.se ≤ 10737418240000
theorem openS_le {tgt : Int} {l : List Doc} (h : SeOK l) (k : Nat) (hk : k ≤ l.length) : 0 ≤ openS tgt (l.take k) ∧ openS tgt (l.take k) ≤ 10737418240000 * k := by
  induction k with
  | zero => simp [openS]
  | succ k ih =>
    rw [List.take_succ_eq_append_getElem (by omega), openS_snoc]
    have := ih (by omega)
    have := h.2 l[k] (List.getElem_mem _)
    unfold openStep
    split <;> omega
set_option maxHeartbeats 4000000 in
set_option maxRecDepth 100000 in
theorem openT_any (l : List Msg) (tgt : Int) (A : Option Addr) (c : Nat) (w : World) (hR : Rd EMsg w A l) (hse : SeOK (allP l).1) : Calls Try.prog 22 #[.slice A l.length c, .int .i64 tgt] w fun e w' => e = .returned (.tuple #[.int .i64 (openP l tgt).1, .int .i64 (openP l tgt).2]) ∧ Below w.heap.size w w' := by
  have hn := allT_any l A c w hR
  have hnode := fun W => node_any tgt W
  have hp : openP l tgt = openP l tgt := rfl
  conv at hp => rhs; unfold openP
  generalize openP l tgt = p at hp ⊢
  obtain ⟨p1, p2⟩ := p
  generalize allP l = q at hn hp hse
  obtain ⟨ns, en⟩ := q
  dsimp only at hn hp hse ⊢
  generalize nodeB tgt = nb at hp hnode
  have HP := hid_of hp
  have HS := hid_of hse
  have hsl := hse.1
  clear hp hR hse
  unfold Made2 at hn
  go_enter Try.func22, Try.ntmps22
  go_wp2_with fail
  refine hn.mono ?_
  rintro e w1 ⟨v, rfl, hO, hb1⟩
  obtain ⟨A1, c1, rfl, hlc, hR1⟩ := hO.rd
  have HB := hid_of hb1
  have HR1 := hid_of hR1
  have hwl := hb1.size
  clear hn hO hb1 hR1
  by_cases he : en = 0
  · subst he
    cases nb with
    | false =>
      have hp := HP.out
      rw [if_neg (by simp), if_pos rfl] at hp
      simp only [Prod.mk.injEq] at hp
      obtain ⟨rfl, rfl⟩ := hp
      clear HP
      go_wp2_with fail
      refine (hnode _).mono ?_
      rintro e w2 ⟨rfl, rfl⟩
      go_wp2_with fail
      go_ret2
      exact ⟨rfl, HB.out⟩
    | true =>
      have hp := HP.out
      rw [if_neg (by simp), if_neg (by simp)] at hp
      simp only [Prod.mk.injEq] at hp
      obtain ⟨rfl, rfl⟩ := hp
      clear HP
      go_wp2_with fail
      refine (hnode _).mono ?_
      rintro e w2 ⟨rfl, rfl⟩
      go_wp2_with fail
      go_loopg [8, 26] ns.length (fun gg s8 s26 wr => ∃ (k : Nat) (u : Int), k ≤ ns.length ∧ ns.length - k ≤ gg ∧ s26 = .int .i64 k ∧ s8 = .int .i64 u ∧ Hid (u = openS tgt (ns.take k)) ∧ Hid (Below w1.heap.size w1 wr))
      case atStart => exact ⟨0, 0, Nat.zero_le _, by omega, rfl, rfl, rfl, Below.refl _ _⟩
      case round =>
        obtain ⟨k, u, hk, hg, rfl, rfl, HU, BW⟩ := hrel
        have hul := openS_le (tgt := tgt) HS.out k hk
        rw [← HU.out] at hul
        by_cases hlt : k < ns.length
        · obtain ⟨ad, rfl, c0, c1', c2, c3, c4, c5, c6⟩ := Doc.at_ (HR1.out.below BW.out) k hlt
          have hsx := HS.out.2 ns[k] (List.getElem_mem _)
          have htk : openS tgt (ns.take (k + 1)) = openStep tgt u ns[k] := by rw [List.take_succ_eq_append_getElem hlt, openS_snoc, ← HU.out]
          generalize ns[k] = x at c0 c1' c2 c3 c4 c5 c6 hsx htk
          have HT := hid_of htk
          clear htk
          obtain ⟨x0, x1, x2, x3, x4, x5, x6⟩ := x
          dsimp only at c0 c1' c2 c3 c4 c5 c6 hsx
          by_cases h1 : x1 = 1
          · subst h1
            by_cases h2 : x3 = tgt
            · have h2' := h2.symm
              subst h2'
              go_wp2
              go_roundg (ns.length - (k + 1))
              case measure => omega
              case rel => exact ⟨k + 1, u + x4, by omega, Nat.le_refl _, by go_num, by go_num, (show Hid _ from by show _ = _; rw [HT.out]; simp [openStep]), BW.out.alloc (by have := BW.out.size; omega) _⟩
            · have h2b : (x3 == tgt) = false := by simpa using h2
              have H2 := hid_of h2
              clear h2
              go_wp2
              go_roundg (ns.length - (k + 1))
              case measure => omega
              case rel => exact ⟨k + 1, u, by omega, Nat.le_refl _, by go_num, by go_num, (show Hid _ from by show _ = _; rw [HT.out]; simp [openStep, H2.out]), BW.out.alloc (by have := BW.out.size; omega) _⟩
          · have h1b : (x1 == 1) = false := by simpa using h1
            have H1 := hid_of h1
            clear h1
            go_wp2
            go_roundg (ns.length - (k + 1))
            case measure => omega
            case rel => exact ⟨k + 1, u, by omega, Nat.le_refl _, by go_num, by go_num, (show Hid _ from by show _ = _; rw [HT.out]; simp [openStep, H1.out]), BW.out.alloc (by have := BW.out.size; omega) _⟩
        · have hkl : k = ns.length := by omega
          subst hkl
          have hu := HU.out
          rw [List.take_of_length_le (Nat.le_refl _)] at hu
          subst hu
          go_wp2_with fail
          go_ret2
          exact ⟨rfl, below_then HB.out HB.out.size BW.out⟩
  · have hne : (en != 0) = true := by simpa using he
    have hp := HP.out
    rw [if_pos he] at hp
    simp only [Prod.mk.injEq] at hp
    obtain ⟨rfl, rfl⟩ := hp
    clear he HP
    go_wp2_with fail
    go_ret2
    exact ⟨rfl, HB.out⟩
end Go.Proofs.Ytgcnklnhambpjaa
/- The example of the law package. -/
namespace Go.Proofs.Ytgcnklnhambpjaa
open Go.RowKit
def exL : List Msg := [⟨5, 1, 0, 1, 1, 2, 100⟩, ⟨5, 2, 1, 2, 0, 3, 0⟩, ⟨5, 3, 0, 4, 0, 0, 98⟩]
set_option maxHeartbeats 4000000 in
set_option maxRecDepth 100000 in
theorem ex_any (w : World) : Calls Try.prog 36 #[] w fun e w' => e = .returned (.slice (some ⟨w.heap.size, 0, none⟩) 3 3) ∧ Own EMsg 23 w' w.heap.size (.slice (some ⟨w.heap.size, 0, none⟩) 3 3) exL ∧ Rd EMsg w' (some ⟨w.heap.size, 0, none⟩) exL ∧ Below w.heap.size w w' := by
  go_enter Try.func36, Try.ntmps36
  go_wp2
  go_ret
  have hO : Own EMsg 23 (w.alloc (.cells #[.int .i64 5, .int .i64 1, .int .i64 0, .int .i64 1, .int .i64 1, .int .i64 2, .int .i64 100, .int .i64 5, .int .i64 2, .int .i64 1, .int .i64 2, .int .i64 0, .int .i64 3, .int .i64 0, .int .i64 5, .int .i64 3, .int .i64 0, .int .i64 4, .int .i64 0, .int .i64 0, .int .i64 98] 23)) w.heap.size (.slice (some ⟨w.heap.size, 0, none⟩) 3 3) exL :=
    ⟨rfl, .inr ⟨_, 3, _, rfl, Nat.le_refl _, blkN _ _, by decide, by decide, by decide, by rfl⟩⟩
  refine ⟨rfl, hO, ?_, (Below.refl _ _).alloc (Nat.le_refl _) _⟩
  obtain ⟨A, c, hv, _, hR⟩ := hO.rd
  injection hv with h1 h2 h3
  rw [h1]; exact hR
end Go.Proofs.Ytgcnklnhambpjaa
/- What the functions return for the example. -/
namespace Go.Proofs.Ytgcnklnhambpjaa
open Go.RowKit
theorem awk1 : normR exL = (exL, 0) := normR_of exL exL (by decide) (by decide +kernel) (.refl _) (by decide +kernel)
theorem awk2 : normR (exL ++ [⟨5, 3, 0, 4, 0, 0, 97⟩]) = (exL.take 2 ++ [⟨5, 3, 0, 4, 0, 0, 97⟩, ⟨5, 3, 0, 4, 0, 0, 98⟩], 0) :=
  normR_of _ (exL.take 2 ++ [⟨5, 3, 0, 4, 0, 0, 97⟩, ⟨5, 3, 0, 4, 0, 0, 98⟩]) (by decide) (by decide +kernel) (by decide +kernel) (by decide +kernel)
theorem awk3 : normR (exL.take 1) = (exL.take 1, 0) := normR_of _ _ (by decide) (by decide +kernel) (.refl _) (by decide +kernel)
def wantD : Doc := ⟨5, 2, 1, 3, 100, 98, 1⟩
theorem awk4 : ofP exL 5 = (wantD, 0) := by unfold ofP; rw [awk1]; decide +kernel
theorem awk5 : ofP (exL ++ [⟨5, 3, 0, 4, 0, 0, 97⟩]) 5 = (⟨5, 5, 0, 0, 0, 0, 0⟩, 0) := by unfold ofP; rw [awk2]; decide +kernel
theorem awk6 : openP (exL.take 1) 2 = (100, 0) := by unfold openP allP; rw [awk3]; decide +kernel
theorem awk7 : allP exL = ([wantD], 0) := by unfold allP; rw [awk1]; decide +kernel
theorem awk8 : laterB wantD ⟨5, 5, 0, 0, 0, 0, 0⟩ = true := by decide +kernel
theorem awk9 : laterB ⟨5, 5, 0, 0, 0, 0, 0⟩ wantD = false := by decide +kernel
theorem awk10 : chkM ⟨5, 1, 0, 1, 1, 2, 100⟩ = 0 := by decide +kernel
end Go.Proofs.Ytgcnklnhambpjaa
/- slices.Equal of documents and of messages. -/
namespace Go.Proofs.Ytgcnklnhambpjaa
open Go.RowKit
attribute [local go_sem high] eqDoc eqMsg
theorem eq_of_all {α : Type} [DecidableEq α] (xs ys : List α) (h : xs.length = ys.length) (ha : ∀ j (hj : j < xs.length) (hj' : j < ys.length), xs[j] = ys[j]) : decide (xs = ys) = true := by
  rw [decide_eq_true_eq]
  exact List.ext_getElem h (fun j h1 h2 => ha j h1 h2)
theorem ne_of_at {α : Type} [DecidableEq α] (xs ys : List α) (j : Nat) (h1 : j < xs.length) (h2 : j < ys.length) (h : xs[j] ≠ ys[j]) : decide (xs = ys) = false := by
  rw [decide_eq_false_iff_not]
  intro e; subst e; exact h rfl
theorem ne_of_len {α : Type} [DecidableEq α] (xs ys : List α) (h : xs.length ≠ ys.length) : decide (xs = ys) = false := by
  rw [decide_eq_false_iff_not]
  intro e; subst e; exact h rfl
set_option maxHeartbeats 4000000 in
set_option maxRecDepth 100000 in
theorem equalD (xs ys : List Doc) (A B : Option Addr) (c d : Nat) (w : World) (hA : Rd EDoc w A xs) (hB : Rd EDoc w B ys) : Calls Try.prog 34 #[.slice A xs.length c, .slice B ys.length d] w fun e w' => e = .returned (.bool (decide (xs = ys))) ∧ Below w.heap.size w w' := by
  have hlx := hA.le
  have hly := hB.le
  by_cases hlen : xs.length = ys.length
  · have hw : ∀ r, r = decide (xs = ys) → Calls Try.prog 34 #[.slice A xs.length c, .slice B ys.length d] w fun e w' => e = .returned (.bool r) ∧ Below w.heap.size w w' := by
      intro r hr
      have HR := hid_of hr
      clear hr
      have HL := hid_of hlen
      rw [← hlen]
      clear hlen hly
      go_enter Try.func34, Try.ntmps34
      go_wp2
      go_loopg [5, 13] xs.length (fun gg _ s13 wr => ∃ (k q : Nat), k ≤ xs.length ∧ xs.length - k ≤ gg ∧ s13 = .int .i64 k ∧ wr = w.drewN q ∧ Hid (∀ j (hj : j < xs.length) (hj' : j < ys.length), j < k → xs[j] = ys[j]))
      case atStart => exact ⟨0, 0, Nat.zero_le _, by omega, rfl, rfl, fun j _ _ h => absurd h (by omega)⟩
      case round =>
        obtain ⟨k, q, hk, hg, rfl, rfl, HA⟩ := hrel
        by_cases hlt : k < xs.length
        · have hlt2 : k < ys.length := by rw [← HL.out]; exact hlt
          obtain ⟨ad, rfl, c0, c1, c2, c3, c4, c5, c6⟩ := Doc.at_ hA k hlt
          obtain ⟨ad', rfl, d0, d1, d2, d3, d4, d5, d6⟩ := Doc.at_ hB k hlt2
          generalize hx : xs[k] = x at c0 c1 c2 c3 c4 c5 c6
          generalize hy : ys[k] = y at d0 d1 d2 d3 d4 d5 d6
          have HX : Hid (xs[k] = x ∧ ys[k] = y) := ⟨hx, hy⟩
          have HA1 := hid_of hA
          have HB1 := hid_of hB
          clear hx hy hA hB
          by_cases hxy : x = y
          · subst hxy
            go_wp2_with fail
            go_quiet (fail)
            go_wp2_with fail
            go_roundg (xs.length - (k + 1))
            case measure => omega
            case rel =>
              refine ⟨k + 1, q + nq, by omega, Nat.le_refl _, by go_num, by first | rfl | simp [World.drewN, Nat.add_assoc] | exact World.drewN_add .. , (show Hid _ from fun j hj hj' hjk => ?_)⟩
              by_cases e : j = k
              · subst e; exact HX.out.1.trans HX.out.2.symm
              · exact HA.out j hj hj' (by omega)
          · have hd : decide (x = y) = false := by simpa using hxy
            have HN := hid_of hxy
            clear hxy
            go_wp2_with fail
            go_quiet (fail)
            go_wp2_with fail
            go_ret
            refine ⟨ret_b ?_, below_drewN (below_drewN (Below.refl _ _) _) _⟩
            rw [HR.out, ne_of_at xs ys k hlt (by rw [← HL.out]; exact hlt) (by rw [HX.out.1, HX.out.2]; exact HN.out)]
        · go_wp2_with fail
          go_ret
          refine ⟨ret_b ?_, below_drewN (Below.refl _ _) _⟩
          rw [HR.out, eq_of_all xs ys HL.out (fun j hj hj' => HA.out j hj hj' (by omega))]
    exact hw _ rfl
  · rw [ne_of_len xs ys hlen]
    have hn : ((xs.length : Int) != (ys.length : Int)) = true := by simp; omega
    clear hA hB
    go_enter Try.func34, Try.ntmps34
    go_wp2
    go_ret
    exact ⟨rfl, Below.refl _ _⟩
set_option maxHeartbeats 4000000 in
set_option maxRecDepth 100000 in
theorem equalM (xs ys : List Msg) (A B : Option Addr) (c d : Nat) (w : World) (hA : Rd EMsg w A xs) (hB : Rd EMsg w B ys) : Calls Try.prog 35 #[.slice A xs.length c, .slice B ys.length d] w fun e w' => e = .returned (.bool (decide (xs = ys))) ∧ Below w.heap.size w w' := by
  have hlx := hA.le
  have hly := hB.le
  by_cases hlen : xs.length = ys.length
  · have hw : ∀ r, r = decide (xs = ys) → Calls Try.prog 35 #[.slice A xs.length c, .slice B ys.length d] w fun e w' => e = .returned (.bool r) ∧ Below w.heap.size w w' := by
      intro r hr
      have HR := hid_of hr
      clear hr
      have HL := hid_of hlen
      rw [← hlen]
      clear hlen hly
      go_enter Try.func35, Try.ntmps35
      go_wp2
      go_loopg [5, 13] xs.length (fun gg _ s13 wr => ∃ (k q : Nat), k ≤ xs.length ∧ xs.length - k ≤ gg ∧ s13 = .int .i64 k ∧ wr = w.drewN q ∧ Hid (∀ j (hj : j < xs.length) (hj' : j < ys.length), j < k → xs[j] = ys[j]))
      case atStart => exact ⟨0, 0, Nat.zero_le _, by omega, rfl, rfl, fun j _ _ h => absurd h (by omega)⟩
      case round =>
        obtain ⟨k, q, hk, hg, rfl, rfl, HA⟩ := hrel
        by_cases hlt : k < xs.length
        · have hlt2 : k < ys.length := by rw [← HL.out]; exact hlt
          obtain ⟨ad, rfl, c0, c1, c2, c3, c4, c5, c6⟩ := Msg.at_ hA k hlt
          obtain ⟨ad', rfl, d0, d1, d2, d3, d4, d5, d6⟩ := Msg.at_ hB k hlt2
          generalize hx : xs[k] = x at c0 c1 c2 c3 c4 c5 c6
          generalize hy : ys[k] = y at d0 d1 d2 d3 d4 d5 d6
          have HX : Hid (xs[k] = x ∧ ys[k] = y) := ⟨hx, hy⟩
          have HA1 := hid_of hA
          have HB1 := hid_of hB
          clear hx hy hA hB
          by_cases hxy : x = y
          · subst hxy
            go_wp2_with fail
            go_quiet (fail)
            go_wp2_with fail
            go_roundg (xs.length - (k + 1))
            case measure => omega
            case rel =>
              refine ⟨k + 1, q + nq, by omega, Nat.le_refl _, by go_num, by first | rfl | simp [World.drewN, Nat.add_assoc] | exact World.drewN_add .. , (show Hid _ from fun j hj hj' hjk => ?_)⟩
              by_cases e : j = k
              · subst e; exact HX.out.1.trans HX.out.2.symm
              · exact HA.out j hj hj' (by omega)
          · have hd : decide (x = y) = false := by simpa using hxy
            have HN := hid_of hxy
            clear hxy
            go_wp2_with fail
            go_quiet (fail)
            go_wp2_with fail
            go_ret
            refine ⟨ret_b ?_, below_drewN (below_drewN (Below.refl _ _) _) _⟩
            rw [HR.out, ne_of_at xs ys k hlt (by rw [← HL.out]; exact hlt) (by rw [HX.out.1, HX.out.2]; exact HN.out)]
        · go_wp2_with fail
          go_ret
          refine ⟨ret_b ?_, below_drewN (Below.refl _ _) _⟩
          rw [HR.out, eq_of_all xs ys HL.out (fun j hj hj' => HA.out j hj hj' (by omega))]
    exact hw _ rfl
  · rw [ne_of_len xs ys hlen]
    have hn : ((xs.length : Int) != (ys.length : Int)) = true := by simp; omega
    clear hA hB
    go_enter Try.func35, Try.ntmps35
    go_wp2
    go_ret
    exact ⟨rfl, Below.refl _ _⟩
end Go.Proofs.Ytgcnklnhambpjaa
