/- The reference's of: what it returns for every slice of messages. -/
import Derived.Test.YtgcnklnhambpjaaOfW
namespace Go.Proofs.Ytgcnklnhambpjaa
open Go.RowKit
structure ROf where
  d : Doc
  di : Int
  an : Int
  en : Int
  cf : Bool
  rf : Bool
def rofInit (mv : Int) : ROf := ⟨⟨mv, 0, 0, 0, 0, 0, 0⟩, 0, 0, 0, false, false⟩
def rofStep (mv : Int) (s : ROf) (p m : Msg) : ROf :=
  if m.mv ≠ mv then s
  else if m.kd = 1 then { s with d := { s.d with fr := m.fr, tt := m.tt, se := m.al }, di := s.di + 1 }
  else if m.kd = 2 then { s with d := { s.d with tt := m.tt, ch := s.d.ch + 1 }, cf := s.cf || (p.mv == mv && (p.kd == m.kd && p.nu == m.nu)) }
  else if m.kd = 3 then { s with d := { s.d with re := m.al }, an := s.an + 1 }
  else if m.kd = 4 then { s with an := s.an + 1, rf := true }
  else { s with en := s.en + 1 }
def rofF (mv : Int) (l : List Msg) : Nat → ROf
  | 0 => rofInit mv
  | k + 1 => if h : k < l.length then rofStep mv (rofF mv l k) (l[k - 1]'(by omega)) l[k] else rofF mv l k
def rofEnd (mv : Int) (s : ROf) : Doc :=
  if s.di = 0 then ⟨mv, 0, 0, 0, 0, 0, 0⟩
  else if s.cf = true ∨ 1 < s.di ∨ 1 < s.an then ⟨mv, 5, 0, 0, 0, 0, 0⟩
  else if s.an = 1 then { s.d with st := if 0 < s.en then 4 else if s.rf = true then 3 else 2 }
  else { s.d with st := 1 }
def rofR (mv : Int) (l : List Msg) : Doc := rofEnd mv (rofF mv l l.length)
theorem rofEnd_none {mv : Int} {s : ROf} (h : s.di = 0) : rofEnd mv s = ⟨mv, 0, 0, 0, 0, 0, 0⟩ := by unfold rofEnd; rw [if_pos h]
theorem rofEnd_conf {mv : Int} {s : ROf} (h : s.di ≠ 0) (h2 : s.cf = true ∨ 1 < s.di ∨ 1 < s.an) : rofEnd mv s = ⟨mv, 5, 0, 0, 0, 0, 0⟩ := by unfold rofEnd; rw [if_neg h, if_pos h2]
theorem rofEnd_ans {mv : Int} {s : ROf} (h : s.di ≠ 0) (h1 : s.cf = false) (h2 : ¬ 1 < s.di) (h3 : s.an = 1) : rofEnd mv s = { s.d with st := if 0 < s.en then 4 else if s.rf = true then 3 else 2 } := by
  unfold rofEnd
  rw [if_neg h, if_neg (by rw [h1]; rintro (h | h | h); exact absurd h (by simp); exact h2 h; omega), if_pos h3]
theorem rofEnd_sent {mv : Int} {s : ROf} (h : s.di ≠ 0) (h1 : s.cf = false) (h2 : ¬ 1 < s.di) (h4 : ¬ 1 < s.an) (h3 : s.an ≠ 1) : rofEnd mv s = { s.d with st := 1 } := by
  unfold rofEnd
  rw [if_neg h, if_neg (by rw [h1]; rintro (h | h | h); exact absurd h (by simp); exact h2 h; exact h4 h), if_neg h3]
structure ROfLe (s : ROf) (k : Nat) : Prop where
  di0 : 0 ≤ s.di
  di1 : s.di ≤ k
  an0 : 0 ≤ s.an
  an1 : s.an ≤ k
  en0 : 0 ≤ s.en
  en1 : s.en ≤ k
  ch0 : 0 ≤ s.d.ch
  ch1 : s.d.ch ≤ k
theorem rofF_le (mv : Int) (l : List Msg) : ∀ k, ROfLe (rofF mv l k) k
  | 0 => ⟨by simp [rofF, rofInit], by simp [rofF, rofInit], by simp [rofF, rofInit], by simp [rofF, rofInit], by simp [rofF, rofInit], by simp [rofF, rofInit], by simp [rofF, rofInit], by simp [rofF, rofInit]⟩
  | k + 1 => by
    have h := rofF_le mv l k
    obtain ⟨h1, h2, h3, h4, h5, h6, h7, h8⟩ := h
    unfold rofF
    generalize rofF mv l k = s at *
    split
    · unfold rofStep
      repeat' split
      all_goals (constructor <;> (try dsimp only) <;> omega)
    · constructor <;> omega
def ROfPost (d : Doc) (w : World) (e : Ending) (w' : World) : Prop := e = .returned d.v ∧ Below w.heap.size w w'
set_option maxHeartbeats 8000000 in
set_option maxRecDepth 100000 in
theorem rof_any (l : List Msg) (mv : Int) (A : Option Addr) (c : Nat) (w : World) (hR : Rd EMsg w A l) (h0 : ∀ (h : 0 < l.length), l[0].mv ≠ mv) : Calls Try.prog 47 #[.slice A l.length c, .int .i64 mv] w (ROfPost (rofR mv l) w) := by
  unfold ROfPost
  have hle := hR.le
  have hg : rofR mv l = rofEnd mv (rofF mv l l.length) := rfl
  generalize rofR mv l = r at hg ⊢
  have HG := hid_of hg
  have HR := hid_of hR
  have H0 := hid_of h0
  clear hR hg h0
  go_enter Try.func47, Try.ntmps47
  go_wp2_with fail
  go_loopg [6, 7, 8, 9, 10, 11] l.length (fun gg s6 s7 s8 s9 s10 s11 wr => ∃ (k : Nat) (s : ROf), k ≤ l.length ∧ l.length - k ≤ gg ∧ s11 = .int .i64 k ∧ s6 = .int .i64 s.di ∧ s7 = .int .i64 s.an ∧ s8 = .int .i64 s.en ∧ s9 = .bool s.cf ∧ s10 = .bool s.rf ∧ Hid (s = rofF mv l k) ∧ Hid (wr.heap[w.heap.size]? = some (.cells #[.int .i64 0, .int .i64 0, .int .i64 0, .int .i64 0, .int .i64 0, .int .i64 0, .int .i64 0] 35 (0, 0))) ∧ Hid (wr.heap[w.heap.size + 1]? = some (.cells s.d.cells.toArray 35 (0, 0))) ∧ Hid (Below w.heap.size w wr) ∧ w.heap.size + 1 < wr.heap.size)
  case atStart =>
    have p1 := blkN (w.alloc (.cells #[.int .i64 0, .int .i64 0, .int .i64 0, .int .i64 0, .int .i64 0, .int .i64 0, .int .i64 0] 35)) (.cells #[.int .i64 mv, .int .i64 0, .int .i64 0, .int .i64 0, .int .i64 0, .int .i64 0, .int .i64 0] 35)
    rw [World.size_alloc] at p1
    refine ⟨0, rofInit mv, Nat.zero_le _, by omega, rfl, rfl, rfl, rfl, rfl, rfl, rfl, blkA (blkN w _), p1, ?_, by simp⟩
    exact ((Below.refl _ _).alloc (Nat.le_refl _) _).alloc (by simp) _
  case round =>
    obtain ⟨k, s, hk, hg, rfl, rfl, rfl, rfl, rfl, rfl, HS, HZ, HO, BW, hsz⟩ := hrel
    have HL := rofF_le mv l k
    rw [← HS.out] at HL
    obtain ⟨b1, b2, b3, b4, b5, b6, b7, b8⟩ := HL
    by_cases hlt : k < l.length
    · have hle1 : k < 9223372036854775807 := by omega
      obtain ⟨ad, rfl, c0, c1, c2, c3, c4, c5, c6⟩ := Msg.at_ (HR.out.below BW.out) k hlt
      generalize hx : l[k] = x at c0 c1 c2 c3 c4 c5 c6
      have HX := hid_of hx
      clear hx
      have hstep : ∀ t, rofStep mv s (l[k - 1]'(by omega)) x = t → t = rofF mv l (k + 1) := fun t h => by
        conv => rhs; unfold rofF
        rw [dif_pos hlt, ← HS.out, HX.out, h]
      have HST := hid_of hstep
      clear hstep
      obtain ⟨a0, a1, a2, a3, a4, a5, a6⟩ := x
      dsimp only at c0 c1 c2 c3 c4 c5 c6
      by_cases hmv : a0 = mv
      · have hk1 : 1 ≤ k := by
          rcases Nat.eq_zero_or_pos k with h | h
          · subst h
            exact absurd (by rw [HX.out]; exact hmv) (H0.out hlt)
          · exact h
        have hmv' := hmv.symm
        subst hmv'
        by_cases k1 : a1 = 1
        · subst k1
          go_upto_region 12 with (fail)
          refine nameW (fun W hW => ?_)
          have hmb : W.heap[wr.heap.size]? = some (.cells #[.int .i64 mv, .int .i64 1, .int .i64 a2, .int .i64 a3, .int .i64 a4, .int .i64 a5, .int .i64 a6] 23 (0, 0)) := by rw [hW]; exact blkN wr _
          have hob : W.heap[w.heap.size + 1]? = some (.cells s.d.cells.toArray 35 (0, 0)) := by rw [hW]; exact blkA HO.out
          have hzb : W.heap[w.heap.size]? = some (.cells #[.int .i64 0, .int .i64 0, .int .i64 0, .int .i64 0, .int .i64 0, .int .i64 0, .int .i64 0] 35 (0, 0)) := by rw [hW]; exact blkA HZ.out
          have hbw : Below w.heap.size w W := by rw [hW]; exact BW.out.alloc (by omega) _
          have hrd : Rd EMsg W (some ad) l := by rw [hW]; exact (HR.out.below BW.out).alloc _
          have hsw : W.heap.size = wr.heap.size + 1 := by rw [hW, World.size_alloc]
          have hs2 : w.heap.size + 1 < W.heap.size := by rw [hsw]; omega
          clear hW hsw
          have o0 := (blk_cell hob 0).trans (show _ = some (.int .i64 s.d.mv) from rfl)
          have o1 := (blk_cell hob 1).trans (show _ = some (.int .i64 s.d.st) from rfl)
          have o2 := (blk_cell hob 2).trans (show _ = some (.int .i64 s.d.fr) from rfl)
          have o3 := (blk_cell hob 3).trans (show _ = some (.int .i64 s.d.tt) from rfl)
          have o4 := (blk_cell hob 4).trans (show _ = some (.int .i64 s.d.se) from rfl)
          have o5 := (blk_cell hob 5).trans (show _ = some (.int .i64 s.d.re) from rfl)
          have o6 := (blk_cell hob 6).trans (show _ = some (.int .i64 s.d.ch) from rfl)
          have hfz := fun j => blk_frozen hob j
          have m0 := (blk_cell hmb 0).trans (show _ = some (.int .i64 mv) from rfl)
          have m1 := (blk_cell hmb 1).trans (show _ = some (.int .i64 1) from rfl)
          have m2 := (blk_cell hmb 2).trans (show _ = some (.int .i64 a2) from rfl)
          have m3 := (blk_cell hmb 3).trans (show _ = some (.int .i64 a3) from rfl)
          have m4 := (blk_cell hmb 4).trans (show _ = some (.int .i64 a4) from rfl)
          have m5 := (blk_cell hmb 5).trans (show _ = some (.int .i64 a5) from rfl)
          have m6 := (blk_cell hmb 6).trans (show _ = some (.int .i64 a6) from rfl)
          have HMB := hid_of hmb
          have HOB := hid_of hob
          have HZB := hid_of hzb
          have HBW := hid_of hbw
          have HRD := hid_of hrd
          clear hmb hob hzb hbw hrd
          go_big_region
          go_wp2_with fail
          go_roundg (l.length - (k + 1))
          case measure => omega
          case rel =>
            refine ⟨k + 1, { s with d := { s.d with fr := a4, tt := a5, se := a6 }, di := s.di + 1 }, by omega, Nat.le_refl _, by go_num, by go_num, by go_num, by go_num, by first | rfl | go_num, rfl, HST.out _ (by simp [rofStep]), by (try unfold Hid); repeat (with_reducible first | exact HZB.out | apply blkD | apply blkDN | apply blkA | refine blkO ?_ (by simp <;> omega)), by exact blkD (blkS (blkS (blkS HOB.out))), by (try unfold Hid); repeat (with_reducible first | exact HBW.out | apply Below.drew | apply below_drewN | (refine Below.alloc ?_ (by first | omega | (simp; omega)) _) | (refine Below.setCell ?_ (by simp <;> omega) _)), by simp; omega⟩
        by_cases k2 : a1 = 2
        · subst k2
          go_upto_region 14 with (fail)
          refine nameW (fun W hW => ?_)
          have hmb : W.heap[wr.heap.size]? = some (.cells #[.int .i64 mv, .int .i64 2, .int .i64 a2, .int .i64 a3, .int .i64 a4, .int .i64 a5, .int .i64 a6] 23 (0, 0)) := by rw [hW]; exact blkN wr _
          have hob : W.heap[w.heap.size + 1]? = some (.cells s.d.cells.toArray 35 (0, 0)) := by rw [hW]; exact blkA HO.out
          have hzb : W.heap[w.heap.size]? = some (.cells #[.int .i64 0, .int .i64 0, .int .i64 0, .int .i64 0, .int .i64 0, .int .i64 0, .int .i64 0] 35 (0, 0)) := by rw [hW]; exact blkA HZ.out
          have hbw : Below w.heap.size w W := by rw [hW]; exact BW.out.alloc (by omega) _
          have hrd : Rd EMsg W (some ad) l := by rw [hW]; exact (HR.out.below BW.out).alloc _
          have hsw : W.heap.size = wr.heap.size + 1 := by rw [hW, World.size_alloc]
          have hs2 : w.heap.size + 1 < W.heap.size := by rw [hsw]; omega
          clear hW hsw
          have o0 := (blk_cell hob 0).trans (show _ = some (.int .i64 s.d.mv) from rfl)
          have o1 := (blk_cell hob 1).trans (show _ = some (.int .i64 s.d.st) from rfl)
          have o2 := (blk_cell hob 2).trans (show _ = some (.int .i64 s.d.fr) from rfl)
          have o3 := (blk_cell hob 3).trans (show _ = some (.int .i64 s.d.tt) from rfl)
          have o4 := (blk_cell hob 4).trans (show _ = some (.int .i64 s.d.se) from rfl)
          have o5 := (blk_cell hob 5).trans (show _ = some (.int .i64 s.d.re) from rfl)
          have o6 := (blk_cell hob 6).trans (show _ = some (.int .i64 s.d.ch) from rfl)
          have hfz := fun j => blk_frozen hob j
          have m0 := (blk_cell hmb 0).trans (show _ = some (.int .i64 mv) from rfl)
          have m1 := (blk_cell hmb 1).trans (show _ = some (.int .i64 2) from rfl)
          have m2 := (blk_cell hmb 2).trans (show _ = some (.int .i64 a2) from rfl)
          have m3 := (blk_cell hmb 3).trans (show _ = some (.int .i64 a3) from rfl)
          have m4 := (blk_cell hmb 4).trans (show _ = some (.int .i64 a4) from rfl)
          have m5 := (blk_cell hmb 5).trans (show _ = some (.int .i64 a5) from rfl)
          have m6 := (blk_cell hmb 6).trans (show _ = some (.int .i64 a6) from rfl)
          have HMB := hid_of hmb
          have HOB := hid_of hob
          have HZB := hid_of hzb
          have HBW := hid_of hbw
          have HRD := hid_of hrd
          clear hmb hob hzb hbw hrd
          go_big_region
          go_wp2_with fail
          refine nameW (fun W2 hW2 => ?_)
          have f1 : W2.heap[w.heap.size]? = some (.cells #[.int .i64 0, .int .i64 0, .int .i64 0, .int .i64 0, .int .i64 0, .int .i64 0, .int .i64 0] 35 (0, 0)) := by rw [hW2]; (try unfold Hid); repeat (with_reducible first | exact HZB.out | apply blkD | apply blkDN | apply blkA | refine blkO ?_ (by simp <;> omega))
          have f2 : W2.heap[w.heap.size + 1]? = some (.cells ({ s.d with tt := a5, ch := s.d.ch + 1 } : Doc).cells.toArray 35 (0, 0)) := by rw [hW2]; exact blkD (blkS (blkS HOB.out))
          have f3 : Below w.heap.size w W2 := by rw [hW2]; (try unfold Hid); repeat (with_reducible first | exact HBW.out | apply Below.drew | apply below_drewN | (refine Below.alloc ?_ (by first | omega | (simp; omega)) _) | (refine Below.setCell ?_ (by simp <;> omega) _))
          have f4 : W2.heap[wr.heap.size]? = some (.cells #[.int .i64 mv, .int .i64 2, .int .i64 a2, .int .i64 a3, .int .i64 a4, .int .i64 a5, .int .i64 a6] 23 (0, 0)) := by rw [hW2]; (try unfold Hid); repeat (with_reducible first | exact HMB.out | apply blkD | apply blkDN | apply blkA | refine blkO ?_ (by simp <;> omega))
          have f5 : Rd EMsg W2 (some ad) l := HR.out.below f3
          have hs3 : W2.heap.size = W.heap.size := by rw [hW2]; simp
          have hs4 : w.heap.size + 1 < W2.heap.size := by omega
          clear hW2
          have F1 := hid_of f1
          have F2 := hid_of f2
          have F3 := hid_of f3
          have wrp : IntKind.i64.wrap ((k : Int) - 1) = ((k - 1 : Nat) : Int) := by rw [IntKind.wrap_i64]; omega
          have hkl : ((k - 1 : Nat) : Int) < (l.length : Int) := by omega
          have hkl2 : k - 1 < l.length := by omega
          obtain ⟨ad', had, d0, d1, d2, _, _, _, _⟩ := Msg.at_ f5 (k - 1) hkl2
          simp only [Option.some.injEq] at had
          subst had
          have g1 := (blk_cell f4 1).trans (show _ = some (.int .i64 2) from rfl)
          have g2 := (blk_cell f4 2).trans (show _ = some (.int .i64 a2) from rfl)
          generalize hy : l[k - 1] = y at d0 d1 d2
          have HY := hid_of hy
          have hcw : IntKind.i64.wrap (s.d.ch + 1) = s.d.ch + 1 := by rw [IntKind.wrap_i64]; omega
          clear hy f1 f2 f3 f4 f5 m0 m1 m2 m3 m4 m5 m6 o0 o1 o2 o3 o4 o5 o6 hfz
          obtain ⟨y0, y1, y2, y3, y4, y5, y6⟩ := y
          dsimp only at d0 d1 d2
          by_cases hcf : s.cf = true
          · have HCF := hid_of hcf
            go_wp2_with fail
            go_quiet (fail)
            go_wp2_with fail
            go_roundg (l.length - (k + 1))
            case measure => omega
            case rel =>
              refine ⟨k + 1, { s with d := { s.d with tt := a5, ch := s.d.ch + 1 }, cf := true }, by omega, Nat.le_refl _, by go_num, by go_num, by go_num, by go_num, by first | rfl | go_num, rfl, HST.out _ (by simp [rofStep, HY.out, HCF.out]), by (try unfold Hid); repeat (with_reducible first | exact F1.out | apply blkD | apply blkDN | apply blkA | refine blkO ?_ (by simp <;> omega)), by exact blkDN F2.out, by (try unfold Hid); repeat (with_reducible first | exact F3.out | apply Below.drew | apply below_drewN | (refine Below.alloc ?_ (by first | omega | (simp; omega)) _) | (refine Below.setCell ?_ (by simp <;> omega) _)), by exact hs4⟩
          · have hcf2 : s.cf = false := by simpa using hcf
            have HCF := hid_of hcf2
            clear hcf
            by_cases hy0 : y0 = mv
            · have hy0b : (y0 == mv) = true := by simpa using hy0
              have HY0 := hid_of hy0b
              clear hy0
              by_cases hy1 : y1 = 2
              · have hy1b : (y1 == 2) = true := by simpa using hy1
                have HY1 := hid_of hy1b
                subst hy1
                by_cases hy2 : y2 = a2
                · have hy2b : (y2 == a2) = true := by simpa using hy2
                  have HY2 := hid_of hy2b
                  clear hy2
                  go_wp2_with fail
                  go_quiet (fail)
                  go_wp2_with fail
                  go_roundg (l.length - (k + 1))
                  case measure => omega
                  case rel =>
                    refine ⟨k + 1, { s with d := { s.d with tt := a5, ch := s.d.ch + 1 }, cf := true }, by omega, Nat.le_refl _, by go_num, by go_num, by go_num, by go_num, by first | rfl | go_num, rfl, HST.out _ (by simp [rofStep, HY.out, HCF.out, HY0.out, HY2.out]), by (try unfold Hid); repeat (with_reducible first | exact F1.out | apply blkD | apply blkDN | apply blkA | refine blkO ?_ (by simp <;> omega)), by exact blkDN F2.out, by (try unfold Hid); repeat (with_reducible first | exact F3.out | apply Below.drew | apply below_drewN | (refine Below.alloc ?_ (by first | omega | (simp; omega)) _) | (refine Below.setCell ?_ (by simp <;> omega) _)), by exact hs4⟩
                · have hy2b : (y2 == a2) = false := by simpa using hy2
                  have HY2 := hid_of hy2b
                  clear hy2
                  go_wp2_with fail
                  go_quiet (fail)
                  go_wp2_with fail
                  go_roundg (l.length - (k + 1))
                  case measure => omega
                  case rel =>
                    refine ⟨k + 1, { s with d := { s.d with tt := a5, ch := s.d.ch + 1 }, cf := false }, by omega, Nat.le_refl _, by go_num, by go_num, by go_num, by go_num, by first | rfl | go_num, rfl, HST.out _ (by simp [rofStep, HY.out, HCF.out, HY0.out, HY2.out]), by (try unfold Hid); repeat (with_reducible first | exact F1.out | apply blkD | apply blkDN | apply blkA | refine blkO ?_ (by simp <;> omega)), by exact blkDN F2.out, by (try unfold Hid); repeat (with_reducible first | exact F3.out | apply Below.drew | apply below_drewN | (refine Below.alloc ?_ (by first | omega | (simp; omega)) _) | (refine Below.setCell ?_ (by simp <;> omega) _)), by exact hs4⟩
              · have hy1b : (y1 == 2) = false := by simpa using hy1
                have HY1 := hid_of hy1b
                clear hy1
                go_wp2_with fail
                go_quiet (fail)
                go_wp2_with fail
                go_roundg (l.length - (k + 1))
                case measure => omega
                case rel =>
                  refine ⟨k + 1, { s with d := { s.d with tt := a5, ch := s.d.ch + 1 }, cf := false }, by omega, Nat.le_refl _, by go_num, by go_num, by go_num, by go_num, by first | rfl | go_num, rfl, HST.out _ (by simp [rofStep, HY.out, HCF.out, HY0.out, HY1.out]), by (try unfold Hid); repeat (with_reducible first | exact F1.out | apply blkD | apply blkDN | apply blkA | refine blkO ?_ (by simp <;> omega)), by exact blkDN F2.out, by (try unfold Hid); repeat (with_reducible first | exact F3.out | apply Below.drew | apply below_drewN | (refine Below.alloc ?_ (by first | omega | (simp; omega)) _) | (refine Below.setCell ?_ (by simp <;> omega) _)), by exact hs4⟩
            · have hy0b : (y0 == mv) = false := by simpa using hy0
              have HY0 := hid_of hy0b
              clear hy0
              go_wp2_with fail
              go_quiet (fail)
              go_wp2_with fail
              go_roundg (l.length - (k + 1))
              case measure => omega
              case rel =>
                refine ⟨k + 1, { s with d := { s.d with tt := a5, ch := s.d.ch + 1 }, cf := false }, by omega, Nat.le_refl _, by go_num, by go_num, by go_num, by go_num, by first | rfl | go_num, rfl, HST.out _ (by simp [rofStep, HY.out, HCF.out, HY0.out]), by (try unfold Hid); repeat (with_reducible first | exact F1.out | apply blkD | apply blkDN | apply blkA | refine blkO ?_ (by simp <;> omega)), by exact blkDN F2.out, by (try unfold Hid); repeat (with_reducible first | exact F3.out | apply Below.drew | apply below_drewN | (refine Below.alloc ?_ (by first | omega | (simp; omega)) _) | (refine Below.setCell ?_ (by simp <;> omega) _)), by exact hs4⟩
        by_cases k3 : a1 = 3
        · subst k3
          go_upto_region 17 with (fail)
          refine nameW (fun W hW => ?_)
          have hmb : W.heap[wr.heap.size]? = some (.cells #[.int .i64 mv, .int .i64 3, .int .i64 a2, .int .i64 a3, .int .i64 a4, .int .i64 a5, .int .i64 a6] 23 (0, 0)) := by rw [hW]; exact blkN wr _
          have hob : W.heap[w.heap.size + 1]? = some (.cells s.d.cells.toArray 35 (0, 0)) := by rw [hW]; exact blkA HO.out
          have hzb : W.heap[w.heap.size]? = some (.cells #[.int .i64 0, .int .i64 0, .int .i64 0, .int .i64 0, .int .i64 0, .int .i64 0, .int .i64 0] 35 (0, 0)) := by rw [hW]; exact blkA HZ.out
          have hbw : Below w.heap.size w W := by rw [hW]; exact BW.out.alloc (by omega) _
          have hrd : Rd EMsg W (some ad) l := by rw [hW]; exact (HR.out.below BW.out).alloc _
          have hsw : W.heap.size = wr.heap.size + 1 := by rw [hW, World.size_alloc]
          have hs2 : w.heap.size + 1 < W.heap.size := by rw [hsw]; omega
          clear hW hsw
          have o0 := (blk_cell hob 0).trans (show _ = some (.int .i64 s.d.mv) from rfl)
          have o1 := (blk_cell hob 1).trans (show _ = some (.int .i64 s.d.st) from rfl)
          have o2 := (blk_cell hob 2).trans (show _ = some (.int .i64 s.d.fr) from rfl)
          have o3 := (blk_cell hob 3).trans (show _ = some (.int .i64 s.d.tt) from rfl)
          have o4 := (blk_cell hob 4).trans (show _ = some (.int .i64 s.d.se) from rfl)
          have o5 := (blk_cell hob 5).trans (show _ = some (.int .i64 s.d.re) from rfl)
          have o6 := (blk_cell hob 6).trans (show _ = some (.int .i64 s.d.ch) from rfl)
          have hfz := fun j => blk_frozen hob j
          have m0 := (blk_cell hmb 0).trans (show _ = some (.int .i64 mv) from rfl)
          have m1 := (blk_cell hmb 1).trans (show _ = some (.int .i64 3) from rfl)
          have m2 := (blk_cell hmb 2).trans (show _ = some (.int .i64 a2) from rfl)
          have m3 := (blk_cell hmb 3).trans (show _ = some (.int .i64 a3) from rfl)
          have m4 := (blk_cell hmb 4).trans (show _ = some (.int .i64 a4) from rfl)
          have m5 := (blk_cell hmb 5).trans (show _ = some (.int .i64 a5) from rfl)
          have m6 := (blk_cell hmb 6).trans (show _ = some (.int .i64 a6) from rfl)
          have HMB := hid_of hmb
          have HOB := hid_of hob
          have HZB := hid_of hzb
          have HBW := hid_of hbw
          have HRD := hid_of hrd
          clear hmb hob hzb hbw hrd
          go_big_region
          go_wp2_with fail
          go_roundg (l.length - (k + 1))
          case measure => omega
          case rel =>
            refine ⟨k + 1, { s with d := { s.d with re := a6 }, an := s.an + 1 }, by omega, Nat.le_refl _, by go_num, by go_num, by go_num, by go_num, by first | rfl | go_num, rfl, HST.out _ (by simp [rofStep]), by (try unfold Hid); repeat (with_reducible first | exact HZB.out | apply blkD | apply blkDN | apply blkA | refine blkO ?_ (by simp <;> omega)), by exact blkD (blkS HOB.out), by (try unfold Hid); repeat (with_reducible first | exact HBW.out | apply Below.drew | apply below_drewN | (refine Below.alloc ?_ (by first | omega | (simp; omega)) _) | (refine Below.setCell ?_ (by simp <;> omega) _)), by simp; omega⟩
        by_cases k4 : a1 = 4
        · subst k4
          go_wp2_with fail
          go_roundg (l.length - (k + 1))
          case measure => omega
          case rel =>
            refine ⟨k + 1, { s with an := s.an + 1, rf := true }, by omega, Nat.le_refl _, by go_num, by go_num, by go_num, by go_num, by first | rfl | go_num, rfl, HST.out _ (by simp [rofStep]), by exact blkA HZ.out, by exact blkA HO.out, by exact BW.out.alloc (by omega) _, by simp; omega⟩
        have K1 := hid_of k1
        have e1 : (a1 == 1) = false := by simpa using k1
        have K2 := hid_of k2
        have e2 : (a1 == 2) = false := by simpa using k2
        have K3 := hid_of k3
        have e3 : (a1 == 3) = false := by simpa using k3
        have K4 := hid_of k4
        have e4 : (a1 == 4) = false := by simpa using k4
        clear k1 k2 k3 k4
        go_wp2_with fail
        go_roundg (l.length - (k + 1))
        case measure => omega
        case rel =>
          refine ⟨k + 1, { s with en := s.en + 1 }, by omega, Nat.le_refl _, by go_num, by go_num, by go_num, by go_num, by first | rfl | go_num, rfl, HST.out _ (by simp [rofStep, K1.out, K2.out, K3.out, K4.out]), by exact blkA HZ.out, by exact blkA HO.out, by exact BW.out.alloc (by omega) _, by simp; omega⟩
      · have hmv1 : (a0 != mv) = true := by simpa using hmv
        have HNE := hid_of hmv
        clear hmv
        go_wp2_with fail
        go_roundg (l.length - (k + 1))
        case measure => omega
        case rel =>
          refine ⟨k + 1, s, by omega, Nat.le_refl _, by go_num, rfl, rfl, rfl, rfl, rfl, HST.out _ (by simp [rofStep, HNE.out]), blkA HZ.out, blkA HO.out, BW.out.alloc (by omega) _, by simp; omega⟩
    · have hkl : k = l.length := by omega
      subst hkl
      have hr := HG.out
      rw [← HS.out] at hr
      have HG2 := hid_of hr
      clear hr hlt HS HG
      have z0 := (blk_cell HZ.out 0).trans (show _ = some (.int .i64 0) from rfl)
      have z1 := (blk_cell HZ.out 1).trans (show _ = some (.int .i64 0) from rfl)
      have z2 := (blk_cell HZ.out 2).trans (show _ = some (.int .i64 0) from rfl)
      have z3 := (blk_cell HZ.out 3).trans (show _ = some (.int .i64 0) from rfl)
      have z4 := (blk_cell HZ.out 4).trans (show _ = some (.int .i64 0) from rfl)
      have z5 := (blk_cell HZ.out 5).trans (show _ = some (.int .i64 0) from rfl)
      have z6 := (blk_cell HZ.out 6).trans (show _ = some (.int .i64 0) from rfl)
      have z7 := fun j => blk_frozen HZ.out j
      have o0 := (blk_cell HO.out 0).trans (show _ = some (.int .i64 s.d.mv) from rfl)
      have o1 := (blk_cell HO.out 1).trans (show _ = some (.int .i64 s.d.st) from rfl)
      have o2 := (blk_cell HO.out 2).trans (show _ = some (.int .i64 s.d.fr) from rfl)
      have o3 := (blk_cell HO.out 3).trans (show _ = some (.int .i64 s.d.tt) from rfl)
      have o4 := (blk_cell HO.out 4).trans (show _ = some (.int .i64 s.d.se) from rfl)
      have o5 := (blk_cell HO.out 5).trans (show _ = some (.int .i64 s.d.re) from rfl)
      have o6 := (blk_cell HO.out 6).trans (show _ = some (.int .i64 s.d.ch) from rfl)
      have o7 := fun j => blk_frozen HO.out j
      by_cases e0 : s.di = 0
      · have E0 := hid_of e0
        go_wp2_with fail
        all_goals refine bodyPost_ret (v := .agg #[.int .i64 mv, .int .i64 0, .int .i64 0, .int .i64 0, .int .i64 0, .int .i64 0, .int .i64 0]) (by simp [results, Try.results47, go_sem, z0, z1, z2, z3, z4, z5, z6, z7, o0, o1, o2, o3, o4, o5, o6, o7]) rfl ⟨by rw [HG2.out, rofEnd_none E0.out], by (try unfold Hid); repeat (with_reducible first | exact BW.out | apply Below.drew | apply below_drewN | (refine Below.alloc ?_ (by first | omega | (simp; omega)) _) | (refine Below.setCell ?_ (by simp <;> omega) _))⟩
      have E0 := hid_of e0
      have e0b : (s.di == 0) = false := by simpa using e0
      clear e0
      by_cases e1 : s.cf = true
      · have E1 := hid_of e1
        go_wp2_with fail
        all_goals refine bodyPost_ret (v := .agg #[.int .i64 mv, .int .i64 5, .int .i64 0, .int .i64 0, .int .i64 0, .int .i64 0, .int .i64 0]) (by simp [results, Try.results47, go_sem, z0, z1, z2, z3, z4, z5, z6, z7, o0, o1, o2, o3, o4, o5, o6, o7]) rfl ⟨by rw [HG2.out, rofEnd_conf E0.out (.inl E1.out)], by (try unfold Hid); repeat (with_reducible first | exact BW.out | apply Below.drew | apply below_drewN | (refine Below.alloc ?_ (by first | omega | (simp; omega)) _) | (refine Below.setCell ?_ (by simp <;> omega) _))⟩
      have e1b : s.cf = false := by simpa using e1
      have E1 := hid_of e1b
      clear e1
      by_cases e2 : 1 < s.di
      · have E2 := hid_of e2
        go_wp2_with fail
        all_goals refine bodyPost_ret (v := .agg #[.int .i64 mv, .int .i64 5, .int .i64 0, .int .i64 0, .int .i64 0, .int .i64 0, .int .i64 0]) (by simp [results, Try.results47, go_sem, z0, z1, z2, z3, z4, z5, z6, z7, o0, o1, o2, o3, o4, o5, o6, o7]) rfl ⟨by rw [HG2.out, rofEnd_conf E0.out (.inr (.inl E2.out))], by (try unfold Hid); repeat (with_reducible first | exact BW.out | apply Below.drew | apply below_drewN | (refine Below.alloc ?_ (by first | omega | (simp; omega)) _) | (refine Below.setCell ?_ (by simp <;> omega) _))⟩
      have E2 := hid_of e2
      by_cases e3 : 1 < s.an
      · have E3 := hid_of e3
        go_wp2_with fail
        all_goals refine bodyPost_ret (v := .agg #[.int .i64 mv, .int .i64 5, .int .i64 0, .int .i64 0, .int .i64 0, .int .i64 0, .int .i64 0]) (by simp [results, Try.results47, go_sem, z0, z1, z2, z3, z4, z5, z6, z7, o0, o1, o2, o3, o4, o5, o6, o7]) rfl ⟨by rw [HG2.out, rofEnd_conf E0.out (.inr (.inr E3.out))], by (try unfold Hid); repeat (with_reducible first | exact BW.out | apply Below.drew | apply below_drewN | (refine Below.alloc ?_ (by first | omega | (simp; omega)) _) | (refine Below.setCell ?_ (by simp <;> omega) _))⟩
      have E3 := hid_of e3
      by_cases e4 : s.an = 1
      · have E4 := hid_of e4
        have e4b : (s.an == 1) = true := by simpa using e4
        clear e4
        go_upto_region 26 with (fail)
        refine nameW (fun W3 hW3 => ?_)
        have f1 : W3.heap[w.heap.size]? = some (.cells #[.int .i64 0, .int .i64 0, .int .i64 0, .int .i64 0, .int .i64 0, .int .i64 0, .int .i64 0] 35 (0, 0)) := by rw [hW3]; exact blkO HZ.out (by simp)
        have f2 : W3.heap[w.heap.size + 1]? = some (.cells #[.int .i64 (s.d.mv), .int .i64 1, .int .i64 (s.d.fr), .int .i64 (s.d.tt), .int .i64 (s.d.se), .int .i64 (s.d.re), .int .i64 (s.d.ch)] 35 (0, 0)) := by rw [hW3]; exact blkS HO.out
        have f3 : Below w.heap.size w W3 := by rw [hW3]; exact BW.out.setCell (p := ⟨w.heap.size + 1, 1, none⟩) (by simp) _
        replace hsz : w.heap.size + 1 < W3.heap.size := by rw [hW3]; simpa using hsz
        clear hW3 z0 z1 z2 z3 z4 z5 z6 z7 o0 o1 o2 o3 o4 o5 o6 o7
        replace HZ := hid_of f1
        replace HO := hid_of f2
        replace BW := hid_of f3
        clear f1 f2 f3
        have z0 := (blk_cell HZ.out 0).trans (show _ = some (.int .i64 0) from rfl)
        have z1 := (blk_cell HZ.out 1).trans (show _ = some (.int .i64 0) from rfl)
        have z2 := (blk_cell HZ.out 2).trans (show _ = some (.int .i64 0) from rfl)
        have z3 := (blk_cell HZ.out 3).trans (show _ = some (.int .i64 0) from rfl)
        have z4 := (blk_cell HZ.out 4).trans (show _ = some (.int .i64 0) from rfl)
        have z5 := (blk_cell HZ.out 5).trans (show _ = some (.int .i64 0) from rfl)
        have z6 := (blk_cell HZ.out 6).trans (show _ = some (.int .i64 0) from rfl)
        have z7 := fun j => blk_frozen HZ.out j
        have o0 := (blk_cell HO.out 0).trans (show _ = some (.int .i64 s.d.mv) from rfl)
        have o1 := (blk_cell HO.out 1).trans (show _ = some (.int .i64 1) from rfl)
        have o2 := (blk_cell HO.out 2).trans (show _ = some (.int .i64 s.d.fr) from rfl)
        have o3 := (blk_cell HO.out 3).trans (show _ = some (.int .i64 s.d.tt) from rfl)
        have o4 := (blk_cell HO.out 4).trans (show _ = some (.int .i64 s.d.se) from rfl)
        have o5 := (blk_cell HO.out 5).trans (show _ = some (.int .i64 s.d.re) from rfl)
        have o6 := (blk_cell HO.out 6).trans (show _ = some (.int .i64 s.d.ch) from rfl)
        have o7 := fun j => blk_frozen HO.out j
        generalize hrf : s.rf = rf
        have E6 := hid_of hrf
        clear hrf
        cases rf with
        | true =>
          go_upto_region 28 with (fail)
          refine nameW (fun W3 hW3 => ?_)
          have f1 : W3.heap[w.heap.size]? = some (.cells #[.int .i64 0, .int .i64 0, .int .i64 0, .int .i64 0, .int .i64 0, .int .i64 0, .int .i64 0] 35 (0, 0)) := by rw [hW3]; exact blkO HZ.out (by simp)
          have f2 : W3.heap[w.heap.size + 1]? = some (.cells #[.int .i64 (s.d.mv), .int .i64 2, .int .i64 (s.d.fr), .int .i64 (s.d.tt), .int .i64 (s.d.se), .int .i64 (s.d.re), .int .i64 (s.d.ch)] 35 (0, 0)) := by rw [hW3]; exact blkS HO.out
          have f3 : Below w.heap.size w W3 := by rw [hW3]; exact BW.out.setCell (p := ⟨w.heap.size + 1, 1, none⟩) (by simp) _
          replace hsz : w.heap.size + 1 < W3.heap.size := by rw [hW3]; simpa using hsz
          clear hW3 z0 z1 z2 z3 z4 z5 z6 z7 o0 o1 o2 o3 o4 o5 o6 o7
          replace HZ := hid_of f1
          replace HO := hid_of f2
          replace BW := hid_of f3
          clear f1 f2 f3
          have z0 := (blk_cell HZ.out 0).trans (show _ = some (.int .i64 0) from rfl)
          have z1 := (blk_cell HZ.out 1).trans (show _ = some (.int .i64 0) from rfl)
          have z2 := (blk_cell HZ.out 2).trans (show _ = some (.int .i64 0) from rfl)
          have z3 := (blk_cell HZ.out 3).trans (show _ = some (.int .i64 0) from rfl)
          have z4 := (blk_cell HZ.out 4).trans (show _ = some (.int .i64 0) from rfl)
          have z5 := (blk_cell HZ.out 5).trans (show _ = some (.int .i64 0) from rfl)
          have z6 := (blk_cell HZ.out 6).trans (show _ = some (.int .i64 0) from rfl)
          have z7 := fun j => blk_frozen HZ.out j
          have o0 := (blk_cell HO.out 0).trans (show _ = some (.int .i64 s.d.mv) from rfl)
          have o1 := (blk_cell HO.out 1).trans (show _ = some (.int .i64 2) from rfl)
          have o2 := (blk_cell HO.out 2).trans (show _ = some (.int .i64 s.d.fr) from rfl)
          have o3 := (blk_cell HO.out 3).trans (show _ = some (.int .i64 s.d.tt) from rfl)
          have o4 := (blk_cell HO.out 4).trans (show _ = some (.int .i64 s.d.se) from rfl)
          have o5 := (blk_cell HO.out 5).trans (show _ = some (.int .i64 s.d.re) from rfl)
          have o6 := (blk_cell HO.out 6).trans (show _ = some (.int .i64 s.d.ch) from rfl)
          have o7 := fun j => blk_frozen HO.out j
          go_upto_region 29 with (fail)
          refine nameW (fun W3 hW3 => ?_)
          have f1 : W3.heap[w.heap.size]? = some (.cells #[.int .i64 0, .int .i64 0, .int .i64 0, .int .i64 0, .int .i64 0, .int .i64 0, .int .i64 0] 35 (0, 0)) := by rw [hW3]; exact blkO HZ.out (by simp)
          have f2 : W3.heap[w.heap.size + 1]? = some (.cells #[.int .i64 (s.d.mv), .int .i64 3, .int .i64 (s.d.fr), .int .i64 (s.d.tt), .int .i64 (s.d.se), .int .i64 (s.d.re), .int .i64 (s.d.ch)] 35 (0, 0)) := by rw [hW3]; exact blkS HO.out
          have f3 : Below w.heap.size w W3 := by rw [hW3]; exact BW.out.setCell (p := ⟨w.heap.size + 1, 1, none⟩) (by simp) _
          replace hsz : w.heap.size + 1 < W3.heap.size := by rw [hW3]; simpa using hsz
          clear hW3 z0 z1 z2 z3 z4 z5 z6 z7 o0 o1 o2 o3 o4 o5 o6 o7
          replace HZ := hid_of f1
          replace HO := hid_of f2
          replace BW := hid_of f3
          clear f1 f2 f3
          have z0 := (blk_cell HZ.out 0).trans (show _ = some (.int .i64 0) from rfl)
          have z1 := (blk_cell HZ.out 1).trans (show _ = some (.int .i64 0) from rfl)
          have z2 := (blk_cell HZ.out 2).trans (show _ = some (.int .i64 0) from rfl)
          have z3 := (blk_cell HZ.out 3).trans (show _ = some (.int .i64 0) from rfl)
          have z4 := (blk_cell HZ.out 4).trans (show _ = some (.int .i64 0) from rfl)
          have z5 := (blk_cell HZ.out 5).trans (show _ = some (.int .i64 0) from rfl)
          have z6 := (blk_cell HZ.out 6).trans (show _ = some (.int .i64 0) from rfl)
          have z7 := fun j => blk_frozen HZ.out j
          have o0 := (blk_cell HO.out 0).trans (show _ = some (.int .i64 s.d.mv) from rfl)
          have o1 := (blk_cell HO.out 1).trans (show _ = some (.int .i64 3) from rfl)
          have o2 := (blk_cell HO.out 2).trans (show _ = some (.int .i64 s.d.fr) from rfl)
          have o3 := (blk_cell HO.out 3).trans (show _ = some (.int .i64 s.d.tt) from rfl)
          have o4 := (blk_cell HO.out 4).trans (show _ = some (.int .i64 s.d.se) from rfl)
          have o5 := (blk_cell HO.out 5).trans (show _ = some (.int .i64 s.d.re) from rfl)
          have o6 := (blk_cell HO.out 6).trans (show _ = some (.int .i64 s.d.ch) from rfl)
          have o7 := fun j => blk_frozen HO.out j
          by_cases e5 : 0 < s.en
          · have E5 := hid_of e5
            go_wp2_with fail
            all_goals refine bodyPost_ret (v := .agg #[.int .i64 (s.d.mv), .int .i64 4, .int .i64 (s.d.fr), .int .i64 (s.d.tt), .int .i64 (s.d.se), .int .i64 (s.d.re), .int .i64 (s.d.ch)]) (by simp [results, Try.results47, go_sem, z0, z1, z2, z3, z4, z5, z6, z7, o0, o1, o2, o3, o4, o5, o6, o7]) rfl ⟨by rw [HG2.out, rofEnd_ans E0.out E1.out (by have := E2.out; omega) E4.out, if_pos E5.out], by (try unfold Hid); repeat (with_reducible first | exact BW.out | apply Below.drew | apply below_drewN | (refine Below.alloc ?_ (by first | omega | (simp; omega)) _) | (refine Below.setCell ?_ (by simp <;> omega) _))⟩
          · have E5 := hid_of e5
            go_wp2_with fail
            all_goals refine bodyPost_ret (v := .agg #[.int .i64 (s.d.mv), .int .i64 3, .int .i64 (s.d.fr), .int .i64 (s.d.tt), .int .i64 (s.d.se), .int .i64 (s.d.re), .int .i64 (s.d.ch)]) (by simp [results, Try.results47, go_sem, z0, z1, z2, z3, z4, z5, z6, z7, o0, o1, o2, o3, o4, o5, o6, o7]) rfl ⟨by rw [HG2.out, rofEnd_ans E0.out E1.out (by have := E2.out; omega) E4.out, if_neg (by have := E5.out; omega), if_pos E6.out], by (try unfold Hid); repeat (with_reducible first | exact BW.out | apply Below.drew | apply below_drewN | (refine Below.alloc ?_ (by first | omega | (simp; omega)) _) | (refine Below.setCell ?_ (by simp <;> omega) _))⟩
        | false =>
          go_upto_region 29 with (fail)
          refine nameW (fun W3 hW3 => ?_)
          have f1 : W3.heap[w.heap.size]? = some (.cells #[.int .i64 0, .int .i64 0, .int .i64 0, .int .i64 0, .int .i64 0, .int .i64 0, .int .i64 0] 35 (0, 0)) := by rw [hW3]; exact blkO HZ.out (by simp)
          have f2 : W3.heap[w.heap.size + 1]? = some (.cells #[.int .i64 (s.d.mv), .int .i64 2, .int .i64 (s.d.fr), .int .i64 (s.d.tt), .int .i64 (s.d.se), .int .i64 (s.d.re), .int .i64 (s.d.ch)] 35 (0, 0)) := by rw [hW3]; exact blkS HO.out
          have f3 : Below w.heap.size w W3 := by rw [hW3]; exact BW.out.setCell (p := ⟨w.heap.size + 1, 1, none⟩) (by simp) _
          replace hsz : w.heap.size + 1 < W3.heap.size := by rw [hW3]; simpa using hsz
          clear hW3 z0 z1 z2 z3 z4 z5 z6 z7 o0 o1 o2 o3 o4 o5 o6 o7
          replace HZ := hid_of f1
          replace HO := hid_of f2
          replace BW := hid_of f3
          clear f1 f2 f3
          have z0 := (blk_cell HZ.out 0).trans (show _ = some (.int .i64 0) from rfl)
          have z1 := (blk_cell HZ.out 1).trans (show _ = some (.int .i64 0) from rfl)
          have z2 := (blk_cell HZ.out 2).trans (show _ = some (.int .i64 0) from rfl)
          have z3 := (blk_cell HZ.out 3).trans (show _ = some (.int .i64 0) from rfl)
          have z4 := (blk_cell HZ.out 4).trans (show _ = some (.int .i64 0) from rfl)
          have z5 := (blk_cell HZ.out 5).trans (show _ = some (.int .i64 0) from rfl)
          have z6 := (blk_cell HZ.out 6).trans (show _ = some (.int .i64 0) from rfl)
          have z7 := fun j => blk_frozen HZ.out j
          have o0 := (blk_cell HO.out 0).trans (show _ = some (.int .i64 s.d.mv) from rfl)
          have o1 := (blk_cell HO.out 1).trans (show _ = some (.int .i64 2) from rfl)
          have o2 := (blk_cell HO.out 2).trans (show _ = some (.int .i64 s.d.fr) from rfl)
          have o3 := (blk_cell HO.out 3).trans (show _ = some (.int .i64 s.d.tt) from rfl)
          have o4 := (blk_cell HO.out 4).trans (show _ = some (.int .i64 s.d.se) from rfl)
          have o5 := (blk_cell HO.out 5).trans (show _ = some (.int .i64 s.d.re) from rfl)
          have o6 := (blk_cell HO.out 6).trans (show _ = some (.int .i64 s.d.ch) from rfl)
          have o7 := fun j => blk_frozen HO.out j
          by_cases e5 : 0 < s.en
          · have E5 := hid_of e5
            go_wp2_with fail
            all_goals refine bodyPost_ret (v := .agg #[.int .i64 (s.d.mv), .int .i64 4, .int .i64 (s.d.fr), .int .i64 (s.d.tt), .int .i64 (s.d.se), .int .i64 (s.d.re), .int .i64 (s.d.ch)]) (by simp [results, Try.results47, go_sem, z0, z1, z2, z3, z4, z5, z6, z7, o0, o1, o2, o3, o4, o5, o6, o7]) rfl ⟨by rw [HG2.out, rofEnd_ans E0.out E1.out (by have := E2.out; omega) E4.out, if_pos E5.out], by (try unfold Hid); repeat (with_reducible first | exact BW.out | apply Below.drew | apply below_drewN | (refine Below.alloc ?_ (by first | omega | (simp; omega)) _) | (refine Below.setCell ?_ (by simp <;> omega) _))⟩
          · have E5 := hid_of e5
            go_wp2_with fail
            all_goals refine bodyPost_ret (v := .agg #[.int .i64 (s.d.mv), .int .i64 2, .int .i64 (s.d.fr), .int .i64 (s.d.tt), .int .i64 (s.d.se), .int .i64 (s.d.re), .int .i64 (s.d.ch)]) (by simp [results, Try.results47, go_sem, z0, z1, z2, z3, z4, z5, z6, z7, o0, o1, o2, o3, o4, o5, o6, o7]) rfl ⟨by rw [HG2.out, rofEnd_ans E0.out E1.out (by have := E2.out; omega) E4.out, if_neg (by have := E5.out; omega), if_neg (by rw [E6.out]; simp)], by (try unfold Hid); repeat (with_reducible first | exact BW.out | apply Below.drew | apply below_drewN | (refine Below.alloc ?_ (by first | omega | (simp; omega)) _) | (refine Below.setCell ?_ (by simp <;> omega) _))⟩
      · have E4 := hid_of e4
        have e4b : (s.an == 1) = false := by simpa using e4
        clear e4
        go_wp2_with fail
        all_goals refine bodyPost_ret (v := .agg #[.int .i64 (s.d.mv), .int .i64 1, .int .i64 (s.d.fr), .int .i64 (s.d.tt), .int .i64 (s.d.se), .int .i64 (s.d.re), .int .i64 (s.d.ch)]) (by simp [results, Try.results47, go_sem, z0, z1, z2, z3, z4, z5, z6, z7, o0, o1, o2, o3, o4, o5, o6, o7]) rfl ⟨by rw [HG2.out, rofEnd_sent E0.out E1.out (by have := E2.out; omega) (by have := E3.out; omega) E4.out], by (try unfold Hid); repeat (with_reducible first | exact BW.out | apply Below.drew | apply below_drewN | (refine Below.alloc ?_ (by first | omega | (simp; omega)) _) | (refine Below.setCell ?_ (by simp <;> omega) _))⟩

end Go.Proofs.Ytgcnklnhambpjaa
