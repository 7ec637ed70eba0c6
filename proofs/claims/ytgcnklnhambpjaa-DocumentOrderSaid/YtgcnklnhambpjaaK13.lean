/- Joined texts of the seat: contracts and plain laws that the rows import. -/
import Derived.Test.YtgcnklnhambpjaaK12
import Derived.Test.YtgcnklnhambpjaaK8
import Derived.Test.YtgcnklnhambpjaaK9
set_option linter.unusedVariables false
set_option linter.unusedSimpArgs false
/- DocumentOrder returns true. -/
namespace Go.Proofs.Ytgcnklnhambpjaa
open Go.RowKit
theorem tmod_nat (n m : Nat) : Int.tmod (n : Int) (m : Int) = ((n % m : Nat) : Int) := (Int.ofNat_tmod n m).symm
set_option maxHeartbeats 8000000 in
set_option maxRecDepth 100000 in
theorem lorder_any (l : List Msg) (A : Option Addr) (c : Nat) (os : List Nat) (B : Option Addr) (d : Nat) (hP : ∀ x ∈ os, x ≤ 255) (w : World) (hR1 : Rd EMsg w A l) (hR2 : Rd EU w B os) : Calls Try.prog 9 #[.slice A l.length c, .slice B os.length d] w (LatPost true w) := by
  unfold LatPost
  have hle1 := hR1.le
  have hle2 := hR2.le
  by_cases hs : l.length ≤ 16 ∧ os.length ≤ 16
  · obtain ⟨hs1, hs2⟩ := hs
    have hs1' : ¬ ((l.length : Int) > 16) := by omega
    have hs2' : ¬ ((os.length : Int) > 16) := by omega
    have hcl := fun W (h : Below w.heap.size w W) => cloneM l A c W (hR1.below h) (by omega)
    have ha := fun A c W (h : Rd EMsg W A l) => allT_any l A c W h
    have hn := fun A c W (h : Rd EMsg W A l) => normal_any l A c W h
    have ha2 : ∀ m : List Msg, OrdI l os.length m → ∀ A c W, Rd EMsg W A m → Calls Try.prog 20 #[.slice A m.length c] W (Made2 EDoc 35 (allP l).1 (allP l).2 W) := fun m h A c W h' => by
      have h2 := allT_any m A c W h'
      rw [allP_same (l := l) (m := m) (by omega) (by have := h.len; omega) h.mem] at h2
      exact h2
    have hn2 : ∀ m : List Msg, OrdI l os.length m → ∀ A c W, Rd EMsg W A m → Calls Try.prog 12 #[.slice A m.length c] W (Made2 EMsg 23 (normR l).1 (normR l).2 W) := fun m h A c W h' => by
      have h2 := normal_any m A c W h'
      rw [normR_same (l := l) (m := m) (by omega) (by have := h.len; omega) h.mem] at h2
      exact h2
    unfold Made2 at ha hn ha2 hn2
    unfold Made at hcl
    generalize allP l = q1 at ha ha2
    generalize normR l = q2 at hn hn2
    obtain ⟨ds, e1⟩ := q1
    obtain ⟨ns, e2⟩ := q2
    dsimp only at ha hn ha2 hn2
    have R1 := hid_of hR1
    have R2 := hid_of hR2
    have HP := hid_of hP
    have HCL := hid_of hcl
    have HA := hid_of ha
    have HN := hid_of hn
    have HA2 := hid_of ha2
    have HN2 := hid_of hn2
    have HS1 := hid_of hs1
    have HS2 := hid_of hs2
    clear hR1 hR2 hcl ha hn ha2 hn2 hs1 hs2 hP
    go_enter Try.func9, Try.ntmps9
    go_wp2_with fail
    refine (awake_any _).mono ?_
    rintro e w1 ⟨rfl, hb⟩
    have HB := hid_of hb
    clear hb
    go_wp2_with fail
    refine (HCL.out w1 HB.out).mono ?_
    rintro e w2 ⟨v, rfl, hO, hb⟩
    have hrv := reverseM l v w.heap.size w2 (hO.lower HB.out.size) (Nat.le_trans HB.out.size hb.size)
    replace HB := hid_of (below_then HB.out HB.out.size hb)
    clear hO hb
    go_wp2_with fail
    refine hrv.mono ?_
    rintro e w3 ⟨rfl, hO, hb⟩
    have HO := hid_of hO
    replace HB := hid_of (HB.out.trans hb)
    clear hrv hO hb
    go_wp2_with fail
    go_loopg [5, 7, 8, 33] os.length (fun gg s5 _ _ s33 wr => ∃ (k : Nat) (ms : List Msg), k ≤ os.length ∧ os.length - k ≤ gg ∧ s33 = .int .i64 k ∧ Hid (OrdI l k ms) ∧ Hid (Own EMsg 23 wr w.heap.size s5 ms) ∧ Hid (Below w.heap.size w wr))
    case atStart => exact ⟨0, _, Nat.zero_le _, by omega, rfl, OrdI.start l, HO.out, HB.out⟩
    case round =>
      obtain ⟨k, ms, hk, hg, rfl, HI, HO, BW⟩ := hrel
      by_cases hlt : k < os.length
      · obtain ⟨ad, hA, c0⟩ := U.at_ (R2.out.below BW.out) k hlt
        subst hA
        have hp := HP.out os[k] (List.getElem_mem hlt)
        generalize os[k] = n at c0 hp
        have hml := HI.out.len
        have hl16 := HS1.out
        have ho16 := HS2.out
        by_cases hl0 : l.length = 0
        · have hl0' : ¬ ((l.length : Int) > 0) := by omega
          clear hl0
          go_wp2_with fail
          go_roundg (os.length - (k + 1))
          case measure => omega
          case rel => exact ⟨k + 1, ms, by omega, Nat.le_refl _, by go_num, HI.out.skip, HO.out, BW.out⟩
        · have hl0' : (l.length : Int) > 0 := by omega
          obtain ⟨Am, cm, rfl, hcap, _⟩ := HO.out.rd
          have hm1 : n % l.length < l.length := Nat.mod_lt _ (by omega)
          obtain ⟨ad2, hA2, d0, d1, d2, d3, d4, d5, d6⟩ := Msg.at_ (R1.out.below BW.out) (n % l.length) hm1
          subst hA2
          have hmem : l[n % l.length] ∈ l := List.getElem_mem hm1
          generalize l[n % l.length] = x at d0 d1 d2 d3 d4 d5 d6 hmem
          have hat : n % (ms.length + 1) ≤ ms.length := by have := Nat.mod_lt n (show 0 < ms.length + 1 by omega); omega
          have hblk := blkN wr (.cells #[.int .i64 x.mv, .int .i64 x.kd, .int .i64 x.nu, .int .i64 x.dy, .int .i64 x.fr, .int .i64 x.tt, .int .i64 x.al] 23)
          have hins := insertM ms x (n % (ms.length + 1)) (.slice Am ms.length cm) w.heap.size wr.heap.size (wr.alloc (.cells #[.int .i64 x.mv, .int .i64 x.kd, .int .i64 x.nu, .int .i64 x.dy, .int .i64 x.fr, .int .i64 x.tt, .int .i64 x.al] 23)) (HO.out.alloc _) hat (by omega) (by have := BW.out.size; simp; omega) (fun k h => by have := (HO.out.block k h).2; omega) hblk
          have htm1 := tmod_nat n (ms.length + 1)
          have htm2 := tmod_nat n l.length
          have hat0 : IntKind.i64.wrap (n : Int) = (n : Int) := by rw [IntKind.wrap_i64]; omega
          have hat1 : IntKind.i64.wrap ((ms.length : Int) + 1) = ((ms.length + 1 : Nat) : Int) := by rw [IntKind.wrap_i64]; omega
          have hat2 : IntKind.i64.wrap ((n % (ms.length + 1) : Nat) : Int) = ((n % (ms.length + 1) : Nat) : Int) := by rw [IntKind.wrap_i64]; omega
          have hat3 : IntKind.i64.wrap ((n % l.length : Nat) : Int) = ((n % l.length : Nat) : Int) := by rw [IntKind.wrap_i64]; omega
          have hne1 : ¬ (((ms.length + 1 : Nat) : Int) = 0) := by omega
          have hne2 : ¬ ((l.length : Int) = 0) := by omega
          have HMEM := hid_of hmem
          have HAT := hid_of hat
          have hic : ((n % (ms.length + 1) : Nat) : Int) = (n : Int) % ((ms.length : Int) + 1) := by simp
          rw [hic] at hins
          have HINS := hid_of hins
          clear hmem hat hins hl0 hblk
          clear hic
          go_wp2_with fail
          refine HINS.out.mono ?_
          rintro e w4 ⟨v', rfl, hO, hb⟩
          have HO2 := hid_of hO
          have HB2 := hid_of ((BW.out.alloc BW.out.size _).trans hb)
          clear hO hb HINS
          go_wp2_with fail
          go_roundg (os.length - (k + 1))
          case measure => omega
          case rel => exact ⟨k + 1, _, by omega, Nat.le_refl _, by go_num, HI.out.put _ x HMEM.out, HO2.out, HB2.out⟩
      · have hkl : k = os.length := by omega
        subst hkl
        obtain ⟨Am, cm, rfl, hcap, hRm⟩ := HO.out.rd
        have RM := hid_of hRm
        replace HB := BW
        have hm56 : ms.length * 56 ≤ 140737488355328 := by have := HI.out.len; have := HS1.out; have := HS2.out; omega
        have ha2 := HA2.out ms HI.out
        have hn2 := HN2.out ms HI.out
        have HA3 := hid_of ha2
        have HN3 := hid_of hn2
        clear hRm BW HO ha2 hn2 HA2 HN2
        go_wp2_with fail
        refine (HCL.out wr HB.out).mono ?_
        rintro e w11 ⟨v, rfl, hO, hb⟩
        obtain ⟨Aa, ca, rfl, _, hR⟩ := hO.rd
        replace RM := hid_of (RM.out.below hb)
        replace HB := hid_of (below_then HB.out HB.out.size hb)
        have Ra := hid_of hR
        clear hO hR hb
        have hc := HA.out Aa ca w11 Ra.out
        clear Ra
        go_wp2_with fail
        refine (hc).mono ?_
        rintro e w12 ⟨v, rfl, hO, hb⟩
        obtain ⟨Ax, cx, rfl, _, hR⟩ := hO.rd
        replace RM := hid_of (RM.out.below hb)
        replace HB := hid_of (below_then HB.out HB.out.size hb)
        have Rx := hid_of hR
        clear hO hR hb hc
        go_wp2_with fail
        refine (cloneM ms Am cm _ RM.out hm56).mono ?_
        rintro e w13 ⟨v, rfl, hO, hb⟩
        obtain ⟨Aa, ca, rfl, _, hR⟩ := hO.rd
        replace RM := hid_of (RM.out.below hb)
        replace Rx := hid_of (Rx.out.below hb)
        replace HB := hid_of (below_then HB.out HB.out.size hb)
        have Ra := hid_of hR
        clear hO hR hb
        have hc := HA3.out Aa ca w13 Ra.out
        clear Ra
        go_wp2_with fail
        refine (hc).mono ?_
        rintro e w14 ⟨v, rfl, hO, hb⟩
        obtain ⟨Ay, cy, rfl, _, hR⟩ := hO.rd
        replace RM := hid_of (RM.out.below hb)
        replace Rx := hid_of (Rx.out.below hb)
        replace HB := hid_of (below_then HB.out HB.out.size hb)
        have Ry := hid_of hR
        clear hO hR hb hc
        go_wp2_with fail
        refine (HCL.out w14 HB.out).mono ?_
        rintro e w15 ⟨v, rfl, hO, hb⟩
        obtain ⟨Aa, ca, rfl, _, hR⟩ := hO.rd
        replace RM := hid_of (RM.out.below hb)
        replace Rx := hid_of (Rx.out.below hb)
        replace Ry := hid_of (Ry.out.below hb)
        replace HB := hid_of (below_then HB.out HB.out.size hb)
        have Ra := hid_of hR
        clear hO hR hb
        have hc := HN.out Aa ca w15 Ra.out
        clear Ra
        go_wp2_with fail
        refine (hc).mono ?_
        rintro e w16 ⟨v, rfl, hO, hb⟩
        obtain ⟨Au, cu, rfl, _, hR⟩ := hO.rd
        replace RM := hid_of (RM.out.below hb)
        replace Rx := hid_of (Rx.out.below hb)
        replace Ry := hid_of (Ry.out.below hb)
        replace HB := hid_of (below_then HB.out HB.out.size hb)
        have Ru := hid_of hR
        clear hO hR hb hc
        go_wp2_with fail
        refine (cloneM ms Am cm _ RM.out hm56).mono ?_
        rintro e w17 ⟨v, rfl, hO, hb⟩
        obtain ⟨Aa, ca, rfl, _, hR⟩ := hO.rd
        replace RM := hid_of (RM.out.below hb)
        replace Rx := hid_of (Rx.out.below hb)
        replace Ry := hid_of (Ry.out.below hb)
        replace Ru := hid_of (Ru.out.below hb)
        replace HB := hid_of (below_then HB.out HB.out.size hb)
        have Ra := hid_of hR
        clear hO hR hb
        have hc := HN3.out Aa ca w17 Ra.out
        clear Ra
        go_wp2_with fail
        refine (hc).mono ?_
        rintro e w18 ⟨v, rfl, hO, hb⟩
        obtain ⟨Az, cz, rfl, _, hR⟩ := hO.rd
        replace RM := hid_of (RM.out.below hb)
        replace Rx := hid_of (Rx.out.below hb)
        replace Ry := hid_of (Ry.out.below hb)
        replace Ru := hid_of (Ru.out.below hb)
        replace HB := hid_of (below_then HB.out HB.out.size hb)
        have Rz := hid_of hR
        clear hO hR hb hc
        have he1 := equalD ds ds Ax Ay cx cy w18 Rx.out Ry.out
        rw [decide_eq_true rfl] at he1
        go_wp2_with fail
        refine (he1).mono ?_
        rintro e w19 ⟨rfl, hb⟩
        replace RM := hid_of (RM.out.below hb)
        replace Rx := hid_of (Rx.out.below hb)
        replace Ry := hid_of (Ry.out.below hb)
        replace Ru := hid_of (Ru.out.below hb)
        replace Rz := hid_of (Rz.out.below hb)
        replace HB := hid_of (below_then HB.out HB.out.size hb)
        clear hb he1
        have he2 := equalM ns ns Au Az cu cz w19 Ru.out Rz.out
        rw [decide_eq_true rfl] at he2
        go_wp2_with fail
        refine (he2).mono ?_
        rintro e w20 ⟨rfl, hb⟩
        replace RM := hid_of (RM.out.below hb)
        replace Rx := hid_of (Rx.out.below hb)
        replace Ry := hid_of (Ry.out.below hb)
        replace Ru := hid_of (Ru.out.below hb)
        replace Rz := hid_of (Rz.out.below hb)
        replace HB := hid_of (below_then HB.out HB.out.size hb)
        clear hb he2
        go_wp2_with fail
        go_ret
        exact ⟨rfl, HB.out⟩
  · have h1 : ¬ l.length ≤ 16 ∨ (l.length ≤ 16 ∧ ¬ os.length ≤ 16) := by omega
    clear hR1 hR2 hs hP
    rcases h1 with h1 | ⟨h1, h2⟩
    · have g1 : (l.length : Int) > 16 := by omega
      clear h1
      go_enter Try.func9, Try.ntmps9
      go_wp2_with fail
      refine (awake_any _).mono ?_
      rintro e w1 ⟨rfl, hb⟩
      have HB := hid_of hb
      clear hb
      go_wp2_with fail
      go_ret
      exact ⟨rfl, HB.out⟩
    · have g1 : ¬ ((l.length : Int) > 16) := by omega
      have g2 : (os.length : Int) > 16 := by omega
      clear h1 h2
      go_enter Try.func9, Try.ntmps9
      go_wp2_with fail
      refine (awake_any _).mono ?_
      rintro e w1 ⟨rfl, hb⟩
      have HB := hid_of hb
      clear hb
      go_wp2_with fail
      go_ret
      exact ⟨rfl, HB.out⟩
end Go.Proofs.Ytgcnklnhambpjaa
