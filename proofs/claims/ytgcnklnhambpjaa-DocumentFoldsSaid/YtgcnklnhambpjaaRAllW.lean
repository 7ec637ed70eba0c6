/- The reference's Normal, Of, all, All: what they return. -/
import Derived.Test.YtgcnklnhambpjaaROfU
import Derived.Test.YtgcnklnhambpjaaRNormW
import Derived.Test.YtgcnklnhambpjaaOpenW
namespace Go.Proofs.Ytgcnklnhambpjaa
open Go.RowKit
theorem start_ok {l : List Msg} (h : startR l = 0) : l.length ≤ 64 ∧ ∀ m ∈ l, chkM m = 0 := by
  unfold startR at h
  split at h
  · cases h
  · split at h
    · cases h
    · rename_i h1 h2
      refine ⟨by omega, fun m hm => ?_⟩
      have := List.any_eq_false.1 (by simpa using h2) m hm
      simpa [badM] using this
theorem chk_mv {m : Msg} (h : chkM m = 0) : 1 ≤ m.mv := by
  unfold chkM at h
  split at h
  · cases h
  · omega
theorem normR_cases (l : List Msg) : ((normR l).2 = 0 ∧ (normR l).1 = normL l ∧ l.length ≤ 64 ∧ ∀ m ∈ l, chkM m = 0) ∨ ((normR l).2 ≠ 0 ∧ (normR l).1 = []) := by
  have h := start_norm l
  have hok := @start_ok l
  unfold normR at h ⊢
  by_cases h1 : l.length > 64
  · rw [if_pos h1]; exact .inr ⟨by decide, rfl⟩
  · rw [if_neg h1] at h ⊢
    by_cases h2 : l.any badM = true
    · rw [if_pos h2]; exact .inr ⟨by decide, rfl⟩
    · rw [if_neg h2] at h ⊢
      exact .inl ⟨rfl, rfl, hok h⟩
theorem normL_ok {l : List Msg} (hv : ∀ m ∈ l, chkM m = 0) : ∀ m ∈ normL l, chkM m = 0 := fun m hm => hv m ((normL_mem l m).1 hm)
set_option maxHeartbeats 4000000 in
theorem rnormalT_any (l : List Msg) (A : Option Addr) (c : Nat) (w : World) (hR : Rd EMsg w A l) : Calls Try.prog 14 #[.slice A l.length c] w (Made2 EMsg 23 (normR l).1 (normR l).2 w) := by
  have hs := rstart_any l A c w hR
  rw [start_norm] at hs
  unfold RInt at hs
  rcases normR_cases l with ⟨h1, h2, h3, h4⟩ | ⟨h1, h2⟩
  · rw [h1, h2]
    rw [h1] at hs
    have hn := fun W (h : Below w.heap.size w W) => rnormal_any l A c W (hR.below h) h3
    unfold Made at hn
    clear h1 h2 h3 h4 hR
    go_enter Try.func14, Try.ntmps14
    go_wp2_with fail
    refine hs.mono ?_
    rintro e w1 ⟨rfl, hb⟩
    have HB := hid_of hb
    have hc := hn w1 hb
    clear hs hn hb
    go_wp2_with fail
    refine hc.mono ?_
    rintro e w2 ⟨v, rfl, hO, hb2⟩
    have HO := hid_of hO
    have HB2 := hid_of (below_then HB.out HB.out.size hb2)
    have hsz := HB.out.size
    clear hO hb2 hc
    go_wp2_with fail
    go_ret2
    exact ⟨_, rfl, HO.out.lower hsz, HB2.out⟩
  · rw [h2]
    generalize (normR l).2 = r at hs h1 ⊢
    have hne : (r != 0) = true := by simpa using h1
    clear h1 h2 hR
    go_enter Try.func14, Try.ntmps14
    go_wp2_with fail
    refine hs.mono ?_
    rintro e w1 ⟨rfl, hb⟩
    have HB := hid_of hb
    clear hs hb
    go_wp2_with fail
    go_ret2
    exact ⟨_, rfl, Own.nil _ _ _ _, HB.out⟩
set_option maxHeartbeats 4000000 in
set_option maxRecDepth 100000 in
theorem rofT_any (l : List Msg) (mv : Int) (A : Option Addr) (c : Nat) (w : World) (hR : Rd EMsg w A l) : Calls Try.prog 19 #[.slice A l.length c, .int .i64 mv] w (OfTPost l mv w) := by
  have hs := fun W (h : Below w.heap.size w W) => rstart_any l A c W (hR.below h)
  rw [start_norm] at hs
  unfold RInt at hs
  unfold OfTPost ofP
  rcases normR_cases l with ⟨h1, h2, h3, h4⟩ | ⟨h1, h2⟩
  · rw [h1, h2]
    rw [h1] at hs
    by_cases hmv : mv < 1 ∨ mv > 1073741824
    · rw [if_neg (by simp), if_pos hmv]
      unfold zeroDoc
      dsimp only
      clear h1 h2 h3 h4 hR
      go_enter Try.func19, Try.ntmps19
      go_wp2_with fail
      refine (hs _ ((Below.refl _ _).alloc (Nat.le_refl _) _)).mono ?_
      rintro e w1 ⟨rfl, hb⟩
      have hz : w1.heap[w.heap.size]? = some (.cells #[.int .i64 0, .int .i64 0, .int .i64 0, .int .i64 0, .int .i64 0, .int .i64 0, .int .i64 0] 35 (0, 0)) := (hb.block _ (by simp)).trans (blkN w _)
      have HZ := hid_of hz
      have HB := hid_of (below_then ((Below.refl _ _).alloc (Nat.le_refl _) _) (by simp) hb)
      have hsz : w.heap.size < w1.heap.size := (Array.getElem?_eq_some_iff.1 hz).1
      clear hz
      have z0 := (blk_cell HZ.out 0).trans (show _ = some (.int .i64 0) from rfl)
      have z1 := (blk_cell HZ.out 1).trans (show _ = some (.int .i64 0) from rfl)
      have z2 := (blk_cell HZ.out 2).trans (show _ = some (.int .i64 0) from rfl)
      have z3 := (blk_cell HZ.out 3).trans (show _ = some (.int .i64 0) from rfl)
      have z4 := (blk_cell HZ.out 4).trans (show _ = some (.int .i64 0) from rfl)
      have z5 := (blk_cell HZ.out 5).trans (show _ = some (.int .i64 0) from rfl)
      have z6 := (blk_cell HZ.out 6).trans (show _ = some (.int .i64 0) from rfl)
      have z7 := fun j => blk_frozen HZ.out j
      clear hs hb
      go_wp2_with fail
      all_goals refine bodyPost_ret (v := .tuple #[.agg #[.int .i64 0, .int .i64 0, .int .i64 0, .int .i64 0, .int .i64 0, .int .i64 0, .int .i64 0], .int .i64 2]) (by simp [results, Try.results19, go_sem, z0, z1, z2, z3, z4, z5, z6, z7]) rfl ⟨rfl, by repeat (with_reducible first | exact HB.out | apply Below.drew | (refine Below.alloc ?_ (by first | omega | (simp; omega)) _) | (refine Below.setCell ?_ (by first | exact Nat.le_refl _ | (simp; done) | (simp; omega)) _))⟩
    · rw [if_neg (by simp), if_neg hmv]
      dsimp only
      have hm1 : 1 ≤ mv := by omega
      have hm2 : mv ≤ 1073741824 := by omega
      have hnv := normL_ok h4
      have hof := fun A c W (h : Rd EMsg W A (zeroMsg :: normL l)) => rof_any (zeroMsg :: normL l) mv A c W h (fun _ => by show (0 : Int) ≠ mv; omega)
      rw [rof_eq (normL_strict l) hnv (by omega)] at hof
      have hlen : (normL l).length ≤ 64 := by
        have := normR_len l
        rw [h2] at this; exact this
      have hn := fun W (h : Below w.heap.size w W) => rnormal_any l A c W (hR.below h) h3
      have hgd := fun A c W (h : Rd EMsg W A (normL l)) => rguard_any (normL l) A c W h (by omega)
      unfold Made at hn hgd
      unfold ROfPost at hof
      generalize ofR mv (normL l) = d at hof ⊢
      have HOF := hid_of hof
      have HGD := hid_of hgd
      clear h1 h2 h3 h4 hR hnv hmv hof hgd
      generalize normL l = n at HOF HGD hn hlen
      go_enter Try.func19, Try.ntmps19
      go_wp2_with fail
      refine (hs _ ((Below.refl _ _).alloc (Nat.le_refl _) _)).mono ?_
      rintro e w1 ⟨rfl, hb⟩
      have hz : w1.heap[w.heap.size]? = some (.cells #[.int .i64 0, .int .i64 0, .int .i64 0, .int .i64 0, .int .i64 0, .int .i64 0, .int .i64 0] 35 (0, 0)) := (hb.block _ (by simp)).trans (blkN w _)
      have HZ := hid_of hz
      have HB := hid_of (below_then ((Below.refl _ _).alloc (Nat.le_refl _) _) (by simp) hb)
      have hsz : w.heap.size < w1.heap.size := (Array.getElem?_eq_some_iff.1 hz).1
      clear hz
      have z0 := (blk_cell HZ.out 0).trans (show _ = some (.int .i64 0) from rfl)
      have z1 := (blk_cell HZ.out 1).trans (show _ = some (.int .i64 0) from rfl)
      have z2 := (blk_cell HZ.out 2).trans (show _ = some (.int .i64 0) from rfl)
      have z3 := (blk_cell HZ.out 3).trans (show _ = some (.int .i64 0) from rfl)
      have z4 := (blk_cell HZ.out 4).trans (show _ = some (.int .i64 0) from rfl)
      have z5 := (blk_cell HZ.out 5).trans (show _ = some (.int .i64 0) from rfl)
      have z6 := (blk_cell HZ.out 6).trans (show _ = some (.int .i64 0) from rfl)
      have z7 := fun j => blk_frozen HZ.out j
      have hc := hn w1 HB.out
      clear hs hb hn
      go_wp2_with fail
      refine hc.mono ?_
      rintro e w2 ⟨v, rfl, hO, hb⟩
      obtain ⟨A1, c1, rfl, hlc, hR1⟩ := hO.rd
      have hc2 := HGD.out A1 c1 w2 hR1
      have hz := (hb.block _ hsz).trans HZ.out
      clear z0 z1 z2 z3 z4 z5 z6 z7
      replace HZ := hid_of hz
      replace HB := hid_of (below_then HB.out HB.out.size hb)
      replace hsz : w.heap.size < w2.heap.size := (Array.getElem?_eq_some_iff.1 hz).1
      clear hz hb
      have z0 := (blk_cell HZ.out 0).trans (show _ = some (.int .i64 0) from rfl)
      have z1 := (blk_cell HZ.out 1).trans (show _ = some (.int .i64 0) from rfl)
      have z2 := (blk_cell HZ.out 2).trans (show _ = some (.int .i64 0) from rfl)
      have z3 := (blk_cell HZ.out 3).trans (show _ = some (.int .i64 0) from rfl)
      have z4 := (blk_cell HZ.out 4).trans (show _ = some (.int .i64 0) from rfl)
      have z5 := (blk_cell HZ.out 5).trans (show _ = some (.int .i64 0) from rfl)
      have z6 := (blk_cell HZ.out 6).trans (show _ = some (.int .i64 0) from rfl)
      have z7 := fun j => blk_frozen HZ.out j
      clear hc hO hR1 HGD
      go_wp2_with fail
      refine hc2.mono ?_
      rintro e w3 ⟨v, rfl, hO, hb⟩
      obtain ⟨A2, c2, rfl, hlc2, hR2⟩ := hO.rd
      have hc3 := HOF.out A2 c2 w3 hR2
      have hz := (hb.block _ hsz).trans HZ.out
      clear z0 z1 z2 z3 z4 z5 z6 z7
      replace HZ := hid_of hz
      replace HB := hid_of (below_then HB.out HB.out.size hb)
      replace hsz : w.heap.size < w3.heap.size := (Array.getElem?_eq_some_iff.1 hz).1
      clear hz hb
      have z0 := (blk_cell HZ.out 0).trans (show _ = some (.int .i64 0) from rfl)
      have z1 := (blk_cell HZ.out 1).trans (show _ = some (.int .i64 0) from rfl)
      have z2 := (blk_cell HZ.out 2).trans (show _ = some (.int .i64 0) from rfl)
      have z3 := (blk_cell HZ.out 3).trans (show _ = some (.int .i64 0) from rfl)
      have z4 := (blk_cell HZ.out 4).trans (show _ = some (.int .i64 0) from rfl)
      have z5 := (blk_cell HZ.out 5).trans (show _ = some (.int .i64 0) from rfl)
      have z6 := (blk_cell HZ.out 6).trans (show _ = some (.int .i64 0) from rfl)
      have z7 := fun j => blk_frozen HZ.out j
      clear hc2 hO hR2 HOF
      go_wp2_with fail
      refine hc3.mono ?_
      rintro e w4 ⟨rfl, hb⟩
      have hz := (hb.block _ hsz).trans HZ.out
      clear z0 z1 z2 z3 z4 z5 z6 z7
      replace HZ := hid_of hz
      replace HB := hid_of (below_then HB.out HB.out.size hb)
      replace hsz : w.heap.size < w4.heap.size := (Array.getElem?_eq_some_iff.1 hz).1
      clear hz hb
      have z0 := (blk_cell HZ.out 0).trans (show _ = some (.int .i64 0) from rfl)
      have z1 := (blk_cell HZ.out 1).trans (show _ = some (.int .i64 0) from rfl)
      have z2 := (blk_cell HZ.out 2).trans (show _ = some (.int .i64 0) from rfl)
      have z3 := (blk_cell HZ.out 3).trans (show _ = some (.int .i64 0) from rfl)
      have z4 := (blk_cell HZ.out 4).trans (show _ = some (.int .i64 0) from rfl)
      have z5 := (blk_cell HZ.out 5).trans (show _ = some (.int .i64 0) from rfl)
      have z6 := (blk_cell HZ.out 6).trans (show _ = some (.int .i64 0) from rfl)
      have z7 := fun j => blk_frozen HZ.out j
      clear hc3
      go_wp2_with fail
      refine bodyPost_ret (v := .tuple #[.agg #[.int .i64 d.mv, .int .i64 d.st, .int .i64 d.fr, .int .i64 d.tt, .int .i64 d.se, .int .i64 d.re, .int .i64 d.ch], .int .i64 0]) (by simp [results, Try.results19, go_sem, z0, z1, z2, z3, z4, z5, z6, z7]) rfl ⟨rfl, by repeat (with_reducible first | exact HB.out | apply Below.drew | (refine Below.alloc ?_ (by first | omega | (simp; omega)) _) | (refine Below.setCell ?_ (by first | exact Nat.le_refl _ | (simp; done) | (simp; omega)) _))⟩
  · generalize (normR l).2 = r at hs h1 ⊢
    rw [if_pos h1]
    unfold zeroDoc
    dsimp only
    have hne : (r != 0) = true := by simpa using h1
    clear h1 h2 hR
    go_enter Try.func19, Try.ntmps19
    go_wp2_with fail
    refine (hs _ ((Below.refl _ _).alloc (Nat.le_refl _) _)).mono ?_
    rintro e w1 ⟨rfl, hb⟩
    have hz : w1.heap[w.heap.size]? = some (.cells #[.int .i64 0, .int .i64 0, .int .i64 0, .int .i64 0, .int .i64 0, .int .i64 0, .int .i64 0] 35 (0, 0)) := (hb.block _ (by simp)).trans (blkN w _)
    have HZ := hid_of hz
    have HB := hid_of (below_then ((Below.refl _ _).alloc (Nat.le_refl _) _) (by simp) hb)
    have hsz : w.heap.size < w1.heap.size := (Array.getElem?_eq_some_iff.1 hz).1
    clear hz
    have z0 := (blk_cell HZ.out 0).trans (show _ = some (.int .i64 0) from rfl)
    have z1 := (blk_cell HZ.out 1).trans (show _ = some (.int .i64 0) from rfl)
    have z2 := (blk_cell HZ.out 2).trans (show _ = some (.int .i64 0) from rfl)
    have z3 := (blk_cell HZ.out 3).trans (show _ = some (.int .i64 0) from rfl)
    have z4 := (blk_cell HZ.out 4).trans (show _ = some (.int .i64 0) from rfl)
    have z5 := (blk_cell HZ.out 5).trans (show _ = some (.int .i64 0) from rfl)
    have z6 := (blk_cell HZ.out 6).trans (show _ = some (.int .i64 0) from rfl)
    have z7 := fun j => blk_frozen HZ.out j
    clear hs hb
    go_wp2_with fail
    refine bodyPost_ret (v := .tuple #[.agg #[.int .i64 0, .int .i64 0, .int .i64 0, .int .i64 0, .int .i64 0, .int .i64 0, .int .i64 0], .int .i64 r]) (by simp [results, Try.results19, go_sem, z0, z1, z2, z3, z4, z5, z6, z7]) rfl ⟨rfl, by repeat (with_reducible first | exact HB.out | apply Below.drew | (refine Below.alloc ?_ (by first | omega | (simp; omega)) _) | (refine Below.setCell ?_ (by first | exact Nat.le_refl _ | (simp; done) | (simp; omega)) _))⟩
end Go.Proofs.Ytgcnklnhambpjaa
