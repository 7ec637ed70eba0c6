/- document.Of: what it returns for every slice of messages. -/
import Derived.Test.YtgcnklnhambpjaaOfW
import Derived.Test.YtgcnklnhambpjaaNormM
namespace Go.Proofs.Ytgcnklnhambpjaa
open Go.RowKit
def zeroDoc : Doc := ⟨0, 0, 0, 0, 0, 0, 0⟩
/-- What Of returns. -/
def ofP (l : List Msg) (mv : Int) : Doc × Int := if (normR l).2 ≠ 0 then (zeroDoc, (normR l).2) else if mv < 1 ∨ mv > 1073741824 then (zeroDoc, 2) else (ofR mv (normR l).1, 0)
def OfTPost (l : List Msg) (mv : Int) (w : World) (e : Ending) (w' : World) : Prop := e = .returned (.tuple #[(ofP l mv).1.v, .int .i64 (ofP l mv).2]) ∧ Below w.heap.size w w'
set_option maxHeartbeats 4000000 in
set_option maxRecDepth 100000 in
theorem ofT_any (l : List Msg) (mv : Int) (A : Option Addr) (c : Nat) (w : World) (hR : Rd EMsg w A l) : Calls Try.prog 18 #[.slice A l.length c, .int .i64 mv] w (OfTPost l mv w) := by
  have hn := fun W (hb : Below w.heap.size w W) => normal_any l A c W (hR.below hb)
  have hof := fun (A : Option Addr) (c : Nat) (W : World) (hR : Rd EMsg W A (normR l).1) => of_any (normR l).1 mv A c W hR
  unfold OfPost at hof
  have hp : ofP l mv = ofP l mv := rfl
  conv at hp => rhs; unfold ofP
  unfold OfTPost
  generalize ofP l mv = p at hp ⊢
  obtain ⟨p1, p2⟩ := p
  generalize normR l = q at hn hof hp
  obtain ⟨ns, en⟩ := q
  dsimp only at hn hof hp ⊢
  generalize ofR mv ns = d at hof hp
  have HP := hid_of hp
  clear hp
  clear hR
  go_enter Try.func18, Try.ntmps18
  unfold Made2 at hn
  go_wp2_with fail
  refine (hn _ ((Below.refl _ _).alloc (Nat.le_refl _) _)).mono ?_
  rintro e w1 ⟨v, rfl, hO, hb1⟩
  obtain ⟨A1, c1, rfl, hlc, hR1⟩ := hO.rd
  have hb2 : Below w.heap.size w w1 := below_then ((Below.refl _ _).alloc (Nat.le_refl _) _) (by simp) hb1
  have hz : w1.heap[w.heap.size]? = some (.cells #[.int .i64 0, .int .i64 0, .int .i64 0, .int .i64 0, .int .i64 0, .int .i64 0, .int .i64 0] 35 (0, 0)) := (hb1.block _ (by simp)).trans (blkN w _)
  have HZ := hid_of hz
  have HB := hid_of hb2
  have HR1 := hid_of hR1
  have hsz : w.heap.size < w1.heap.size := (Array.getElem?_eq_some_iff.1 hz).1
  clear hn hO hb1 hb2 hR1 hz
  have z0 := (blk_cell HZ.out 0).trans (show _ = some (.int .i64 0) from rfl)
  have z1 := (blk_cell HZ.out 1).trans (show _ = some (.int .i64 0) from rfl)
  have z2 := (blk_cell HZ.out 2).trans (show _ = some (.int .i64 0) from rfl)
  have z3 := (blk_cell HZ.out 3).trans (show _ = some (.int .i64 0) from rfl)
  have z4 := (blk_cell HZ.out 4).trans (show _ = some (.int .i64 0) from rfl)
  have z5 := (blk_cell HZ.out 5).trans (show _ = some (.int .i64 0) from rfl)
  have z6 := (blk_cell HZ.out 6).trans (show _ = some (.int .i64 0) from rfl)
  have z7 := fun j => blk_frozen HZ.out j
  by_cases he : en = 0
  · subst he
    by_cases hmv : mv < 1 ∨ mv > 1073741824
    · have hp := HP.out
      rw [if_neg (by simp), if_pos hmv] at hp
      simp only [Prod.mk.injEq] at hp
      obtain ⟨rfl, rfl⟩ := hp
      clear HP
      go_wp2_with fail
      all_goals refine bodyPost_ret (v := .tuple #[.agg #[.int .i64 0, .int .i64 0, .int .i64 0, .int .i64 0, .int .i64 0, .int .i64 0, .int .i64 0], .int .i64 2]) (by simp [results, Try.results18, go_sem, z0, z1, z2, z3, z4, z5, z6, z7]) rfl ⟨rfl, by repeat (with_reducible first | exact HB.out | apply Below.drew | (refine Below.alloc ?_ (by first | omega | (simp; omega)) _) | (refine Below.setCell ?_ (by first | exact Nat.le_refl _ | (simp; done) | (simp; omega)) _))⟩
    · have h1 : 1 ≤ mv := by omega
      have h2 : mv ≤ 1073741824 := by omega
      have hc := hof A1 c1 _ HR1.out
      have hp := HP.out
      rw [if_neg (by simp), if_neg hmv] at hp
      simp only [Prod.mk.injEq] at hp
      obtain ⟨rfl, rfl⟩ := hp
      clear hof hmv HP
      go_wp2_with fail
      refine hc.mono ?_
      rintro e w2 ⟨rfl, hb2⟩
      have hz := (hb2.block _ hsz).trans HZ.out
      have HB := hid_of (below_then HB.out HB.out.size hb2)
      have HZ := hid_of hz
      clear hb2 hz z0 z1 z2 z3 z4 z5 z6 z7
      have z0 := (blk_cell HZ.out 0).trans (show _ = some (.int .i64 0) from rfl)
      have z1 := (blk_cell HZ.out 1).trans (show _ = some (.int .i64 0) from rfl)
      have z2 := (blk_cell HZ.out 2).trans (show _ = some (.int .i64 0) from rfl)
      have z3 := (blk_cell HZ.out 3).trans (show _ = some (.int .i64 0) from rfl)
      have z4 := (blk_cell HZ.out 4).trans (show _ = some (.int .i64 0) from rfl)
      have z5 := (blk_cell HZ.out 5).trans (show _ = some (.int .i64 0) from rfl)
      have z6 := (blk_cell HZ.out 6).trans (show _ = some (.int .i64 0) from rfl)
      have z7 := fun j => blk_frozen HZ.out j
      go_wp2_with fail
      refine bodyPost_ret (v := .tuple #[.agg #[.int .i64 p1.mv, .int .i64 p1.st, .int .i64 p1.fr, .int .i64 p1.tt, .int .i64 p1.se, .int .i64 p1.re, .int .i64 p1.ch], .int .i64 0]) (by simp [results, Try.results18, go_sem, z0, z1, z2, z3, z4, z5, z6, z7]) rfl ⟨rfl, by repeat (with_reducible first | exact HB.out | apply Below.drew | (refine Below.alloc ?_ (by first | omega | (simp; omega)) _) | (refine Below.setCell ?_ (by first | exact Nat.le_refl _ | (simp; done) | (simp; omega)) _))⟩
  · have hne : (en != 0) = true := by simpa using he
    have hp := HP.out
    rw [if_pos he] at hp
    simp only [Prod.mk.injEq] at hp
    obtain ⟨rfl, rfl⟩ := hp
    clear he HP
    go_wp2_with fail
    refine bodyPost_ret (v := .tuple #[.agg #[.int .i64 0, .int .i64 0, .int .i64 0, .int .i64 0, .int .i64 0, .int .i64 0, .int .i64 0], .int .i64 p2]) (by simp [results, Try.results18, go_sem, z0, z1, z2, z3, z4, z5, z6, z7]) rfl ⟨rfl, by repeat (with_reducible first | exact HB.out | apply Below.drew | (refine Below.alloc ?_ (by first | omega | (simp; omega)) _) | (refine Below.setCell ?_ (by first | exact Nat.le_refl _ | (simp; done) | (simp; omega)) _))⟩
end Go.Proofs.Ytgcnklnhambpjaa
