/- document.Open: what it returns for every slice of messages. -/
import Derived.Test.YtgcnklnhambpjaaAllW
namespace Go.Proofs.Ytgcnklnhambpjaa
open Go.RowKit
def openStep (tgt : Int) (s : Int) (d : Doc) : Int := if d.st = 1 ∧ d.tt = tgt then s + d.se else s
def openS (tgt : Int) (l : List Doc) : Int := l.foldl (openStep tgt) 0
theorem openS_snoc (tgt : Int) (l : List Doc) (d : Doc) : openS tgt (l ++ [d]) = openStep tgt (openS tgt l) d := by unfold openS; rw [List.foldl_append]; rfl
def openP (l : List Msg) (tgt : Int) : Int × Int := if (allP l).2 ≠ 0 then (0, (allP l).2) else if nodeB tgt = false then (0, 2) else (openS tgt (allP l).1, 0)
/-- Every document says of what was sent that it is not more than the greatest amount. -/
def SeOK (l : List Doc) : Prop := l.length ≤ 64 ∧ ∀ d ∈ l, 0 ≤ d.se ∧ d.se ≤ 10737418240000
theorem openS_le {tgt : Int} {l : List Doc} (h : SeOK l) (k : Nat) (hk : k ≤ l.length) : 0 ≤ openS tgt (l.take k) ∧ openS tgt (l.take k) ≤ 10737418240000 * k := by
  induction k with
  | zero => simp [openS]
  | succ k ih =>
    rw [List.take_succ_eq_append_getElem (by omega), openS_snoc]
    have := ih (by omega)
    have := h.2 l[k] (List.getElem_mem _)
    unfold openStep
    split <;> omega
set_option maxHeartbeats 4000000 in
set_option maxRecDepth 100000 in
theorem openT_any (l : List Msg) (tgt : Int) (A : Option Addr) (c : Nat) (w : World) (hR : Rd EMsg w A l) (hse : SeOK (allP l).1) : Calls Try.prog 22 #[.slice A l.length c, .int .i64 tgt] w fun e w' => e = .returned (.tuple #[.int .i64 (openP l tgt).1, .int .i64 (openP l tgt).2]) ∧ Below w.heap.size w w' := by
  have hn := allT_any l A c w hR
  have hnode := fun W => node_any tgt W
  have hp : openP l tgt = openP l tgt := rfl
  conv at hp => rhs; unfold openP
  generalize openP l tgt = p at hp ⊢
  obtain ⟨p1, p2⟩ := p
  generalize allP l = q at hn hp hse
  obtain ⟨ns, en⟩ := q
  dsimp only at hn hp hse ⊢
  generalize nodeB tgt = nb at hp hnode
  have HP := hid_of hp
  have HS := hid_of hse
  have hsl := hse.1
  clear hp hR hse
  unfold Made2 at hn
  go_enter Try.func22, Try.ntmps22
  go_wp2_with fail
  refine hn.mono ?_
  rintro e w1 ⟨v, rfl, hO, hb1⟩
  obtain ⟨A1, c1, rfl, hlc, hR1⟩ := hO.rd
  have HB := hid_of hb1
  have HR1 := hid_of hR1
  have hwl := hb1.size
  clear hn hO hb1 hR1
  by_cases he : en = 0
  · subst he
    cases nb with
    | false =>
      have hp := HP.out
      rw [if_neg (by simp), if_pos rfl] at hp
      simp only [Prod.mk.injEq] at hp
      obtain ⟨rfl, rfl⟩ := hp
      clear HP
      go_wp2_with fail
      refine (hnode _).mono ?_
      rintro e w2 ⟨rfl, rfl⟩
      go_wp2_with fail
      go_ret2
      exact ⟨rfl, HB.out⟩
    | true =>
      have hp := HP.out
      rw [if_neg (by simp), if_neg (by simp)] at hp
      simp only [Prod.mk.injEq] at hp
      obtain ⟨rfl, rfl⟩ := hp
      clear HP
      go_wp2_with fail
      refine (hnode _).mono ?_
      rintro e w2 ⟨rfl, rfl⟩
      go_wp2_with fail
      go_loopg [8, 26] ns.length (fun gg s8 s26 wr => ∃ (k : Nat) (u : Int), k ≤ ns.length ∧ ns.length - k ≤ gg ∧ s26 = .int .i64 k ∧ s8 = .int .i64 u ∧ Hid (u = openS tgt (ns.take k)) ∧ Hid (Below w1.heap.size w1 wr))
      case atStart => exact ⟨0, 0, Nat.zero_le _, by omega, rfl, rfl, rfl, Below.refl _ _⟩
      case round =>
        obtain ⟨k, u, hk, hg, rfl, rfl, HU, BW⟩ := hrel
        have hul := openS_le (tgt := tgt) HS.out k hk
        rw [← HU.out] at hul
        by_cases hlt : k < ns.length
        · obtain ⟨ad, rfl, c0, c1', c2, c3, c4, c5, c6⟩ := Doc.at_ (HR1.out.below BW.out) k hlt
          have hsx := HS.out.2 ns[k] (List.getElem_mem _)
          have htk : openS tgt (ns.take (k + 1)) = openStep tgt u ns[k] := by rw [List.take_succ_eq_append_getElem hlt, openS_snoc, ← HU.out]
          generalize ns[k] = x at c0 c1' c2 c3 c4 c5 c6 hsx htk
          have HT := hid_of htk
          clear htk
          obtain ⟨x0, x1, x2, x3, x4, x5, x6⟩ := x
          dsimp only at c0 c1' c2 c3 c4 c5 c6 hsx
          by_cases h1 : x1 = 1
          · subst h1
            by_cases h2 : x3 = tgt
            · have h2' := h2.symm
              subst h2'
              go_wp2
              go_roundg (ns.length - (k + 1))
              case measure => omega
              case rel => exact ⟨k + 1, u + x4, by omega, Nat.le_refl _, by go_num, by go_num, (show Hid _ from by show _ = _; rw [HT.out]; simp [openStep]), BW.out.alloc (by have := BW.out.size; omega) _⟩
            · have h2b : (x3 == tgt) = false := by simpa using h2
              have H2 := hid_of h2
              clear h2
              go_wp2
              go_roundg (ns.length - (k + 1))
              case measure => omega
              case rel => exact ⟨k + 1, u, by omega, Nat.le_refl _, by go_num, by go_num, (show Hid _ from by show _ = _; rw [HT.out]; simp [openStep, H2.out]), BW.out.alloc (by have := BW.out.size; omega) _⟩
          · have h1b : (x1 == 1) = false := by simpa using h1
            have H1 := hid_of h1
            clear h1
            go_wp2
            go_roundg (ns.length - (k + 1))
            case measure => omega
            case rel => exact ⟨k + 1, u, by omega, Nat.le_refl _, by go_num, by go_num, (show Hid _ from by show _ = _; rw [HT.out]; simp [openStep, H1.out]), BW.out.alloc (by have := BW.out.size; omega) _⟩
        · have hkl : k = ns.length := by omega
          subst hkl
          have hu := HU.out
          rw [List.take_of_length_le (Nat.le_refl _)] at hu
          subst hu
          go_wp2_with fail
          go_ret2
          exact ⟨rfl, below_then HB.out HB.out.size BW.out⟩
  · have hne : (en != 0) = true := by simpa using he
    have hp := HP.out
    rw [if_pos he] at hp
    simp only [Prod.mk.injEq] at hp
    obtain ⟨rfl, rfl⟩ := hp
    clear he HP
    go_wp2_with fail
    go_ret2
    exact ⟨rfl, HB.out⟩
end Go.Proofs.Ytgcnklnhambpjaa
