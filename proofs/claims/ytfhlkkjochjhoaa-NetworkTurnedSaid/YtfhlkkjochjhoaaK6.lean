/- Joined texts of the seat: contracts and plain laws that the rows import. -/
import Derived.Test.YtfhlkkjochjhoaaK5
import Derived.Test.YtfhlkkjochjhoaaK2
import Derived.Deep.LoopGhost
import Derived.Deep.QuietTactic
import Derived.BigQuiet
import Derived.Outline
import Derived.Lib.SliceRun
set_option linter.unusedVariables false
set_option linter.unusedSimpArgs false
/- document.Normal: what it returns for every slice of messages. -/
namespace Go.Proofs.Ytfhlkkjochjhoaa
open Go.RowKit
/-- A new row and a number. -/
def Made2 {α : Type} (E : Enc α) (t : TypeId) (xs : List α) (n : Int) (w : World) (e : Ending) (w' : World) : Prop := ∃ v, e = .returned (.tuple #[v, .int .i64 n]) ∧ Own E t w' w.heap.size v xs ∧ Below w.heap.size w w'
def badM (m : Msg) : Bool := chkM m != 0
def normL (l : List Msg) : List Msg := comp (l.mergeSort leM)
def normR (l : List Msg) : List Msg × Int := if l.length > 64 then ([], 8) else if l.any badM = true then ([], 1) else (normL l, 0)
set_option maxHeartbeats 1000000 in
theorem compactM_none (A : Option Addr) (c : Nat) (w : World) : Calls Try.prog 64 #[.slice A 0 c] w fun e w' => e = .returned (.slice A 0 c) ∧ w = w' := by
  go_enter Try.func64, Try.ntmps64
  go_wp2
  go_ret
  exact ⟨rfl, rfl⟩
set_option maxHeartbeats 1000000 in
theorem bad_any (x : Msg) (w : World) : Calls Try.prog 61 #[x.v] w fun e w' => e = .returned (.bool (badM x)) ∧ Below w.heap.size w w' := by
  have hc := fun W => check_any x W
  unfold ChkPost at hc
  unfold badM
  generalize chkM x = r at hc ⊢
  go_enter Try.func61, Try.ntmps61
  go_wp2_with (go_at_call 47; refine (hc _).mono ?_; rintro e w' ⟨rfl, hb⟩)
  go_ret
  exact ⟨ret_b (by simp), below_then ((Below.refl _ _).alloc (Nat.le_refl _) _) (by simp) hb⟩
theorem enters38 : ∀ args w, (callFunc 61 args).run Try.prog w = .ok (.enter 61 args) w := enters_of Try.func61 (by kernel_rfl) rfl
theorem anyBad (l : List Msg) (A : Option Addr) (c : Nat) (w : World) (hR : Rd EMsg w A l) :
    Calls Try.prog 40 #[.slice A l.length c, .func (.func 61) #[] #[]] w fun e w' => e = .returned (.bool (l.any badM)) ∧ Below w.heap.size w w' :=
  containsFuncM l badM _ _ A c w hR enters38 (fun x W _ => bad_any x W)
set_option maxHeartbeats 2000000 in
theorem normal_large (l : List Msg) (A : Option Addr) (c : Nat) (w : World) (hR : Rd EMsg w A l) (h : l.length > 64) : Calls Try.prog 38 #[.slice A l.length c] w (Made2 EMsg 31 [] 8 w) := by
  have hle := hR.le
  clear hR
  go_enter Try.func38, Try.ntmps38
  go_wp2
  go_ret2
  exact ⟨_, rfl, Own.nil _ _ _ _, Below.refl _ _⟩
set_option maxHeartbeats 2000000 in
theorem normal_bad (l : List Msg) (A : Option Addr) (c : Nat) (w : World) (hR : Rd EMsg w A l) (h : l.length ≤ 64) (hb : l.any badM = true) : Calls Try.prog 38 #[.slice A l.length c] w (Made2 EMsg 31 [] 1 w) := by
  have hcon := anyBad l A c w hR
  rw [hb] at hcon
  clear hR hb
  go_enter Try.func38, Try.ntmps38
  go_wp2_with (go_at_call 40; refine hcon.mono ?_; rintro e w' ⟨rfl, hb'⟩)
  go_ret2
  exact ⟨_, rfl, Own.nil _ _ _ _, hb'⟩
set_option maxHeartbeats 4000000 in
theorem normal_ok (l : List Msg) (A : Option Addr) (c : Nat) (w : World) (hR : Rd EMsg w A l) (h : l.length ≤ 64) (hb : l.any badM = false) : Calls Try.prog 38 #[.slice A l.length c] w (Made2 EMsg 31 (normL l) 0 w) := by
  have hcon := anyBad l A c w hR
  rw [hb] at hcon
  have HR := hid_of hR
  clear hR hb
  go_enter Try.func38, Try.ntmps38
  go_wp2_with (go_at_call 40; refine hcon.mono ?_; rintro e w1 ⟨rfl, hb1⟩)
  clear hcon
  have hcl := cloneM l A c w1 (HR.out.below hb1) (by omega)
  unfold Made at hcl
  have HB1 := hid_of hb1
  clear hb1
  refine hcl.mono ?_
  rintro e w2 ⟨v, rfl, hO, hb2⟩
  clear hcl
  have HO := hid_of hO
  have HB2 := hid_of (below_then HB1.out HB1.out.size hb2)
  have hsz := HB1.out.size
  clear hO hb2
  by_cases hl0 : l = []
  · subst hl0
    obtain ⟨A', c', rfl, _, _⟩ := HO.out.rd
    go_wp2_with fail
    refine (sortM_none A' c' _ _).mono ?_
    rintro e w3 ⟨rfl, rfl⟩
    go_wp2_with fail
    refine (compactM_none A' c' _).mono ?_
    rintro e w4 ⟨rfl, rfl⟩
    go_wp2
    go_ret2
    rw [show normL [] = [] by simp [normL, comp]]
    exact ⟨_, rfl, HO.out.lower hsz, HB2.out⟩
  · have hpos : 0 < l.length := List.length_pos_iff.2 hl0
    have hh := HO.out
    obtain ⟨g, cap, rfl, hbg, hgl, hcap⟩ := HO.out.open_ hpos
    have hrow := HO.out.row
    have hs := sortM l g cap w2 hrow.1 (by omega)
    clear hh hl0
    go_wp2_with fail
    refine hs.mono ?_
    rintro e w3 ⟨rfl, hr3, hg3⟩
    have hc := compactM (l.mergeSort leM) g cap w3 hr3
    rw [List.length_mergeSort] at hc
    have HG3 := hid_of hg3
    clear hr3 hg3 hs hrow
    go_wp2_with fail
    refine hc.mono ?_
    rintro e w4 ⟨rfl, hr4, hg4⟩
    have HR4 := hid_of hr4
    have HG4 := hid_of hg4
    clear hr4 hg4 hc
    go_wp2
    go_ret2
    refine ⟨_, rfl, HR4.out.own (by omega), HB2.out.grown (World.grownBy.trans HG3.out HG4.out) HB2.out.size (fun k hk => by cases hk; omega)⟩
/-- What Normal returns. -/
theorem normal_any (l : List Msg) (A : Option Addr) (c : Nat) (w : World) (hR : Rd EMsg w A l) : Calls Try.prog 38 #[.slice A l.length c] w (Made2 EMsg 31 (normR l).1 (normR l).2 w) := by
  unfold normR
  by_cases h : l.length > 64
  · rw [if_pos h]; exact normal_large l A c w hR h
  · rw [if_neg h]
    by_cases hb : l.any badM = true
    · rw [if_pos hb]; exact normal_bad l A c w hR (by omega) hb
    · rw [if_neg hb]; exact normal_ok l A c w hR (by omega) (by simpa using hb)
end Go.Proofs.Ytfhlkkjochjhoaa
/- slices.Index, slices.Contains at api.Message. -/
namespace Go.Proofs.Ytfhlkkjochjhoaa
open Go.RowKit
attribute [local go_sem high] eqMsg
set_option maxHeartbeats 4000000 in
set_option maxRecDepth 100000 in
theorem indexM (xs : List Msg) (x : Msg) (A : Option Addr) (c : Nat) (w : World) (hR : Rd EMsg w A xs) :
    Calls Try.prog 60 #[.slice A xs.length c, x.v] w fun e w' => e = .returned (.int .i64 (fidx (fun y => decide (x = y)) xs)) ∧ Below w.heap.size w w' := by
  have hle := hR.le
  go_enter Try.func60, Try.ntmps60
  go_wp2
  go_loopg [5, 8] xs.length (fun gg _ s8 wr => ∃ k q : Nat, k ≤ xs.length ∧ xs.length - k ≤ gg ∧ s8 = .int .i64 k ∧ wr = (w.alloc (.cells #[.int .i64 x.mv, .int .i64 x.kd, .int .i64 x.nu, .int .i64 x.dy, .int .i64 x.fr, .int .i64 x.tt, .int .i64 x.al] 31)).drewN q ∧ Hid (∀ j (_ : j < k) (hj : j < xs.length), decide (x = xs[j]) = false))
  case atStart => exact ⟨0, 0, Nat.zero_le _, by omega, rfl, rfl, fun j hj => absurd hj (Nat.not_lt_zero _)⟩
  case round =>
    obtain ⟨k, q, hk, hg, rfl, rfl, HA⟩ := hrel
    by_cases hlt : k < xs.length
    · obtain ⟨ad, rfl, c0, c1, c2, c3, c4, c5, c6⟩ := Msg.at_ (hR.alloc (.cells #[.int .i64 x.mv, .int .i64 x.kd, .int .i64 x.nu, .int .i64 x.dy, .int .i64 x.fr, .int .i64 x.tt, .int .i64 x.al] 31)) k hlt
      have HX : Hid (Rd EMsg w (some ad) xs) := hR
      clear hR
      generalize hy : xs[k] = y at *
      have HY : Hid (xs[k] = y) := hy
      clear hy
      by_cases h0 : x = y
      · subst h0
        go_wp2_with fail
        go_quiet (fail)
        go_wp2_with fail
        go_ret
        refine ⟨?_, below_drewN (below_drewN ((Below.refl _ _).alloc (Nat.le_refl _) _) _) _⟩
        rw [fidx_hit (fun y => decide (x = y)) xs k hlt (by simpa using HY.out.symm) (fun j hj => HA.out j hj (by omega))]
        rfl
      · have h1 : decide (x = y) = false := by simpa using h0
        have H0 := hid_of h0
        clear h0
        go_wp2_with fail
        go_quiet (fail)
        go_wp2_with fail
        go_roundg (xs.length - (k + 1))
        case measure => omega
        case rel =>
          refine ⟨k + 1, q + nq, by omega, Nat.le_refl _, by go_num, by first | rfl | simp [World.drewN, Nat.add_assoc] | exact World.drewN_add .. , (show Hid _ from fun j hj hj' => ?_)⟩
          by_cases e : j = k
          · subst e
            rw [HY.out]; simpa using H0.out
          · exact HA.out j (by omega) hj'
    · have : k = xs.length := by omega
      subst this
      go_wp2_with fail
      go_ret
      refine ⟨?_, below_drewN ((Below.refl _ _).alloc (Nat.le_refl _) _) _⟩
      rw [fidx_miss (fun y => decide (x = y)) xs (fun j hj => HA.out j hj hj)]
      rfl
set_option maxHeartbeats 1000000 in
theorem containsM (xs : List Msg) (x : Msg) (A : Option Addr) (c : Nat) (w : World) (hR : Rd EMsg w A xs) :
    Calls Try.prog 37 #[.slice A xs.length c, x.v] w fun e w' => e = .returned (.bool (decide (x ∈ xs))) ∧ Below w.heap.size w w' := by
  have e1 : decide (x ∈ xs) = xs.any (fun y => decide (x = y)) := by
    rw [Bool.eq_iff_iff]; simp
  rw [e1, ← fidx_any]
  have hcon := fun W h => indexM xs x A c W (hR.below h)
  have HP := hid_of hR
  clear hR e1
  generalize fidx (fun y => decide (x = y)) xs = r at hcon ⊢
  have HC := hid_of hcon
  clear hcon
  go_enter Try.func37, Try.ntmps37
  go_wp2_with fail
  refine (HC.out _ ((Below.refl _ _).alloc (Nat.le_refl _) _)).mono ?_
  rintro e w' ⟨rfl, hb'⟩
  have HB := hid_of (below_then ((Below.refl _ _).alloc (Nat.le_refl _) _) (by simp) hb')
  clear hb'
  go_wp2_with fail
  go_ret
  exact ⟨rfl, HB.out⟩
end Go.Proofs.Ytfhlkkjochjhoaa
/- network.Deliver, network.Known: what they return. -/
namespace Go.Proofs.Ytfhlkkjochjhoaa
open Go.RowKit
set_option maxHeartbeats 4000000 in
theorem to_any (l : List Env) (s : List Int) (nd : Int) (A1 A2 : Option Addr) (c1 c2 : Nat) (w : World) (hR1 : Rd EEnv w A1 l) (hR2 : Rd EI w A2 s) :
    Calls Try.prog 49 #[.slice A1 l.length c1, .slice A2 s.length c2, .int .i64 nd] w (Made2 EEnv 33 (toR l s nd).1 (toR l s nd).2 w) := by
  unfold toR Made2
  by_cases ha : askR l s = 0
  · by_cases hn : nd < 1 ∨ nd > 99
    · rw [if_neg (by simp [ha]), if_pos hn]
      have hask := fun W (h : Below w.heap.size w W) => asked_any l s A1 A2 c1 c2 W (hR1.below h) (hR2.below h)
      rw [ha] at hask
      clear hR1 hR2 ha
      by_cases h0 : nd < 1
      · clear hn
        go_enter Try.func49, Try.ntmps49
        go_wp2_with fail
        refine (hask _ ((Below.refl _ _).alloc (Nat.le_refl _) _)).mono ?_
        rintro e w1 ⟨rfl, hb⟩
        have h5 : w1.cell? ⟨w.heap.size, 0, none⟩ = some (.int .i64 nd) := (blk_cell ((hb.block _ (by simp)).trans (blkN w (.cells #[.int .i64 nd] 3))) 0).trans rfl
        have HB := hid_of (below_then ((Below.refl _ _).alloc (Nat.le_refl _) _) (by simp) hb)
        clear hb hask
        go_wp2_with fail
        go_ret2
        exact ⟨_, rfl, Own.nil _ _ _ _, HB.out⟩
      · have h1 : 99 < nd := by omega
        clear hn
        go_enter Try.func49, Try.ntmps49
        go_wp2_with fail
        refine (hask _ ((Below.refl _ _).alloc (Nat.le_refl _) _)).mono ?_
        rintro e w1 ⟨rfl, hb⟩
        have h5 : w1.cell? ⟨w.heap.size, 0, none⟩ = some (.int .i64 nd) := (blk_cell ((hb.block _ (by simp)).trans (blkN w (.cells #[.int .i64 nd] 3))) 0).trans rfl
        have HB := hid_of (below_then ((Below.refl _ _).alloc (Nat.le_refl _) _) (by simp) hb)
        clear hb hask
        go_wp2_with fail
        go_ret2
        exact ⟨_, rfl, Own.nil _ _ _ _, HB.out⟩
    · rw [if_neg (by simp [ha]), if_neg hn]
      exact to_ok l s nd A1 A2 c1 c2 w hR1 hR2 ha (by omega) (by omega)
  · rw [if_pos ha]
    have hask := fun W (h : Below w.heap.size w W) => asked_any l s A1 A2 c1 c2 W (hR1.below h) (hR2.below h)
    generalize askR l s = a at hask ha ⊢
    have hne : (a != 0) = true := by simpa using ha
    clear hR1 hR2 ha
    go_enter Try.func49, Try.ntmps49
    go_wp2_with fail
    refine (hask _ ((Below.refl _ _).alloc (Nat.le_refl _) _)).mono ?_
    rintro e w1 ⟨rfl, hb⟩
    have HB := hid_of (below_then ((Below.refl _ _).alloc (Nat.le_refl _) _) (by simp) hb)
    clear hb hask
    go_wp2_with fail
    go_ret2
    exact ⟨_, rfl, Own.nil _ _ _ _, HB.out⟩
set_option maxHeartbeats 4000000 in
theorem deliver_any (l : List Env) (s : List Int) (nd : Int) (A1 A2 : Option Addr) (c1 c2 : Nat) (w : World) (hR1 : Rd EEnv w A1 l) (hR2 : Rd EI w A2 s) :
    Calls Try.prog 15 #[.slice A1 l.length c1, .slice A2 s.length c2, .int .i64 nd] w (Made2 EEnv 33 (toR l s nd).1 (toR l s nd).2 w) := by
  have h := to_any l s nd A1 A2 c1 c2 w hR1 hR2
  generalize toR l s nd = p at h ⊢
  obtain ⟨xs, n⟩ := p
  unfold Made2 at h ⊢
  dsimp only at h ⊢
  clear hR1 hR2
  go_enter Try.func15, Try.ntmps15
  go_wp2_with fail
  refine h.mono ?_
  rintro e w1 ⟨v, rfl, hO, hb⟩
  have HO := hid_of hO
  have HB := hid_of hb
  clear hO hb h
  go_wp2_with fail
  go_ret2
  exact ⟨_, rfl, HO.out, HB.out⟩
/-- The different messages of envelopes, as they come. -/
def knL (d : List Env) : List Msg := d.foldl (fun acc y => if y.m ∈ acc then acc else acc ++ [y.m]) []
theorem knL_snoc (d : List Env) (y : Env) : knL (d ++ [y]) = if y.m ∈ knL d then knL d else knL d ++ [y.m] := by unfold knL; rw [List.foldl_append]; rfl
theorem knL_len (d : List Env) : (knL d).length ≤ d.length := by
  suffices h : ∀ (d : List Env) (acc : List Msg), (d.foldl (fun acc y => if y.m ∈ acc then acc else acc ++ [y.m]) acc).length ≤ acc.length + d.length by
    have := h d []
    simpa [knL] using this
  intro d
  induction d with
  | nil => intro acc; simp
  | cons y d ih =>
    intro acc
    rw [List.foldl_cons]
    refine Nat.le_trans (ih _) ?_
    split
    · simp
    · simp; omega
def knownR (l : List Env) (s : List Int) (nd : Int) : List Msg × Int := if (toR l s nd).2 ≠ 0 then ([], (toR l s nd).2) else normR (knL (toR l s nd).1)
theorem dlv_len' (l : List Env) (s : List Int) (nd : Int) : (toR l s nd).1.length ≤ 256 := by
  unfold toR
  split
  · simp
  · rename_i h
    have ha : askR l s = 0 := by simpa using h
    have := (ask_ok ha).2.1
    split
    · simp
    · have h1 := toF_len nd (dlv l s)
      rw [dlv_len] at h1
      dsimp only [dlvTo]
      omega
set_option maxHeartbeats 8000000 in
set_option maxRecDepth 100000 in
theorem known_any (l : List Env) (s : List Int) (nd : Int) (A1 A2 : Option Addr) (c1 c2 : Nat) (w : World) (hR1 : Rd EEnv w A1 l) (hR2 : Rd EI w A2 s) :
    Calls Try.prog 18 #[.slice A1 l.length c1, .slice A2 s.length c2, .int .i64 nd] w (Made2 EMsg 31 (knownR l s nd).1 (knownR l s nd).2 w) := by
  have h := to_any l s nd A1 A2 c1 c2 w hR1 hR2
  have h256 := dlv_len' l s nd
  unfold knownR
  generalize toR l s nd = p at h h256 ⊢
  obtain ⟨xs, n⟩ := p
  unfold Made2 at h ⊢
  dsimp only at h h256 ⊢
  clear hR1 hR2
  by_cases hn : n = 0
  · subst hn
    rw [if_neg (by simp)]
    have hnm := fun A c W (h : Rd EMsg W A (knL xs)) => normal_any (knL xs) A c W h
    unfold Made2 at hnm
    have hct := fun (ms : List Msg) (x : Msg) A c W (h : Rd EMsg W A ms) => containsM ms x A c W h
    obtain ⟨i0, hi, hzz⟩ := Option.map_eq_some_iff.1 infoM
    simp only [Prod.mk.injEq] at hzz
    obtain ⟨hz0, hz1, hz2⟩ := hzz
    have HI : Hid (Try.prog.info? 31 = some i0 ∧ i0.zero = some (.agg #[.int .i64 0, .int .i64 0, .int .i64 0, .int .i64 0, .int .i64 0, .int .i64 0, .int .i64 0]) ∧ i0.size = 7 ∧ i0.bytes = 56) := ⟨hi, hz0, hz1, hz2⟩
    have HN := hid_of hnm
    have HC := hid_of hct
    clear hi hz0 hz1 hz2 hnm hct
    generalize hq : normR (knL xs) = q at HN ⊢
    obtain ⟨ns, en⟩ := q
    have HQ := hid_of hq
    clear hq
    go_enter Try.func18, Try.ntmps18
    go_wp2_with fail
    refine h.mono ?_
    rintro e w1 ⟨v, rfl, hO, hb⟩
    obtain ⟨A3, c3, rfl, hlc, hR3⟩ := hO.rd
    have HR := hid_of hR3
    have HB := hid_of hb
    clear hO hR3 hb h
    go_wp2_with fail
    go_loopg [10, 25] xs.length (fun gg s10 s25 wr => ∃ k : Nat, k ≤ xs.length ∧ xs.length - k ≤ gg ∧ s25 = .int .i64 k ∧ Hid (Own EMsg 31 wr w1.heap.size s10 (knL (xs.take k))) ∧ Hid (Below w1.heap.size w1 wr))
    case atStart => exact ⟨0, Nat.zero_le _, by omega, rfl, Own.nil _ _ _ _, Below.refl _ _⟩
    case round =>
      obtain ⟨k, hk, hg, rfl, HO, BW⟩ := hrel
      by_cases hlt : k < xs.length
      · obtain ⟨ad, rfl, e0, e1, e2, e3, e4, e5, e6, e7, e8, e9⟩ := Env.at_ (HR.out.below BW.out) k hlt
        have hsn := knL_snoc (xs.take k) xs[k]
        rw [← List.take_succ_eq_append_getElem hlt] at hsn
        have hkl := knL_len (xs.take k)
        rw [List.length_take] at hkl
        generalize knL (xs.take k) = ms at hsn hkl HO
        generalize xs[k] = x at e0 e1 e2 e3 e4 e5 e6 e7 e8 e9 hsn
        have HSN := hid_of hsn
        have hml : ms.length ≤ 256 := by omega
        clear hsn hkl
        obtain ⟨x0, x1, x2, ⟨m0, m1, m2, m3, m4, m5, m6⟩⟩ := x
        dsimp only at e0 e1 e2 e3 e4 e5 e6 e7 e8 e9
        obtain ⟨A4, c4, rfl, hlc4, hR4⟩ := HO.out.rd
        have hct := HC.out ms ⟨m0, m1, m2, m3, m4, m5, m6⟩ A4 c4 (wr.alloc (.cells #[.int .i64 x0, .int .i64 x1, .int .i64 x2, .int .i64 m0, .int .i64 m1, .int .i64 m2, .int .i64 m3, .int .i64 m4, .int .i64 m5, .int .i64 m6] 33)) (hR4.alloc _)
        have HA : Hid ((wr.alloc (.cells #[.int .i64 x0, .int .i64 x1, .int .i64 x2, .int .i64 m0, .int .i64 m1, .int .i64 m2, .int .i64 m3, .int .i64 m4, .int .i64 m5, .int .i64 m6] 33)).heap[wr.heap.size]? = some (.cells #[.int .i64 x0, .int .i64 x1, .int .i64 x2, .int .i64 m0, .int .i64 m1, .int .i64 m2, .int .i64 m3, .int .i64 m4, .int .i64 m5, .int .i64 m6] 33 (0, 0))) := blkN wr _
        have HO2 := hid_of (HO.out.alloc (.cells #[.int .i64 x0, .int .i64 x1, .int .i64 x2, .int .i64 m0, .int .i64 m1, .int .i64 m2, .int .i64 m3, .int .i64 m4, .int .i64 m5, .int .i64 m6] 33))
        have HB2 := hid_of (BW.out.alloc BW.out.size (.cells #[.int .i64 x0, .int .i64 x1, .int .i64 x2, .int .i64 m0, .int .i64 m1, .int .i64 m2, .int .i64 m3, .int .i64 m4, .int .i64 m5, .int .i64 m6] 33))
        clear hR4 HO BW
        dsimp only [Msg.v] at hct
        by_cases hm : (⟨m0, m1, m2, m3, m4, m5, m6⟩ : Msg) ∈ ms
        · rw [decide_eq_true hm] at hct
          have HM := hid_of hm
          clear hm
          go_wp2_with fail
          refine hct.mono ?_
          rintro e w2 ⟨rfl, hb⟩
          have HB3 := hid_of (below_then HB2.out HB2.out.size hb)
          have HO3 := hid_of (HO2.out.below hb)
          clear hb hct
          go_wp2_with fail
          go_roundg (xs.length - (k + 1))
          case measure => omega
          case rel =>
            refine ⟨k + 1, by omega, Nat.le_refl _, by go_num, ?_, HB3.out⟩
            rw [HSN.out, if_pos HM.out]
            exact HO3.out
        · rw [decide_eq_false hm] at hct
          have HM := hid_of hm
          clear hm
          go_wp2_with fail
          refine hct.mono ?_
          rintro e w2 ⟨rfl, hb⟩
          have HB3 := hid_of (below_then HB2.out HB2.out.size hb)
          have HO3 := hid_of (HO2.out.below hb)
          have hA := (hb.block _ (by simp)).trans HA.out
          have p3 := (blk_cell hA 3).trans (show _ = some (.int .i64 m0) from rfl)
          have p4 := (blk_cell hA 4).trans (show _ = some (.int .i64 m1) from rfl)
          have p5 := (blk_cell hA 5).trans (show _ = some (.int .i64 m2) from rfl)
          have p6 := (blk_cell hA 6).trans (show _ = some (.int .i64 m3) from rfl)
          have p7 := (blk_cell hA 7).trans (show _ = some (.int .i64 m4) from rfl)
          have p8 := (blk_cell hA 8).trans (show _ = some (.int .i64 m5) from rfl)
          have p9 := (blk_cell hA 9).trans (show _ = some (.int .i64 m6) from rfl)
          have hsz := HB3.out.size
          clear hb hct hA HO2 HB2 e0 e1 e2 e3 e4 e5 e6 e7 e8 e9
          go_wp2_with (at_builtin; refine wpList_append_own _ rfl _ _ 37 rfl w1.heap.size 31 i0 _ 7 56 Try.underlying37 HI.out.1 HI.out.2.1 HI.out.2.2.1 HI.out.2.2.2 rfl (by decide) _ _ _ rfl (HO3.out.alloc _) _ 1 _ (EMsg.flat [⟨m0, m1, m2, m3, m4, m5, m6⟩]) rfl ?qc1 ?qc2 ?qc3 ?qc4 ?qc5 ?qc6 ?_)
          case qc1 => rfl
          case qc2 =>
            intro j u hj
            rw [addr_plain, blk_cell (blkN _ _) j]
            simpa [Enc.flat, EMsg, Msg.cells] using hj
          case qc3 => exact EMsg.flat_one' _
          case qc4 => simp only [maxLen]; omega
          case qc5 => omega
          case qc6 => simp; omega
          intro v' w3 hown hgrow hnil
          have hown' : Own EMsg 31 w3 w1.heap.size v' (ms ++ [⟨m0, m1, m2, m3, m4, m5, m6⟩]) := by
            unfold Own; rw [EMsg.flat_append, List.length_append, List.length_singleton]; exact hown
          have hnb := fun k h => (HO3.out.block k h).1
          have HB4 := hid_of ((HB3.out.alloc hsz (.cells #[.int .i64 m0, .int .i64 m1, .int .i64 m2, .int .i64 m3, .int .i64 m4, .int .i64 m5, .int .i64 m6] 31)).grown hgrow (by simp; omega) hnb)
          have HO4 := hid_of hown'
          clear hown hown' hgrow hnil hnb HO3 HB3 p3 p4 p5 p6 p7 p8 p9
          go_wp2_with fail
          go_roundg (xs.length - (k + 1))
          case measure => omega
          case rel =>
            refine ⟨k + 1, by omega, Nat.le_refl _, by go_num, ?_, HB4.out⟩
            rw [HSN.out, if_neg HM.out]
            exact HO4.out
      · have hkl : k = xs.length := by omega
        subst hkl
        have ho := HO.out
        rw [List.take_length] at ho
        obtain ⟨A4, c4, rfl, hlc4, hR4⟩ := ho.rd
        have hc := HN.out A4 c4 wr hR4
        have HB2 := hid_of (below_then HB.out HB.out.size BW.out)
        clear ho hR4 HO BW
        go_wp2_with fail
        refine hc.mono ?_
        rintro e w2 ⟨v, rfl, hO, hb⟩
        have HO := hid_of (hO.lower HB2.out.size)
        have HB3 := hid_of (below_then HB2.out HB2.out.size hb)
        clear hO hb hc
        go_wp2_with fail
        go_ret2
        exact ⟨_, rfl, HO.out, HB3.out⟩
  · rw [if_pos hn]
    have hne : (n != 0) = true := by simpa using hn
    clear hn
    go_enter Try.func18, Try.ntmps18
    go_wp2_with fail
    refine h.mono ?_
    rintro e w1 ⟨v, rfl, hO, hb⟩
    obtain ⟨A3, c3, rfl, hlc, hR3⟩ := hO.rd
    have HB := hid_of hb
    clear hO hR3 hb h
    go_wp2_with fail
    go_ret2
    exact ⟨_, rfl, Own.nil _ _ _ _, HB.out⟩
end Go.Proofs.Ytfhlkkjochjhoaa
/- network.firsts: the places of the first deliveries. -/
namespace Go.Proofs.Ytfhlkkjochjhoaa
open Go.RowKit Go.Shelf
/-- The map of first places behind some deliveries. -/
def frStep (m : List (Int × Int)) (n : Nat) (i : Int) : List (Int × Int) := if (mget m i).isSome = true then m else mput m i n
def frM : List Int → List (Int × Int) := fun s => (s.foldl (fun (p : List (Int × Int) × Nat) i => (frStep p.1 p.2 i, p.2 + 1)) ([], 0)).1
theorem frM_aux (s : List Int) : (s.foldl (fun (p : List (Int × Int) × Nat) i => (frStep p.1 p.2 i, p.2 + 1)) ([], 0)).2 = s.length := by
  suffices h : ∀ (s : List Int) (p : List (Int × Int) × Nat), (s.foldl (fun (p : List (Int × Int) × Nat) i => (frStep p.1 p.2 i, p.2 + 1)) p).2 = p.2 + s.length by
    rw [h]; simp
  intro s
  induction s with
  | nil => intro p; simp
  | cons i s ih => intro p; rw [List.foldl_cons, ih]; simp; omega
theorem frM_snoc (s : List Int) (i : Int) : frM (s ++ [i]) = frStep (frM s) s.length i := by
  unfold frM
  rw [List.foldl_append]
  simp only [List.foldl_cons, List.foldl_nil]
  rw [frM_aux]
theorem keyI : KeyOK Try.prog 3 (fun x : Int => .int .i64 x) := keyInt Try.underlying3
/-- What lies in memory between two rounds. -/
def FrI (b : Nat) (pre : List (Int × Env)) (W : World) : Prop := IsMap (fun x : Int => Value.int .i64 x) (Value.int .i64) W b (frM (pre.map (·.1)))
theorem FrI_own (b B : Nat) (h : b < B) : OwnFrom B (fun pre W => FrI b pre W) := fun s W W' row hs hg hr => IsMap.grown hs hg (fun e => by have := (hr b e.symm).1; omega)
attribute [local go_sem] Oper.semAt_some
set_option maxRecDepth 100000 in
set_option maxHeartbeats 8000000 in
theorem firsts_ok (l : List Env) (s : List Int) (A1 A2 : Option Addr) (c1 c2 : Nat) (w : World) (hR1 : Rd EEnv w A1 l) (hR2 : Rd EI w A2 s) (ha : askR l s = 0) :
    Calls Try.prog 54 #[.slice A1 l.length c1, .slice A2 s.length c2] w fun e w' => e = .returned (.map (some w.heap.size)) ∧ IsMap (fun x : Int => Value.int .i64 x) (Value.int .i64) w' w.heap.size (frM s) ∧ Below w.heap.size w w' := by
  obtain ⟨hr0, hs256, hv⟩ := ask_ok ha
  have HR1 := hid_of hR1
  have HR2 := hid_of hR2
  have HV := hid_of hv
  have hmm := @run_makeMap Try.prog
  clear hR1 hR2 ha hr0 hv
  refine (callsIn_wide (n := 4)).1 ?_
  refine callsIn_of_wp_marks Try.func54 rfl trivial ?_ rfl
  simp only [Try.ntmps54, List.size_toArray, List.length_cons, List.length_nil, Nat.reduceAdd, Nat.reduceSub, Array.replicate_succ, Array.replicate_zero, List.push_toArray, List.append_toArray, List.nil_append, List.cons_append]
  have hF69 : Fence.wide.fn 69 := trivial
  gi_wp2_with fail
  refine (dl_in _ _ trivial rfl A2 A1 s.length l.length c2 c1 _).mono ?_
  rintro e w' ⟨rfl, rfl⟩
  gi_wp2_with fail
  have bM := (((Boxed.new (w.alloc (.map #[] 0)) 77 (.map (some w.heap.size))).alloc (.cells #[.int .i64 0] 3)).alloc (.cells #[.slice A1 l.length c1] 22)).alloc (.cells #[.slice A2 s.length c2] 23)
  have bA := ((Boxed.new ((w.alloc (.map #[] 0)).alloc (.cells #[.map (some w.heap.size)] 77)) 3 (.int .i64 0)).alloc (.cells #[.slice A1 l.length c1] 22)).alloc (.cells #[.slice A2 s.length c2] 23)
  have b2 := (Boxed.new (((w.alloc (.map #[] 0)).alloc (.cells #[.map (some w.heap.size)] 77)).alloc (.cells #[.int .i64 0] 3)) 22 (.slice A1 l.length c1)).alloc (.cells #[.slice A2 s.length c2] 23)
  have b1 := Boxed.new ((((w.alloc (.map #[] 0)).alloc (.cells #[.map (some w.heap.size)] 77)).alloc (.cells #[.int .i64 0] 3)).alloc (.cells #[.slice A1 l.length c1] 22)) 23 (.slice A2 s.length c2)
  have hm0 : FrI w.heap.size [] (((((w.alloc (.map #[] 0)).alloc (.cells #[.map (some w.heap.size)] 77)).alloc (.cells #[.int .i64 0] 3)).alloc (.cells #[.slice A1 l.length c1] 22)).alloc (.cells #[.slice A2 s.length c2] 23)) := ((((IsMap.made (fun x : Int => Value.int .i64 x) (Value.int .i64) w).alloc _).alloc _).alloc _).alloc _
  simp only [World.size_alloc] at bM bA b1 b2
  have hB0 : Below w.heap.size w (((((w.alloc (.map #[] 0)).alloc (.cells #[.map (some w.heap.size)] 77)).alloc (.cells #[.int .i64 0] 3)).alloc (.cells #[.slice A1 l.length c1] 22)).alloc (.cells #[.slice A2 s.length c2] 23)) := (((((Below.refl _ w).alloc (Nat.le_refl _) _).alloc (by simp) _).alloc (by simp; omega) _).alloc (by simp; omega) _).alloc (by simp; omega) _
  have hsz : ((((((w.alloc (.map #[] 0)).alloc (.cells #[.map (some w.heap.size)] 77)).alloc (.cells #[.int .i64 0] 3)).alloc (.cells #[.slice A1 l.length c1] 22)).alloc (.cells #[.slice A2 s.length c2] 23))).heap.size = w.heap.size + 5 := by simp
  obtain ⟨W0, hW0⟩ : ∃ W0, (((((w.alloc (.map #[] 0)).alloc (.cells #[.map (some w.heap.size)] 77)).alloc (.cells #[.int .i64 0] 3)).alloc (.cells #[.slice A1 l.length c1] 22)).alloc (.cells #[.slice A2 s.length c2] 23)) = W0 := ⟨_, rfl⟩
  rw [hW0] at bM bA b1 b2 hB0 hsz hm0 ⊢
  clear hW0
  refine wpIn_rangeFunc_ownG rfl (by decide) (gf := 78) (lb := #[.pointer (some ⟨w.heap.size + 1 + 1 + 1 + 1, 0, none⟩), .pointer (some ⟨w.heap.size + 1 + 1 + 1, 0, none⟩)]) rfl trivial (enters_of Try.func78 (by kernel_rfl) rfl)
    (dl_stops Fence.wide (4 - 1) trivial rfl (by decide) (w.heap.size + 1 + 1 + 1 + 1) (w.heap.size + 1 + 1 + 1) l s A2 A1 c2 c1 w W0 HV.out HR2.out HR1.out hB0 b1.cell b2.cell) KpD.t (KpD.b (by omega) (by omega)) (Below.refl _ _) (fun _ => rfl)
    (fun pre W => (FrI w.heap.size pre W ∧ (Boxed W (w.heap.size + 1) 77 (.map (some w.heap.size)) ∧ Boxed W (w.heap.size + 1 + 1) 3 (.int .i64 pre.length) ∧ Boxed W (w.heap.size + 1 + 1 + 1) 22 (.slice A1 l.length c1))) ∧ Below w.heap.size w W)
    (fun _ _ _ => False)
    (OwnFrom.and (OwnFrom.and (FrI_own _ _ (by omega)) (OwnFrom.and (Go.Own.from (boxed_own _ _ _) _) (OwnFrom.and (Go.Own.from (boxed_own _ _ (fun pre : List (Int × Env) => Value.int .i64 pre.length)) _) (Go.Own.from (boxed_own _ _ _) _)))) (ownFrom_below (Nat.le_refl _) (by omega)))
    (fun _ _ _ _ _ hs _ _ => hs)
    ⟨⟨hm0, bM, bA, b2⟩, hB0⟩
    (fun x => { tmps := #[.slice A1 l.length c1, .slice A2 s.length c2, undef, undef, .map none, .pointer (some ⟨w.heap.size + 1, 0, none⟩), .pointer (some ⟨w.heap.size + 1 + 1, 0, none⟩), .int .i64 x.1, undef, undef, .map (some w.heap.size), .slice A1 l.length c1, .slice A2 s.length c2, .func (.func 78) #[] #[.pointer (some ⟨w.heap.size + 1 + 1 + 1 + 1, 0, none⟩), .pointer (some ⟨w.heap.size + 1 + 1 + 1, 0, none⟩)], .int .i64 x.1, x.2.v, undef, undef, undef, undef, undef, undef, undef, undef, undef, undef, undef, undef, undef, undef], defers := [] }) ?assign ?body ?done ?stop
  case assign =>
    intro lp x W K hK
    gi_wp2
    exact hK
  case body =>
    rintro lp pre x W ⟨⟨hM, bM, bA, b2⟩, hB⟩ hlt
    have hcM := bM.cell
    have hcA := bA.cell
    have hfA := bA.frozen
    have hlen : pre.length < 9223372036854775807 := by omega
    have hlk := (IsMap.lookup keyI hM Try.underlying77 (Try.zeroValue3 W) x.1).2
    have hsn : frM ((pre ++ [x]).map (·.1)) = frStep (frM (pre.map (·.1))) pre.length x.1 := by
      rw [List.map_append, List.map_singleton, frM_snoc, List.length_map]
    have HSN := hid_of hsn
    have HM := hid_of hM
    have HB2 := hid_of b2
    have HBM := hid_of bM
    have HBA := hid_of bA
    clear hsn hM b2 bM bA
    generalize hg : mget (frM (pre.map (·.1))) x.1 = g at hlk
    have HGG := hid_of hg
    clear hg
    cases g with
    | some v =>
      dsimp only [Option.isSome] at hlk
      have hst : frM ((pre ++ [x]).map (·.1)) = frM (pre.map (·.1)) := by
        rw [HSN.out]; unfold frStep; rw [HGG.out]; rfl
      have HST := hid_of hst
      clear hst
      gi_wp2
      have hbx : Boxed (W.setCell ⟨w.heap.size + 1 + 1, 0, none⟩ (.int .i64 ((pre.length : Int) + 1))) (w.heap.size + 1 + 1) 3 (.int .i64 ((pre ++ [x]).length : Nat)) := by
        have := HBA.out.set (.int .i64 ((pre.length : Int) + 1))
        rw [List.length_append, List.length_singleton]
        exact this
      refine ⟨(KeepsOthers.setCell _ _ _).from _, ⟨(Below.refl _ W).setCell (p := ⟨w.heap.size + 1 + 1, 0, none⟩) (by show _ ≤ _; simp; omega) _, fun u hu => ?_⟩, ⟨?_, HBM.out.other (by omega) _, hbx, HB2.out.other (by omega) _⟩, hB.setCell (p := ⟨w.heap.size + 1 + 1, 0, none⟩) (by show _ ≤ _; simp; omega) _⟩
      · rw [HB2.out.cell] at hu
        rw [(HB2.out.other (by omega) _).cell, hu]
      · unfold FrI
        rw [HST.out]
        exact IsMap.cells HM.out _ _
    | none =>
      dsimp only [Option.isSome] at hlk
      have hst : frM ((pre ++ [x]).map (·.1)) = mput (frM (pre.map (·.1))) x.1 (pre.length : Int) := by
        rw [HSN.out]; unfold frStep; rw [HGG.out]; rfl
      obtain ⟨w2, hup, hm2, hg2⟩ := IsMap.update keyI HM.out Try.underlying77 x.1 (pre.length : Int)
      have bA2 := HBA.out.kept hg2 (by simp; try omega)
      have bM2 := HBM.out.kept hg2 (by simp; try omega)
      have b22 := HB2.out.kept hg2 (by simp; try omega)
      have hcA2 := bA2.cell
      have hfA2 := bA2.frozen
      have HST := hid_of hst
      have HM2 := hid_of hm2
      have HG2 := hid_of hg2
      have HA2 := hid_of bA2
      have HBM2 := hid_of bM2
      have HB22 := hid_of b22
      clear hst hm2 hg2 bA2 bM2 b22
      gi_wp2
      have hbx : Boxed (w2.setCell ⟨w.heap.size + 1 + 1, 0, none⟩ (.int .i64 ((pre.length : Int) + 1))) (w.heap.size + 1 + 1) 3 (.int .i64 ((pre ++ [x]).length : Nat)) := by
        have := HA2.out.set (.int .i64 ((pre.length : Int) + 1))
        rw [List.length_append, List.length_singleton]
        exact this
      have hbb : Below w.heap.size W w2 := (Below.refl _ W).grown HG2.out hB.size (fun k e => by cases e; exact Nat.le_refl _)
      refine ⟨(KeepsFrom.of_grownBy HG2.out (fun j e => by cases e; omega)).trans ((KeepsOthers.setCell _ _ _).from _), ⟨hbb.setCell (p := ⟨w.heap.size + 1 + 1, 0, none⟩) (by show _ ≤ _; simp; omega) _, fun u hu => ?_⟩, ⟨?_, HBM2.out.other (by omega) _, hbx, HB22.out.other (by omega) _⟩, (hB.trans hbb).setCell (p := ⟨w.heap.size + 1 + 1, 0, none⟩) (by show _ ≤ _; simp; omega) _⟩
      · rw [HB2.out.cell] at hu
        rw [(HB22.out.other (by omega) _).cell, hu]
      · unfold FrI
        rw [HST.out]
        exact IsMap.cells HM2.out _ _
  case done =>
    rintro D ys W hD rfl ⟨⟨hM, hbM, _⟩, hB⟩ hK
    have hc := hbM.cell
    have hm2 := hM
    unfold FrI at hm2
    have e1 : (dlv l s).map (·.1) = s := by simp [dlv, Function.comp_def]
    rw [e1] at hm2
    gi_wp2
    refine ⟨by simp, .inl ⟨_, _, rfl, run_takeDeferred hK, ?_⟩⟩
    exact ⟨_, results_tmp rfl _ _ _, rfl, IsMap.grown hm2 (grownBy_putObj' W D _) (fun e => by cases e; omega), hB.trans (belowK_b (w := w) (Nat.le_refl _) W D _ _ (by omega) hK rfl rfl)⟩
  case stop =>
    rintro D c pre W _ _ h _
    exact h.elim
end Go.Proofs.Ytfhlkkjochjhoaa
/- First places of numbers in a list: plain lists. -/
namespace Go.Proofs.Ytfhlkkjochjhoaa
open Go.RowKit
theorem snocI_ind {P : List Int → Prop} (h0 : P []) (h1 : ∀ l x, P l → P (l ++ [x])) : ∀ l, P l := by
  intro l
  rw [← List.reverse_reverse l]
  induction l.reverse with
  | nil => exact h0
  | cons x r ih => rw [List.reverse_cons]; exact h1 _ _ ih
/-- The first place of i in s; -1 if there is none. -/
def fstI (s : List Int) (i : Int) : Int := fidx (fun x => decide (x = i)) s
/-- Each number once, where it comes first. -/
def once : List Int → List Int := fun s => s.foldl (fun acc x => if x ∈ acc then acc else acc ++ [x]) []
theorem once_snoc (s : List Int) (i : Int) : once (s ++ [i]) = if i ∈ once s then once s else once s ++ [i] := by unfold once; rw [List.foldl_append]; rfl
theorem once_mem : ∀ (s : List Int) (i : Int), i ∈ once s ↔ i ∈ s := by
  refine snocI_ind (fun i => by simp [once]) (fun s x ih i => ?_)
  rw [once_snoc]
  split
  · rename_i h
    rw [ih i, List.mem_append, List.mem_singleton]
    constructor
    · exact .inl
    · rintro (h2 | rfl)
      · exact h2
      · exact (ih i).1 h
  · rw [List.mem_append, List.mem_append, ih i]
theorem once_nodup : ∀ s : List Int, (once s).Nodup := by
  refine snocI_ind (by simp [once]) (fun s x ih => ?_)
  rw [once_snoc]
  split
  · exact ih
  · rename_i h
    rw [List.nodup_append]
    exact ⟨ih, by simp, fun a ha b hb e => by simp only [List.mem_singleton] at hb; subst hb; subst e; exact h ha⟩
theorem fstI_mem {s : List Int} {i : Int} : 0 ≤ fstI s i ↔ i ∈ s := by
  have := fidx_any (fun x => decide (x = i)) s
  unfold fstI
  rw [← decide_eq_true_iff (p := 0 ≤ fidx (fun x => decide (x = i)) s), this, List.any_eq_true]
  constructor
  · rintro ⟨x, hx, h⟩
    rw [← of_decide_eq_true h]; exact hx
  · intro h; exact ⟨i, h, by simp⟩
theorem fstI_no {s : List Int} {i : Int} (h : i ∉ s) : fstI s i = -1 := by
  unfold fstI
  exact fidx_miss _ _ (fun j hj => by simp; rintro rfl; exact h (List.getElem_mem _))
theorem fstI_snoc (s : List Int) (x i : Int) : fstI (s ++ [x]) i = if i ∈ s then fstI s i else if x = i then (s.length : Int) else -1 := by
  by_cases h : i ∈ s
  · rw [if_pos h]
    unfold fstI fidx
    rw [List.findIdx?_append]
    cases hf : s.findIdx? (fun x => decide (x = i)) with
    | none =>
      have := List.findIdx?_eq_none_iff.1 hf i h
      simp at this
    | some k => simp
  · rw [if_neg h]
    have hf : s.findIdx? (fun x => decide (x = i)) = none := List.findIdx?_eq_none_iff.2 (fun y hy => by simp; rintro rfl; exact h hy)
    unfold fstI fidx
    rw [List.findIdx?_append, hf]
    by_cases hx : x = i
    · subst hx; simp
    · simp [hx]
theorem fstI_lt {s : List Int} {i : Int} : fstI s i < s.length := by
  unfold fstI fidx
  split
  · rename_i k h
    have := (List.findIdx?_eq_some_iff_getElem.1 h).1
    omega
  · omega
structure FrC (s : List Int) (m : List (Int × Int)) : Prop where
  key : m.map (·.1) = once s
  val : ∀ p ∈ m, p.2 = fstI s p.1
theorem mget_key {m : List (Int × Int)} {i : Int} : (mget m i).isSome = true ↔ i ∈ m.map (·.1) := by
  unfold mget
  rw [Option.isSome_map]
  constructor
  · intro h
    obtain ⟨p, hp⟩ := Option.isSome_iff_exists.1 h
    exact List.mem_map.2 ⟨p, List.mem_of_find?_eq_some hp, by simpa using List.find?_some hp⟩
  · intro h
    obtain ⟨p, hp, rfl⟩ := List.mem_map.1 h
    rw [List.find?_isSome]
    exact ⟨p, hp, by simp⟩
theorem frM_char : ∀ s : List Int, FrC s (frM s) := by
  refine snocI_ind ⟨by simp [frM, once], by simp [frM]⟩ (fun s x ih => ?_)
  obtain ⟨hk, hv⟩ := ih
  rw [frM_snoc]
  unfold frStep
  have hmem : (mget (frM s) x).isSome = true ↔ x ∈ s := by rw [mget_key, hk, once_mem]
  by_cases h : x ∈ s
  · rw [if_pos (hmem.2 h)]
    refine ⟨?_, fun p hp => ?_⟩
    · rw [once_snoc, if_pos ((once_mem s x).2 h), hk]
    · rw [fstI_snoc, if_pos]
      · exact hv p hp
      · rw [← once_mem, ← hk]; exact List.mem_map.2 ⟨p, hp, rfl⟩
  · rw [if_neg (fun e => h (hmem.1 e))]
    unfold mput
    rw [if_neg (fun e => h (hmem.1 e))]
    refine ⟨?_, fun p hp => ?_⟩
    · rw [List.map_append, hk, once_snoc, if_neg (fun e => h ((once_mem s x).1 e))]; rfl
    · rcases List.mem_append.1 hp with hp | hp
      · rw [fstI_snoc, if_pos]
        · exact hv p hp
        · rw [← once_mem, ← hk]; exact List.mem_map.2 ⟨p, hp, rfl⟩
      · simp only [List.mem_singleton] at hp
        subst hp
        rw [fstI_snoc, if_neg h, if_pos rfl]
theorem frM_get (s : List Int) (i : Int) : mget (frM s) i = if i ∈ s then some (fstI s i) else none := by
  obtain ⟨hk, hv⟩ := frM_char s
  by_cases h : i ∈ s
  · rw [if_pos h]
    have : (mget (frM s) i).isSome = true := by rw [mget_key, hk, once_mem]; exact h
    obtain ⟨v, hv'⟩ := Option.isSome_iff_exists.1 this
    rw [hv']
    unfold mget at hv'
    cases hf : (frM s).find? (fun p => decide (p.1 = i)) with
    | none => rw [hf] at hv'; cases hv'
    | some p =>
      rw [hf] at hv'
      simp only [Option.map_some, Option.some.injEq] at hv'
      have hp1 : p.1 = i := by simpa using List.find?_some hf
      have := hv p (List.mem_of_find?_eq_some hf)
      rw [← hv', this, hp1]
  · rw [if_neg h]
    cases hm : mget (frM s) i with
    | none => rfl
    | some v =>
      have : (mget (frM s) i).isSome = true := by rw [hm]; rfl
      rw [mget_key, hk, once_mem] at this
      exact absurd this h
theorem frM_len (s : List Int) : (frM s).length = (once s).length := by rw [← (frM_char s).key, List.length_map]
theorem once_len (s : List Int) : (once s).length ≤ s.length := by
  have : ∀ s : List Int, (once s).length ≤ s.length := snocI_ind (by simp [once]) (fun s x ih => by
    rw [once_snoc]
    split
    · simp; omega
    · simp; omega)
  exact this s
/-- What is lost. -/
def lostL (n : Nat) (s : List Int) : Nat → List Int
  | 0 => []
  | k + 1 => if (k : Int) ∈ s then lostL n s k else lostL n s k ++ [(k : Int)]
def lostR (l : List Env) (s : List Int) : List Int × Int := if askR l s ≠ 0 then ([], askR l s) else (lostL l.length s l.length, 0)
def repR (l : List Env) (s : List Int) : Int × Int := if askR l s ≠ 0 then (0, askR l s) else ((s.length : Int) - (once s).length, 0)
/-- The pairs that are crossed. -/
def crossE (m : List (Int × Int)) (p : Int × Int) : Nat := (m.filter (fun q => decide (p.1 < q.1) && decide (q.2 < p.2))).length
def crossM (m : List (Int × Int)) : Nat := (m.map (crossE m)).sum
def crR (l : List Env) (s : List Int) : Int × Int := if askR l s ≠ 0 then (0, askR l s) else ((crossM (frM s) : Nat), 0)
theorem lostL_len (n : Nat) (s : List Int) : ∀ k, (lostL n s k).length ≤ k
  | 0 => by simp [lostL]
  | k + 1 => by
    have := lostL_len n s k
    unfold lostL
    split
    · omega
    · simp; omega
end Go.Proofs.Ytfhlkkjochjhoaa
/- slices.Clone at int. -/
namespace Go.Proofs.Ytfhlkkjochjhoaa
open Go.RowKit
theorem infoI : (Try.prog.info? 3).map (fun i => (i.zero, i.size, i.bytes)) = some (some (.int .i64 0), 1, 8) := by kernel_rfl
set_option maxHeartbeats 2000000 in
theorem cloneI (xs : List Int) (A : Option Addr) (c : Nat) (w : World) (hR : Rd EI w A xs) (hl : xs.length * 8 ≤ 140737488355328) :
    Calls Try.prog 16 #[.slice A xs.length c] w (Made EI 3 xs w) := by
  have hq : ∀ (w : World) (a : Option Addr) (n c n' c' : Nat), (binOp .eql 23 (.slice a n c) (.slice none n' c')).run Try.prog w = .ok (.bool a.isNone) w := fun w a n c n' c' => Lib.run_eql_slice_nil w _ _ a n c n' c' Try.underlying23
  obtain ⟨i0, hi, hzz⟩ := Option.map_eq_some_iff.1 infoI
  simp only [Prod.mk.injEq] at hzz
  obtain ⟨hz0, hz1, hz2⟩ := hzz
  cases A with
  | none =>
    have h0 : xs = [] := by
      rcases Nat.eq_zero_or_pos xs.length with h | h
      · exact List.eq_nil_of_length_eq_zero h
      · obtain ⟨ad, h, _⟩ := hR.2 h; cases h
    subst h0
    clear hR hl hi hz0 hz1 hz2
    go_enter Try.func16, Try.ntmps16
    go_wp2
    go_ret
    exact ⟨_, rfl, Own.nil _ _ _ _, Below.refl _ _⟩
  | some ad =>
    have hc : ∀ j u, (EI.flat xs)[j]? = some u → w.cell? (ad.add j) = some u := fun j u hu => by
      have hlen : 0 < xs.length := by
        rcases Nat.eq_zero_or_pos xs.length with h | h
        · rw [List.eq_nil_of_length_eq_zero h] at hu; simp [Enc.flat] at hu
        · exact h
      obtain ⟨ad', h, hc⟩ := hR.2 hlen
      cases h
      exact hc j u hu
    have HC : Hid (∀ j u, (EI.flat xs)[j]? = some u → w.cell? (ad.add j) = some u) := hc
    clear hc hR
    go_enter Try.func16, Try.ntmps16
    go_wp2_with (at_builtin; refine wpList_append_own _ rfl _ _ 23 rfl w.heap.size 3 i0 _ 1 8 Try.underlying23 hi hz0 hz1 hz2 rfl (by decide) _ _ _ rfl (World.ownsRow_made w #[] 0 (Nat.le_refl _) (Nat.zero_le _) (by simp)) ad xs.length c (EI.flat xs) rfl ?qc1 ?qc2 ?qc3 ?qc4 ?qc5 ?qc6 ?_)
    case qc1 => exact EI.flat_length xs
    case qc2 => intro j u hj; exact cell_below ((Below.refl _ _).alloc (Nat.le_refl _) _) (HC.out j u hj)
    case qc3 => exact EI.flat_one' xs
    case qc4 => simp only [maxLen]; omega
    case qc5 => rw [Nat.zero_add]; exact hl
    case qc6 => simp
    intro v' w1 hown hgrow hnil
    have hb : Below w.heap.size w w1 := ((Below.refl _ w).alloc (Nat.le_refl _) _).grown hgrow (by simp) (by intro k hk; simp [Value.ownBlock] at hk; omega)
    have hown' : Own EI 3 w1 w.heap.size v' xs := by
      exact hown
    have HO := hid_of hown'
    clear hown hown' hgrow hnil
    go_wp2
    go_ret
    exact ⟨_, rfl, HO.out, hb⟩
end Go.Proofs.Ytfhlkkjochjhoaa
