/- Joined texts of the seat: contracts and plain laws that the rows import. -/
import Derived.Test.YtfhlkkjochjhoaaK2
import Derived.Test.YtfhlkkjochjhoaaK12
set_option linter.unusedVariables false
set_option linter.unusedSimpArgs false
/- slices.Index, slices.Contains at int. -/
namespace Go.Proofs.Ytfhlkkjochjhoaa
open Go.RowKit
set_option maxHeartbeats 1000000 in
theorem indexI (xs : List Int) (x : Int) (A : Option Addr) (c : Nat) (w : World) (hR : Rd EI w A xs) :
    Calls Try.prog 56 #[.slice A xs.length c, .int .i64 x] w fun e w' => e = .returned (.int .i64 (fidx (fun y => decide (x = y)) xs)) ∧ w = w' := by
  have hle := hR.le
  go_enter Try.func56, Try.ntmps56
  go_wp2
  go_loopg [5, 8] xs.length (fun gg _ s8 wr => ∃ k : Nat, k ≤ xs.length ∧ xs.length - k ≤ gg ∧ s8 = .int .i64 k ∧ w = wr ∧ Hid (∀ j (_ : j < k) (hj : j < xs.length), decide (x = xs[j]) = false))
  case atStart => exact ⟨0, Nat.zero_le _, by omega, rfl, rfl, fun j hj => absurd hj (Nat.not_lt_zero _)⟩
  case round =>
    obtain ⟨k, hk, hg, rfl, rfl, HA⟩ := hrel
    by_cases hlt : k < xs.length
    · obtain ⟨ad, rfl, c0⟩ := I.at_ hR k hlt
      have HX : Hid (Rd EI w (some ad) xs) := hR
      clear hR
      generalize hy : xs[k] = y at *
      have HY : Hid (xs[k] = y) := hy
      clear hy
      by_cases h0 : x = y
      · have h1 : (x == y) = true := by simpa using h0
        have H0 := hid_of h0
        clear h0
        go_wp2
        go_ret
        refine ⟨?_, rfl⟩
        rw [fidx_hit (fun y => decide (x = y)) xs k hlt (by simpa using H0.out.trans HY.out.symm) (fun j hj => HA.out j hj (by omega))]
        rfl
      · have h1 : (x == y) = false := by simpa using h0
        have H0 := hid_of h0
        clear h0
        go_wp2
        go_roundg (xs.length - (k + 1))
        case measure => omega
        case rel =>
          refine ⟨k + 1, by omega, by omega, by go_num, rfl, (show Hid _ from fun j hj hj' => ?_)⟩
          by_cases e : j = k
          · subst e
            rw [HY.out]; simpa using H0.out
          · exact HA.out j (by omega) hj'
    · have : k = xs.length := by omega
      subst this
      go_wp2
      go_ret
      refine ⟨?_, rfl⟩
      rw [fidx_miss (fun y => decide (x = y)) xs (fun j hj => HA.out j hj hj)]
      rfl
set_option maxHeartbeats 1000000 in
theorem containsI (xs : List Int) (x : Int) (A : Option Addr) (c : Nat) (w : World) (hR : Rd EI w A xs) :
    Calls Try.prog 30 #[.slice A xs.length c, .int .i64 x] w fun e w' => e = .returned (.bool (decide (x ∈ xs))) ∧ w = w' := by
  have e1 : decide (x ∈ xs) = xs.any (fun y => decide (x = y)) := by
    rw [Bool.eq_iff_iff]; simp
  rw [e1, ← fidx_any]
  have hcon := indexI xs x A c w hR
  clear hR e1
  generalize fidx (fun y => decide (x = y)) xs = r at hcon ⊢
  go_enter Try.func30, Try.ntmps30
  go_wp2_with (go_at_call 56; refine hcon.mono ?_; rintro e w' ⟨rfl, rfl⟩)
  go_ret
  exact ⟨rfl, rfl⟩
end Go.Proofs.Ytfhlkkjochjhoaa
/- NetworkTurned returns true. -/
namespace Go.Proofs.Ytfhlkkjochjhoaa
open Go.RowKit
theorem lfew_any (n m : Nat) (A B : Option Addr) (c d : Nat) (w : World) (hn : n ≤ 9223372036854775807) (hm : m ≤ 9223372036854775807) : Calls Try.prog 29 #[.slice A n c, .slice B m d] w fun e w' => e = .returned (.bool (decide (n ≤ 14 ∧ m ≤ 24))) ∧ w = w' := by
  by_cases h1 : n ≤ 14
  · by_cases h2 : m ≤ 24
    · have g1 : ((n : Int) ≤ 14) := by omega
      have g2 : ((m : Int) ≤ 24) := by omega
      rw [decide_eq_true ⟨h1, h2⟩]
      clear h1 h2
      go_enter Try.func29, Try.ntmps29
      go_wp2
      go_ret
      exact ⟨rfl, rfl⟩
    · have g1 : ((n : Int) ≤ 14) := by omega
      have g2 : ¬ ((m : Int) ≤ 24) := by omega
      rw [decide_eq_false (fun h => h2 h.2)]
      clear h1 h2
      go_enter Try.func29, Try.ntmps29
      go_wp2
      go_ret
      exact ⟨rfl, rfl⟩
  · have g1 : ¬ ((n : Int) ≤ 14) := by omega
    rw [decide_eq_false (fun h => h1 h.1)]
    clear h1
    go_enter Try.func29, Try.ntmps29
    go_wp2
    go_ret
    exact ⟨rfl, rfl⟩
theorem half24 {n p : Nat} (hn : n ≤ 24) (hg : 2 * p = n * (n - 1)) : ((p : Int) == wrap64 ((wrap64 ((n : Int) * ((n : Int) - 1))).tdiv 2)) = true := by
  have key : ∀ n : Fin 25, ((((n.val * (n.val - 1)) / 2 : Nat) : Int) == wrap64 ((wrap64 ((n.val : Int) * ((n.val : Int) - 1))).tdiv 2)) = true := by decide +kernel
  have e : p = n * (n - 1) / 2 := by omega
  rw [e]
  exact key ⟨n, by omega⟩
set_option maxHeartbeats 8000000 in
set_option maxRecDepth 100000 in
theorem lturned_any (l : List Env) (A : Option Addr) (c : Nat) (s : List Int) (B : Option Addr) (d : Nat) (w : World) (hR1 : Rd EEnv w A l) (hR2 : Rd EI w B s) : Calls Try.prog 7 #[.slice A l.length c, .slice B s.length d] w (LatPost true w) := by
  unfold LatPost
  have hle1 := hR1.le
  have hle2 := hR2.le
  have hfew := fun W => lfew_any l.length s.length A B c d W hle1 hle2
  by_cases hs : l.length ≤ 14 ∧ s.length ≤ 24
  · rw [decide_eq_true hs] at hfew
    obtain ⟨i0, hi, hzz⟩ := Option.map_eq_some_iff.1 infoI
    simp only [Prod.mk.injEq] at hzz
    obtain ⟨hz0, hz1, hz2⟩ := hzz
    have HI : Hid (Try.prog.info? 3 = some i0 ∧ i0.zero = some (.int .i64 0) ∧ i0.size = 1 ∧ i0.bytes = 8) := ⟨hi, hz0, hz1, hz2⟩
    clear hi hz0 hz1 hz2
    have hq := turnedP l s
    have hol := once_len s
    obtain ⟨on, hon⟩ : ∃ on, on = once s := ⟨_, rfl⟩
    rw [← hon] at hq hol
    have hcl := fun W (h : Below w.heap.size w W) => cloneE l A c W (hR1.below h) (by omega)
    have hcs := fun W (h : Below w.heap.size w W) => cloneI s B d W (hR2.below h) (by omega)
    have h1 := fun A B c d W (h : Rd EEnv W A l) (h' : Rd EI W B s) => crossed_any l s A B c d W h h'
    have h2 := fun A B c d W (h : Rd EEnv W A l) (h' : Rd EI W B on) => crossed_any l on A B c d W h h'
    have h3 := fun A B c d W (h : Rd EEnv W A l) (h' : Rd EI W B on.reverse) => crossed_any l on.reverse A B c d W h h'
    unfold R2 at h1 h2 h3
    unfold Made at hcl hcs
    generalize crR l s = p1 at h1 hq
    generalize crR l on = p2 at h2 hq
    generalize crR l on.reverse = p3 at h3 hq
    obtain ⟨cv, e1⟩ := p1
    dsimp only at h1 hq
    have HCL := hid_of hcl
    have HCS := hid_of hcs
    have H1 := hid_of h1
    have H2 := hid_of h2
    have H3 := hid_of h3
    have HQ := hid_of hq
    have HS1 := hid_of hs
    have HON := hid_of hon
    have HOL := hid_of hol
    have R0 := hid_of hR2
    clear hcl hcs h1 h2 h3 hq hs hon hol hR1 hR2
    go_enter Try.func7, Try.ntmps7
    go_wp2_with fail
    refine (awake_any _).mono ?_
    rintro e w1 ⟨rfl, hb⟩
    have HB := hid_of hb
    clear hb
    go_wp2_with fail
    refine (hfew _).mono ?_
    rintro e w' ⟨rfl, rfl⟩
    go_wp2_with fail
    refine (HCL.out w1 HB.out).mono ?_
    rintro e w3 ⟨v, rfl, hO, hb⟩
    obtain ⟨Aa, ca, rfl, _, hR⟩ := hO.rd
    replace HB := hid_of (below_then HB.out HB.out.size hb)
    have Ra := hid_of hR
    clear hO hR hb
    go_wp2_with fail
    refine (HCS.out w3 HB.out).mono ?_
    rintro e w4 ⟨v, rfl, hO, hb⟩
    obtain ⟨Ab, cb, rfl, _, hR⟩ := hO.rd
    replace Ra := hid_of (Ra.out.below hb)
    replace HB := hid_of (below_then HB.out HB.out.size hb)
    have Rb := hid_of hR
    clear hO hR hb
    go_wp2_with fail
    refine (H1.out Aa Ab ca cb w4 Ra.out Rb.out).mono ?_
    rintro e w5 ⟨rfl, hb⟩
    replace Ra := hid_of (Ra.out.below hb)
    replace Rb := hid_of (Rb.out.below hb)
    replace HB := hid_of (below_then HB.out HB.out.size hb)
    clear hb
    clear Ra Rb
    rcases HQ.out with ⟨he, hc0⟩ | ⟨he, cn, g, hc1, hp2, hp3, hg⟩
    · have he' : (e1 == 0) = false := by simpa using he
      subst hc0
      clear he
      go_wp2_with fail
      go_ret
      exact ⟨rfl, HB.out⟩
    · simp only [Prod.mk.injEq] at hc1
      obtain ⟨rfl, rfl⟩ := hc1
      subst hp2
      subst hp3
      have HG := hid_of hg
      clear he HQ hg
      go_wp2_with fail
      go_loopg [7, 9, 34] s.length (fun gg s7 _ s34 wr => ∃ k : Nat, k ≤ s.length ∧ s.length - k ≤ gg ∧ s34 = .int .i64 k ∧ Hid (Own EI 3 wr w.heap.size s7 (once (s.take k))) ∧ Hid (Below w.heap.size w wr))
      case atStart => exact ⟨0, Nat.zero_le _, by omega, rfl, Own.nil _ _ _ _, HB.out⟩
      case round =>
        obtain ⟨k, hk, hg, rfl, HO, BW⟩ := hrel
        by_cases hlt : k < s.length
        · obtain ⟨ad, hA, c0⟩ := I.at_ (R0.out.below BW.out) k hlt
          subst hA
          have hll := once_len (s.take k)
          rw [List.length_take, Nat.min_eq_left hk] at hll
          have hsn := once_snoc (s.take k) s[k]
          rw [← List.take_succ_eq_append_getElem hlt] at hsn
          generalize once (s.take k) = ls at HO hll hsn
          generalize s[k] = x at c0 hsn
          have HSN := hid_of hsn
          have hsz := BW.out.size
          obtain ⟨A1, k1, rfl, hcap, hRl⟩ := HO.out.rd
          have hcon := containsI ls x A1 k1 wr hRl
          have hs24 := HS1.out.2
          clear hsn hRl
          by_cases hm : x ∈ ls
          · rw [decide_eq_true hm] at hcon
            have HM := hid_of hm
            clear hm
            go_wp2_with (go_at_call 30; refine hcon.mono ?_; rintro e w' ⟨rfl, rfl⟩)
            go_roundg (s.length - (k + 1))
            case measure => omega
            case rel =>
              refine ⟨k + 1, by omega, Nat.le_refl _, by go_num, ?_, BW.out⟩
              rw [HSN.out, if_pos HM.out]
              exact HO.out
          · rw [decide_eq_false hm] at hcon
            have HM := hid_of hm
            clear hm
            go_wp2_with fail
            refine hcon.mono ?_
            rintro e w' ⟨rfl, rfl⟩
            go_wp2_with (at_builtin; refine wpList_append_own _ rfl _ _ 23 rfl w.heap.size 3 i0 _ 1 8 Try.underlying23 HI.out.1 HI.out.2.1 HI.out.2.2.1 HI.out.2.2.2 rfl (by decide) _ _ _ rfl (HO.out.alloc _) _ 1 _ (EI.flat [x]) rfl ?qc1 ?qc2 ?qc3 ?qc4 ?qc5 ?qc6 ?_)
            case qc1 => rfl
            case qc2 =>
              intro j u hj
              rw [addr_plain, blk_cell (blkN _ _) j]
              simpa [Enc.flat, EI] using hj
            case qc3 => exact EI.flat_one' _
            case qc4 => simp only [maxLen]; omega
            case qc5 => omega
            case qc6 => simp; omega
            intro v' w3 hown hgrow hnil
            have hown' : Own EI 3 w3 w.heap.size v' (ls ++ [x]) := by
              unfold Own; rw [EI.flat_append, List.length_append, List.length_singleton]; exact hown
            have hnb := fun k h => (HO.out.block k h).1
            have HB4 := hid_of ((BW.out.alloc hsz (.cells #[.int .i64 x] 3)).grown hgrow (by simp; omega) hnb)
            have HO4 := hid_of hown'
            clear hown hown' hgrow hnil hnb HO BW
            go_wp2_with fail
            go_roundg (s.length - (k + 1))
            case measure => omega
            case rel =>
              refine ⟨k + 1, by omega, Nat.le_refl _, by go_num, ?_, HB4.out⟩
              rw [HSN.out, if_neg HM.out]
              exact HO4.out
        · have hkl : k = s.length := by omega
          subst hkl
          replace HB := BW
          have ho := HO.out
          rw [List.take_length, ← HON.out] at ho
          replace HO := hid_of ho
          clear ho
          obtain ⟨As, cs, rfl, hcap, hRs⟩ := HO.out.rd
          have RS := hid_of hRs
          have hS56 : on.length * 8 ≤ 140737488355328 := by have := HOL.out; have := HS1.out; omega
          clear hRs BW
          go_wp2_with fail
          refine (HCL.out wr HB.out).mono ?_
          rintro e w6 ⟨v, rfl, hO, hb⟩
          obtain ⟨Aa, ca, rfl, _, hR⟩ := hO.rd
          replace RS := hid_of (RS.out.below hb)
          replace HO := hid_of (HO.out.below hb)
          replace HB := hid_of (below_then HB.out HB.out.size hb)
          have Ra := hid_of hR
          clear hO hR hb
          go_wp2_with fail
          refine (cloneI on As cs _ RS.out hS56).mono ?_
          rintro e w7 ⟨v, rfl, hO, hb⟩
          obtain ⟨Ab, cb, rfl, _, hR⟩ := hO.rd
          replace RS := hid_of (RS.out.below hb)
          replace Ra := hid_of (Ra.out.below hb)
          replace HO := hid_of (HO.out.below hb)
          replace HB := hid_of (below_then HB.out HB.out.size hb)
          have Rb := hid_of hR
          clear hO hR hb
          go_wp2_with fail
          refine (H2.out Aa Ab ca cb w7 Ra.out Rb.out).mono ?_
          rintro e w8 ⟨rfl, hb⟩
          replace RS := hid_of (RS.out.below hb)
          replace Ra := hid_of (Ra.out.below hb)
          replace Rb := hid_of (Rb.out.below hb)
          replace HO := hid_of (HO.out.below hb)
          replace HB := hid_of (below_then HB.out HB.out.size hb)
          clear hb
          clear Ra Rb
          have hrv := reverseI on _ w.heap.size w8 HO.out HB.out.size
          go_wp2_with fail
          refine hrv.mono ?_
          rintro e wz ⟨rfl, hO, hb⟩
          replace HB := hid_of (HB.out.trans hb)
          obtain ⟨Az, cz, hv, _, hRz⟩ := hO.rd
          simp only [Value.slice.injEq] at hv
          obtain ⟨rfl, hlz, rfl⟩ := hv
          have RZ := hid_of hRz
          clear hrv hb hO hRz RS HO hlz
          go_wp2_with fail
          refine (HCL.out wz HB.out).mono ?_
          rintro e w9 ⟨v, rfl, hO, hb⟩
          obtain ⟨Aa, ca, rfl, _, hR⟩ := hO.rd
          replace RZ := hid_of (RZ.out.below hb)
          replace HB := hid_of (below_then HB.out HB.out.size hb)
          have Ra := hid_of hR
          clear hO hR hb
          have hcz := cloneI on.reverse As cs _ RZ.out (by rw [List.length_reverse]; exact hS56)
          rw [List.length_reverse] at hcz
          go_wp2_with fail
          refine (hcz).mono ?_
          rintro e w10 ⟨v, rfl, hO, hb⟩
          obtain ⟨Ab, cb, rfl, _, hR⟩ := hO.rd
          replace RZ := hid_of (RZ.out.below hb)
          replace Ra := hid_of (Ra.out.below hb)
          replace HB := hid_of (below_then HB.out HB.out.size hb)
          have Rb := hid_of hR
          clear hO hR hb hcz
          have hc := H3.out Aa Ab ca cb w10 Ra.out Rb.out
          rw [List.length_reverse] at hc
          go_wp2_with fail
          refine (hc).mono ?_
          rintro e w11 ⟨rfl, hb⟩
          replace RZ := hid_of (RZ.out.below hb)
          replace Ra := hid_of (Ra.out.below hb)
          replace Rb := hid_of (Rb.out.below hb)
          replace HB := hid_of (below_then HB.out HB.out.size hb)
          clear hb hc
          clear Ra Rb RZ
          have hn24 : on.length ≤ 24 := by have := HOL.out; have := HS1.out; omega
          have hfin : (wrap64 ((cn : Int) + (g : Int)) == wrap64 ((wrap64 ((on.length : Int) * ((on.length : Int) - 1))).tdiv 2)) = true := by
            have h := half24 (n := on.length) (p := cn + g) hn24 HG.out
            have h2 := Nat.mul_le_mul hn24 (show on.length - 1 ≤ 23 by omega)
            have h3 := HG.out
            have hw : wrap64 ((cn : Int) + (g : Int)) = ((cn + g : Nat) : Int) := by unfold wrap64; omega
            rw [hw]; exact h
          have hc0 : (0 : Int) ≤ (cn : Int) := by omega
          clear hn24
          go_wp2_with fail
          go_ret
          exact ⟨rfl, HB.out⟩
  · have hf : decide (l.length ≤ 14 ∧ s.length ≤ 24) = false := decide_eq_false hs
    rw [hf] at hfew
    clear hs hf hR1 hR2
    go_enter Try.func7, Try.ntmps7
    go_wp2_with fail
    refine (awake_any _).mono ?_
    rintro e w1 ⟨rfl, hb⟩
    have HB := hid_of hb
    clear hb
    go_wp2_with fail
    refine (hfew _).mono ?_
    rintro e w' ⟨rfl, rfl⟩
    go_wp2_with fail
    go_ret
    exact ⟨rfl, HB.out⟩
end Go.Proofs.Ytfhlkkjochjhoaa
