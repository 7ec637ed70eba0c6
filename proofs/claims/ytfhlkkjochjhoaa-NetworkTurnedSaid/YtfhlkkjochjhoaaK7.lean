/- Joined texts of the seat: contracts and plain laws that the rows import. -/
import Derived.Test.YtfhlkkjochjhoaaK6
import Derived.Test.YtfhlkkjochjhoaaK3
import Derived.Test.YtfhlkkjochjhoaaK2
import Derived.Deep.LoopGhost
import Derived.Deep.QuietTactic
import Derived.BigQuiet
import Derived.Outline
set_option linter.unusedVariables false
set_option linter.unusedSimpArgs false
/- network.Lost, Repeated: what they return. -/
namespace Go.Proofs.Ytfhlkkjochjhoaa
open Go.RowKit
theorem mapLen {kv : Int → Value} {vv : Int → Value} {w : World} {b : Nat} {m : List (Int × Int)} (h : IsMap kv vv w b m) (ty : TypeId) : (Builtin.len_ #[77] ty #[.map (some b)]).run Try.prog w = .ok (.int .i64 m.length) w := by
  obtain ⟨es, clock, hb, he, _⟩ := h
  simp [Builtin.len_, run_underlying Try.underlying77, getObj_map hb, size_eq he, goInt]
set_option maxHeartbeats 4000000 in
theorem repeated_any (l : List Env) (s : List Int) (A1 A2 : Option Addr) (c1 c2 : Nat) (w : World) (hR1 : Rd EEnv w A1 l) (hR2 : Rd EI w A2 s) :
    Calls Try.prog 24 #[.slice A1 l.length c1, .slice A2 s.length c2] w (R2 (repR l s) w) := by
  have hle := hR2.le
  have hask := asked_any l s A1 A2 c1 c2 w hR1 hR2
  unfold R2 repR
  by_cases ha : askR l s = 0
  · have hf := fun W (h : Below w.heap.size w W) => firsts_ok l s A1 A2 c1 c2 W (hR1.below h) (hR2.below h) ha
    have h256 := (ask_ok ha).2.1
    have hol := once_len s
    have hfl := frM_len s
    rw [if_neg (by simp [ha])]
    rw [ha] at hask
    have HFL := hid_of hfl
    clear hR1 hR2 ha hfl
    go_enter Try.func24, Try.ntmps24
    go_wp2_with fail
    refine hask.mono ?_
    rintro e w1 ⟨rfl, hb⟩
    have hc := hf w1 hb
    have HB := hid_of hb
    clear hask hf hb
    go_wp2_with fail
    refine hc.mono ?_
    rintro e w2 ⟨rfl, hm, hb⟩
    have hml := mapLen hm
    rw [HFL.out] at hml
    have HB2 := hid_of (below_then HB.out HB.out.size hb)
    clear hb hm hc
    go_wp2_with fail
    go_ret2
    exact ⟨by simp, HB2.out⟩
  · rw [if_pos ha]
    generalize askR l s = a at hask ha ⊢
    have hne : (a != 0) = true := by simpa using ha
    clear hR1 hR2 ha
    go_enter Try.func24, Try.ntmps24
    go_wp2_with fail
    refine hask.mono ?_
    rintro e w1 ⟨rfl, hb⟩
    have HB := hid_of hb
    clear hask hb
    go_wp2_with fail
    go_ret2
    exact ⟨rfl, HB.out⟩
set_option maxHeartbeats 4000000 in
set_option maxRecDepth 100000 in
theorem lost_any (l : List Env) (s : List Int) (A1 A2 : Option Addr) (c1 c2 : Nat) (w : World) (hR1 : Rd EEnv w A1 l) (hR2 : Rd EI w A2 s) :
    Calls Try.prog 22 #[.slice A1 l.length c1, .slice A2 s.length c2] w (Made2 EI 3 (lostR l s).1 (lostR l s).2 w) := by
  have hle := hR1.le
  have hask := asked_any l s A1 A2 c1 c2 w hR1 hR2
  unfold Made2 lostR
  by_cases ha : askR l s = 0
  · have hf := fun W (h : Below w.heap.size w W) => firsts_ok l s A1 A2 c1 c2 W (hR1.below h) (hR2.below h) ha
    have hnr := (ask_ok ha).1
    have hl64 : l.length ≤ 64 := by
      unfold netR at hnr
      split at hnr
      · cases hnr
      · omega
    rw [if_neg (by simp [ha])]
    rw [ha] at hask
    obtain ⟨i0, hi, hzz⟩ := Option.map_eq_some_iff.1 infoI
    simp only [Prod.mk.injEq] at hzz
    obtain ⟨hz0, hz1, hz2⟩ := hzz
    have HI : Hid (Try.prog.info? 3 = some i0 ∧ i0.zero = some (.int .i64 0) ∧ i0.size = 1 ∧ i0.bytes = 8) := ⟨hi, hz0, hz1, hz2⟩
    clear hR1 hR2 ha hnr hi hz0 hz1 hz2
    go_enter Try.func22, Try.ntmps22
    go_wp2_with fail
    refine hask.mono ?_
    rintro e w1 ⟨rfl, hb⟩
    have hc := hf w1 hb
    have HB := hid_of hb
    clear hask hf hb
    go_wp2_with fail
    refine hc.mono ?_
    rintro e w2 ⟨rfl, hm, hb⟩
    have HM := hid_of hm
    have HB2 := hid_of (below_then HB.out HB.out.size hb)
    clear hb hm hc HB
    go_wp2_with fail
    go_loopg [8, 23] l.length (fun gg s8 s23 wr => ∃ k : Nat, k ≤ l.length ∧ l.length - k ≤ gg ∧ s23 = .int .i64 k ∧ Hid (Own EI 3 wr w2.heap.size s8 (lostL l.length s k)) ∧ Hid (Below w2.heap.size w2 wr))
    case atStart => exact ⟨0, Nat.zero_le _, by omega, rfl, Own.nil _ _ _ _, Below.refl _ _⟩
    case round =>
      obtain ⟨k, hk, hg, rfl, HO, BW⟩ := hrel
      by_cases hlt : k < l.length
      · have hlk := (IsMap.lookup keyI (HM.out.below BW.out) Try.underlying77 (Try.zeroValue3 wr) (k : Int)).2
        rw [frM_get] at hlk
        have hll := lostL_len l.length s k
        have hsn : lostL l.length s (k + 1) = if (k : Int) ∈ s then lostL l.length s k else lostL l.length s k ++ [(k : Int)] := rfl
        generalize lostL l.length s k = ls at HO hll hsn
        have HSN := hid_of hsn
        have hsz := BW.out.size
        clear hsn
        by_cases hm : (k : Int) ∈ s
        · rw [if_pos hm] at hlk
          dsimp only [Option.isSome] at hlk
          have HMM := hid_of hm
          clear hm
          go_wp2_with fail
          go_roundg (l.length - (k + 1))
          case measure => omega
          case rel =>
            refine ⟨k + 1, by omega, Nat.le_refl _, by go_num, ?_, BW.out⟩
            rw [HSN.out, if_pos HMM.out]
            exact HO.out
        · rw [if_neg hm] at hlk
          dsimp only [Option.isSome] at hlk
          have HMM := hid_of hm
          clear hm
          go_wp2_with (at_builtin; refine wpList_append_own _ rfl _ _ 23 rfl w2.heap.size 3 i0 _ 1 8 Try.underlying23 HI.out.1 HI.out.2.1 HI.out.2.2.1 HI.out.2.2.2 rfl (by decide) _ _ _ rfl (HO.out.alloc _) _ 1 _ (EI.flat [(k : Int)]) rfl ?qc1 ?qc2 ?qc3 ?qc4 ?qc5 ?qc6 ?_)
          case qc1 => rfl
          case qc2 =>
            intro j u hj
            rw [addr_plain, blk_cell (blkN _ _) j]
            simpa [Enc.flat, EI] using hj
          case qc3 => exact EI.flat_one' _
          case qc4 => simp only [maxLen]; omega
          case qc5 => omega
          case qc6 => simp; omega
          intro v' w3 hown hgrow hnil
          have hown' : Own EI 3 w3 w2.heap.size v' (ls ++ [(k : Int)]) := by
            unfold Own; rw [EI.flat_append, List.length_append, List.length_singleton]; exact hown
          have hnb := fun k h => (HO.out.block k h).1
          have HB4 := hid_of ((BW.out.alloc hsz (.cells #[.int .i64 k] 3)).grown hgrow (by simp; omega) hnb)
          have HO4 := hid_of hown'
          clear hown hown' hgrow hnil hnb HO BW
          go_wp2_with fail
          go_roundg (l.length - (k + 1))
          case measure => omega
          case rel =>
            refine ⟨k + 1, by omega, Nat.le_refl _, by go_num, ?_, HB4.out⟩
            rw [HSN.out, if_neg HMM.out]
            exact HO4.out
      · have hkl : k = l.length := by omega
        subst hkl
        have HB3 := hid_of (below_then HB2.out HB2.out.size BW.out)
        go_wp2_with fail
        go_ret2
        exact ⟨_, rfl, HO.out.lower HB2.out.size, HB3.out⟩
  · rw [if_pos ha]
    generalize askR l s = a at hask ha ⊢
    have hne : (a != 0) = true := by simpa using ha
    clear hR1 hR2 ha
    go_enter Try.func22, Try.ntmps22
    go_wp2_with fail
    refine hask.mono ?_
    rintro e w1 ⟨rfl, hb⟩
    have HB := hid_of hb
    clear hask hb
    go_wp2_with fail
    go_ret2
    exact ⟨_, rfl, Own.nil _ _ _ _, HB.out⟩
end Go.Proofs.Ytfhlkkjochjhoaa
/- network.Crossed: what it returns. -/
namespace Go.Proofs.Ytfhlkkjochjhoaa
open Go.RowKit
def crB (p q : Int × Int) : Bool := decide (p.1 < q.1) && decide (q.2 < p.2)
def c1 (m : List (Int × Int)) (p : Int × Int) (j : Nat) : Nat := match m[j]? with | some q => if crB p q = true then 1 else 0 | none => 0
def c2 (m : List (Int × Int)) (i : Nat) : Nat := match m[i]? with | some p => crossE m p | none => 0
theorem sum_perm {l1 l2 : List Nat} (h : l1.Perm l2) : l1.sum = l2.sum := by
  induction h with
  | nil => rfl
  | cons x _ ih => simp [ih]
  | swap x y l => simp; omega
  | trans _ _ ih1 ih2 => exact ih1.trans ih2
theorem sum_cover (f : Nat → Nat) {n : Nat} {idx : List Nat} (hn : idx.Nodup) (hl : ∀ i ∈ idx, i < n) (ha : ∀ i, i < n → i ∈ idx) : (idx.map f).sum = ((List.range n).map f).sum := by
  refine sum_perm (List.Perm.map f ((List.perm_ext_iff_of_nodup hn List.nodup_range).2 (fun i => ?_)))
  rw [List.mem_range]
  exact ⟨hl i, ha i⟩
theorem sum_get (m : List (Int × Int)) (f : Int × Int → Nat) : ((List.range m.length).map (fun i => match m[i]? with | some p => f p | none => 0)).sum = (m.map f).sum := by
  congr 1
  apply List.ext_getElem
  · simp
  · intro i h1 h2
    simp at h1
    simp [h1]
theorem crossE_sum (m : List (Int × Int)) (p : Int × Int) : ((List.range m.length).map (c1 m p)).sum = crossE m p := by
  have h := sum_get m (fun q => if crB p q = true then 1 else 0)
  have e : (fun i => match m[i]? with | some q => if crB p q = true then 1 else 0 | none => 0) = c1 m p := rfl
  rw [e] at h
  rw [h]
  unfold crossE crB
  generalize m = l
  induction l with
  | nil => rfl
  | cons q l ih =>
    rw [List.map_cons, List.sum_cons, ih, List.filter_cons]
    split
    · simp; omega
    · simp
theorem crossM_sum (m : List (Int × Int)) : ((List.range m.length).map (c2 m)).sum = crossM m := sum_get m (crossE m)
theorem c1_le (m : List (Int × Int)) (p : Int × Int) (j : Nat) : c1 m p j ≤ 1 := by
  unfold c1; split
  · split <;> omega
  · omega
theorem sum_le (f : Nat → Nat) (c : Nat) (hf : ∀ i, f i ≤ c) (l : List Nat) : (l.map f).sum ≤ l.length * c := by
  induction l with
  | nil => simp
  | cons x l ih => rw [List.map_cons, List.sum_cons, List.length_cons, Nat.add_mul, Nat.one_mul]; have := hf x; omega
theorem crossE_le (m : List (Int × Int)) (p : Int × Int) : crossE m p ≤ m.length := List.length_filter_le _ _
theorem c2_le (m : List (Int × Int)) (i : Nat) : c2 m i ≤ m.length := by
  unfold c2; split
  · exact crossE_le _ _
  · omega
theorem sum_snoc (f : Nat → Nat) (l : List Nat) (x : Nat) : ((l ++ [x]).map f).sum = (l.map f).sum + f x := by simp
theorem iter_idx {κ ν : Type} {kv : κ → Value} {vv : ν → Value} {w : World} {r b : Nat} {m : List (κ × ν)} {idx : List Nat} (h : IterAt kv vv w r b m idx) : idx.Nodup ∧ (∀ i ∈ idx, i < m.length) ∧ idx.length ≤ m.length := by
  obtain ⟨es, clock, seen, _, _, _, _, _, h1, h2, _⟩ := h
  exact ⟨h1, h2, nodup_le _ _ h1 h2⟩
set_option maxHeartbeats 8000000 in
set_option maxRecDepth 100000 in
theorem crossed_any (l : List Env) (s : List Int) (A1 A2 : Option Addr) (k1 k2 : Nat) (w : World) (hR1 : Rd EEnv w A1 l) (hR2 : Rd EI w A2 s) :
    Calls Try.prog 26 #[.slice A1 l.length k1, .slice A2 s.length k2] w (R2 (crR l s) w) := by
  have hask := asked_any l s A1 A2 k1 k2 w hR1 hR2
  unfold R2 crR
  by_cases ha : askR l s = 0
  · have hf := fun W (h : Below w.heap.size w W) => firsts_ok l s A1 A2 k1 k2 W (hR1.below h) (hR2.below h) ha
    have h256 : (frM s).length ≤ 256 := by
      rw [frM_len]
      have := once_len s
      have := (ask_ok ha).2.1
      omega
    rw [if_neg (by simp [ha])]
    rw [ha] at hask
    clear hR1 hR2 ha
    generalize frM s = m at hf h256 ⊢
    go_enter Try.func26, Try.ntmps26
    go_wp2_with fail
    refine hask.mono ?_
    rintro e w1 ⟨rfl, hb⟩
    have hc := hf w1 hb
    have HB := hid_of hb
    clear hask hf hb
    go_wp2_with fail
    refine hc.mono ?_
    rintro e w2 ⟨rfl, hm, hb⟩
    have hbl := hm.lt
    obtain ⟨o, hrun, hit⟩ := hm.range (P := Try.prog) Try.underlying77
    have HIT := hid_of hit
    have HM := hid_of (hm.alloc o)
    have HB2 := hid_of ((below_then HB.out HB.out.size hb).alloc (by have := HB.out.size; have := hb.size; omega) o)
    have hsz2 : w.heap.size ≤ w2.heap.size := by have := HB.out.size; have := hb.size; omega
    clear hb hm hc HB hit
    generalize w1.heap.size = b at hrun HIT HM hbl ⊢
    go_wp2_with fail
    go_loopg [8] m.length (fun gg s8 wr => ∃ (idx : List Nat) (u : Nat), m.length - idx.length ≤ gg ∧ s8 = .int .i64 u ∧ Hid (IterAt (fun x : Int => Value.int .i64 x) (Value.int .i64) wr w2.heap.size b m idx) ∧ Hid (u = (idx.map (c2 m)).sum) ∧ Hid (IsMap (fun x : Int => Value.int .i64 x) (Value.int .i64) wr b m) ∧ Hid (Below w.heap.size w wr))
    case atStart => exact ⟨[], 0, by omega, rfl, HIT.out, rfl, HM.out, HB2.out⟩
    case round =>
      clear hrun HIT HM HB2
      obtain ⟨idx, u, hgi, rfl, HIT, HU, HM, BW⟩ := hrel
      obtain ⟨hnd, hil, hilen⟩ := iter_idx HIT.out
      have hul := sum_le (c2 m) m.length (c2_le m) idx
      rw [← HU.out] at hul
      have hul2 : u ≤ 65536 := Nat.le_trans hul (Nat.mul_le_mul (Nat.le_trans hilen h256) h256)
      rcases HIT.out.next (P := Try.prog) (by omega) with ⟨hrun, hall⟩ | ⟨i, p, w3, hmi, hni, hrun, hit3, hg3, hent, _⟩
      · have hu : u = crossM m := by rw [HU.out, sum_cover (c2 m) hnd hil hall, crossM_sum]
        have HUU := hid_of hu
        clear hall hu hnd hil hul
        go_wp2_with fail
        go_ret2
        refine ⟨?_, BW.out⟩
        rw [HUU.out]
        rfl
      · have hi2 : i < m.length := (List.getElem?_eq_some_iff.1 hmi).1
        have hilt := HIT.out.len_lt hi2 hni
        have hm3 := HM.out.grown hg3 (by simp; omega)
        have hB3 := BW.out.grown hg3 BW.out.size (fun q hq => by cases hq; omega)
        obtain ⟨o2, hrun2, hit4⟩ := hm3.range (P := Try.prog) Try.underlying77
        have hrl := hit3.lt.1
        have hrne : w3.heap.size ≠ b := by have := hit3.lt.2; omega
        have hrne2 : w3.heap.size ≠ w2.heap.size := by omega
        have HIT3 := hid_of (hit3.grown (World.grownBy_alloc w3 o2 none) (by simp) (by simp))
        have HIT4 := hid_of hit4
        have HM3 := hid_of (hm3.alloc o2)
        have HB3 := hid_of (hB3.alloc hB3.size o2)
        have hwl : w.heap.size ≤ w3.heap.size := hB3.size
        have HC2 : Hid (c2 m i = crossE m p) := by show _ = _; unfold c2; rw [hmi]
        have HNI := hid_of hni
        have HMI := hid_of hmi
        clear hit3 hm3 hB3 hit4 hg3 hnd hil hul hni hmi
        obtain ⟨p1, p2⟩ := p
        dsimp only at hrun hent
        go_wp2_with fail
        go_loopg [8] m.length (fun gg s8 wq => ∃ (jdx : List Nat) (v : Nat), m.length - jdx.length ≤ gg ∧ s8 = .int .i64 ((u + v : Nat) : Int) ∧ Hid (IterAt (fun x : Int => Value.int .i64 x) (Value.int .i64) wq w3.heap.size b m jdx) ∧ Hid (IterAt (fun x : Int => Value.int .i64 x) (Value.int .i64) wq w2.heap.size b m (idx ++ [i])) ∧ Hid (v = (jdx.map (c1 m (p1, p2))).sum) ∧ Hid (IsMap (fun x : Int => Value.int .i64 x) (Value.int .i64) wq b m) ∧ Hid (Below w.heap.size w wq))
        case atStart => exact ⟨[], 0, by omega, rfl, HIT4.out, HIT3.out, rfl, HM3.out, HB3.out⟩
        case round =>
          clear hrun hrun2 hent HIT3 HIT4 HM3 HB3 HIT HM BW
          obtain ⟨jdx, v, hgj, rfl, HJ, HI3, HV, HMJ, BJ⟩ := hrel
          obtain ⟨hnd, hil, hjlen⟩ := iter_idx HJ.out
          have hvl := sum_le (c1 m (p1, p2)) 1 (c1_le m (p1, p2)) jdx
          rw [← HV.out, Nat.mul_one] at hvl
          have hcast : ((u + v : Nat) : Int) = (u : Int) + (v : Int) := by omega
          rw [hcast]
          rcases HJ.out.next (P := Try.prog) hrne with ⟨hrun, hall⟩ | ⟨j, q, w4, hmj, hnj, hrun, hit5, hg5, hent, _⟩
          · have hv : v = crossE m (p1, p2) := by rw [HV.out, sum_cover _ hnd hil hall, crossE_sum]
            have HVV := hid_of hv
            clear hall hv hnd hil
            go_wp2_with fail
            go_roundg (m.length - (idx ++ [i]).length)
            case measure => simp; omega
            case rel =>
              refine ⟨idx ++ [i], u + v, Nat.le_refl _, by go_num, HI3.out, ?_, HMJ.out, BJ.out⟩
              show _ = _
              rw [sum_snoc, HC2.out, ← HU.out, HVV.out]
          · have hj2 : j < m.length := (List.getElem?_eq_some_iff.1 hmj).1
            have hjlt := HJ.out.len_lt hj2 hnj
            have HJ5 := hid_of hit5
            have HI5 := hid_of (HI3.out.grown hg5 (by simp; omega) (by simp; omega))
            have HM5 := hid_of (HMJ.out.grown hg5 (by simp; omega))
            have HB5 := hid_of (BJ.out.grown hg5 BJ.out.size (fun q hq => by cases hq; exact hwl))
            have HC1 : Hid (c1 m (p1, p2) j = if crB (p1, p2) q = true then 1 else 0) := by show _ = _; unfold c1; rw [hmj]
            clear hit5 hg5 hnd hil hmj hnj HJ HI3 HMJ BJ
            obtain ⟨q1, q2⟩ := q
            dsimp only at hrun hent
            by_cases h1 : p1 < q1
            · by_cases h2 : q2 < p2
              · go_wp2_with fail
                go_roundg (m.length - (jdx ++ [j]).length)
                case measure => simp; omega
                case rel =>
                  refine ⟨jdx ++ [j], v + 1, Nat.le_refl _, by go_num, HJ5.out, HI5.out, ?_, HM5.out, HB5.out⟩
                  show _ = _
                  rw [sum_snoc, HC1.out, ← HV.out, if_pos (by simp [crB, h1, h2])]
              · have h2b : decide (q2 < p2) = false := by simpa using h2
                have H2 := hid_of h2b
                clear h2
                go_wp2_with fail
                go_roundg (m.length - (jdx ++ [j]).length)
                case measure => simp; omega
                case rel =>
                  refine ⟨jdx ++ [j], v, Nat.le_refl _, by go_num, HJ5.out, HI5.out, ?_, HM5.out, HB5.out⟩
                  show _ = _
                  rw [sum_snoc, HC1.out, ← HV.out, if_neg (by simp only [crB]; rw [H2.out]; simp), Nat.add_zero]
            · have h1b : decide (p1 < q1) = false := by simpa using h1
              have H1 := hid_of h1b
              clear h1
              go_wp2_with fail
              go_roundg (m.length - (jdx ++ [j]).length)
              case measure => simp; omega
              case rel =>
                refine ⟨jdx ++ [j], v, Nat.le_refl _, by go_num, HJ5.out, HI5.out, ?_, HM5.out, HB5.out⟩
                show _ = _
                rw [sum_snoc, HC1.out, ← HV.out, if_neg (by simp only [crB]; rw [H1.out]; simp), Nat.add_zero]
  · rw [if_pos ha]
    generalize askR l s = a at hask ha ⊢
    have hne : (a != 0) = true := by simpa using ha
    clear hR1 hR2 ha
    go_enter Try.func26, Try.ntmps26
    go_wp2_with fail
    refine hask.mono ?_
    rintro e w1 ⟨rfl, hb⟩
    have HB := hid_of hb
    clear hask hb
    go_wp2_with fail
    go_ret2
    exact ⟨rfl, HB.out⟩
end Go.Proofs.Ytfhlkkjochjhoaa
/- slices.Equal of documents and of messages. -/
namespace Go.Proofs.Ytfhlkkjochjhoaa
open Go.RowKit
attribute [local go_sem high] eqDoc eqMsg
theorem eq_of_all {α : Type} [DecidableEq α] (xs ys : List α) (h : xs.length = ys.length) (ha : ∀ j (hj : j < xs.length) (hj' : j < ys.length), xs[j] = ys[j]) : decide (xs = ys) = true := by
  rw [decide_eq_true_eq]
  exact List.ext_getElem h (fun j h1 h2 => ha j h1 h2)
theorem ne_of_at {α : Type} [DecidableEq α] (xs ys : List α) (j : Nat) (h1 : j < xs.length) (h2 : j < ys.length) (h : xs[j] ≠ ys[j]) : decide (xs = ys) = false := by
  rw [decide_eq_false_iff_not]
  intro e; subst e; exact h rfl
theorem ne_of_len {α : Type} [DecidableEq α] (xs ys : List α) (h : xs.length ≠ ys.length) : decide (xs = ys) = false := by
  rw [decide_eq_false_iff_not]
  intro e; subst e; exact h rfl
set_option maxHeartbeats 4000000 in
set_option maxRecDepth 100000 in
theorem equalD (xs ys : List Doc) (A B : Option Addr) (c d : Nat) (w : World) (hA : Rd EDoc w A xs) (hB : Rd EDoc w B ys) : Calls Try.prog 44 #[.slice A xs.length c, .slice B ys.length d] w fun e w' => e = .returned (.bool (decide (xs = ys))) ∧ Below w.heap.size w w' := by
  have hlx := hA.le
  have hly := hB.le
  by_cases hlen : xs.length = ys.length
  · have hw : ∀ r, r = decide (xs = ys) → Calls Try.prog 44 #[.slice A xs.length c, .slice B ys.length d] w fun e w' => e = .returned (.bool r) ∧ Below w.heap.size w w' := by
      intro r hr
      have HR := hid_of hr
      clear hr
      have HL := hid_of hlen
      rw [← hlen]
      clear hlen hly
      go_enter Try.func44, Try.ntmps44
      go_wp2
      go_loopg [5, 13] xs.length (fun gg _ s13 wr => ∃ (k q : Nat), k ≤ xs.length ∧ xs.length - k ≤ gg ∧ s13 = .int .i64 k ∧ wr = w.drewN q ∧ Hid (∀ j (hj : j < xs.length) (hj' : j < ys.length), j < k → xs[j] = ys[j]))
      case atStart => exact ⟨0, 0, Nat.zero_le _, by omega, rfl, rfl, fun j _ _ h => absurd h (by omega)⟩
      case round =>
        obtain ⟨k, q, hk, hg, rfl, rfl, HA⟩ := hrel
        by_cases hlt : k < xs.length
        · have hlt2 : k < ys.length := by rw [← HL.out]; exact hlt
          obtain ⟨ad, rfl, c0, c1, c2, c3, c4, c5, c6⟩ := Doc.at_ hA k hlt
          obtain ⟨ad', rfl, d0, d1, d2, d3, d4, d5, d6⟩ := Doc.at_ hB k hlt2
          generalize hx : xs[k] = x at c0 c1 c2 c3 c4 c5 c6
          generalize hy : ys[k] = y at d0 d1 d2 d3 d4 d5 d6
          have HX : Hid (xs[k] = x ∧ ys[k] = y) := ⟨hx, hy⟩
          have HA1 := hid_of hA
          have HB1 := hid_of hB
          clear hx hy hA hB
          by_cases hxy : x = y
          · subst hxy
            go_wp2_with fail
            go_quiet (fail)
            go_wp2_with fail
            go_roundg (xs.length - (k + 1))
            case measure => omega
            case rel =>
              refine ⟨k + 1, q + nq, by omega, Nat.le_refl _, by go_num, by first | rfl | simp [World.drewN, Nat.add_assoc] | exact World.drewN_add .. , (show Hid _ from fun j hj hj' hjk => ?_)⟩
              by_cases e : j = k
              · subst e; exact HX.out.1.trans HX.out.2.symm
              · exact HA.out j hj hj' (by omega)
          · have hd : decide (x = y) = false := by simpa using hxy
            have HN := hid_of hxy
            clear hxy
            go_wp2_with fail
            go_quiet (fail)
            go_wp2_with fail
            go_ret
            refine ⟨ret_b ?_, below_drewN (below_drewN (Below.refl _ _) _) _⟩
            rw [HR.out, ne_of_at xs ys k hlt (by rw [← HL.out]; exact hlt) (by rw [HX.out.1, HX.out.2]; exact HN.out)]
        · go_wp2_with fail
          go_ret
          refine ⟨ret_b ?_, below_drewN (Below.refl _ _) _⟩
          rw [HR.out, eq_of_all xs ys HL.out (fun j hj hj' => HA.out j hj hj' (by omega))]
    exact hw _ rfl
  · rw [ne_of_len xs ys hlen]
    have hn : ((xs.length : Int) != (ys.length : Int)) = true := by simp; omega
    clear hA hB
    go_enter Try.func44, Try.ntmps44
    go_wp2
    go_ret
    exact ⟨rfl, Below.refl _ _⟩
set_option maxHeartbeats 4000000 in
set_option maxRecDepth 100000 in
theorem equalM (xs ys : List Msg) (A B : Option Addr) (c d : Nat) (w : World) (hA : Rd EMsg w A xs) (hB : Rd EMsg w B ys) : Calls Try.prog 36 #[.slice A xs.length c, .slice B ys.length d] w fun e w' => e = .returned (.bool (decide (xs = ys))) ∧ Below w.heap.size w w' := by
  have hlx := hA.le
  have hly := hB.le
  by_cases hlen : xs.length = ys.length
  · have hw : ∀ r, r = decide (xs = ys) → Calls Try.prog 36 #[.slice A xs.length c, .slice B ys.length d] w fun e w' => e = .returned (.bool r) ∧ Below w.heap.size w w' := by
      intro r hr
      have HR := hid_of hr
      clear hr
      have HL := hid_of hlen
      rw [← hlen]
      clear hlen hly
      go_enter Try.func36, Try.ntmps36
      go_wp2
      go_loopg [5, 13] xs.length (fun gg _ s13 wr => ∃ (k q : Nat), k ≤ xs.length ∧ xs.length - k ≤ gg ∧ s13 = .int .i64 k ∧ wr = w.drewN q ∧ Hid (∀ j (hj : j < xs.length) (hj' : j < ys.length), j < k → xs[j] = ys[j]))
      case atStart => exact ⟨0, 0, Nat.zero_le _, by omega, rfl, rfl, fun j _ _ h => absurd h (by omega)⟩
      case round =>
        obtain ⟨k, q, hk, hg, rfl, rfl, HA⟩ := hrel
        by_cases hlt : k < xs.length
        · have hlt2 : k < ys.length := by rw [← HL.out]; exact hlt
          obtain ⟨ad, rfl, c0, c1, c2, c3, c4, c5, c6⟩ := Msg.at_ hA k hlt
          obtain ⟨ad', rfl, d0, d1, d2, d3, d4, d5, d6⟩ := Msg.at_ hB k hlt2
          generalize hx : xs[k] = x at c0 c1 c2 c3 c4 c5 c6
          generalize hy : ys[k] = y at d0 d1 d2 d3 d4 d5 d6
          have HX : Hid (xs[k] = x ∧ ys[k] = y) := ⟨hx, hy⟩
          have HA1 := hid_of hA
          have HB1 := hid_of hB
          clear hx hy hA hB
          by_cases hxy : x = y
          · subst hxy
            go_wp2_with fail
            go_quiet (fail)
            go_wp2_with fail
            go_roundg (xs.length - (k + 1))
            case measure => omega
            case rel =>
              refine ⟨k + 1, q + nq, by omega, Nat.le_refl _, by go_num, by first | rfl | simp [World.drewN, Nat.add_assoc] | exact World.drewN_add .. , (show Hid _ from fun j hj hj' hjk => ?_)⟩
              by_cases e : j = k
              · subst e; exact HX.out.1.trans HX.out.2.symm
              · exact HA.out j hj hj' (by omega)
          · have hd : decide (x = y) = false := by simpa using hxy
            have HN := hid_of hxy
            clear hxy
            go_wp2_with fail
            go_quiet (fail)
            go_wp2_with fail
            go_ret
            refine ⟨ret_b ?_, below_drewN (below_drewN (Below.refl _ _) _) _⟩
            rw [HR.out, ne_of_at xs ys k hlt (by rw [← HL.out]; exact hlt) (by rw [HX.out.1, HX.out.2]; exact HN.out)]
        · go_wp2_with fail
          go_ret
          refine ⟨ret_b ?_, below_drewN (Below.refl _ _) _⟩
          rw [HR.out, eq_of_all xs ys HL.out (fun j hj hj' => HA.out j hj hj' (by omega))]
    exact hw _ rfl
  · rw [ne_of_len xs ys hlen]
    have hn : ((xs.length : Int) != (ys.length : Int)) = true := by simp; omega
    clear hA hB
    go_enter Try.func36, Try.ntmps36
    go_wp2
    go_ret
    exact ⟨rfl, Below.refl _ _⟩
end Go.Proofs.Ytfhlkkjochjhoaa
/- slices.Equal at int. -/
namespace Go.Proofs.Ytfhlkkjochjhoaa
open Go.RowKit
set_option maxHeartbeats 4000000 in
set_option maxRecDepth 100000 in
theorem equalI (xs ys : List Int) (A B : Option Addr) (c d : Nat) (w : World) (hA : Rd EI w A xs) (hB : Rd EI w B ys) : Calls Try.prog 46 #[.slice A xs.length c, .slice B ys.length d] w fun e w' => e = .returned (.bool (decide (xs = ys))) ∧ Below w.heap.size w w' := by
  have hlx := hA.le
  have hly := hB.le
  by_cases hlen : xs.length = ys.length
  · have hw : ∀ r, r = decide (xs = ys) → Calls Try.prog 46 #[.slice A xs.length c, .slice B ys.length d] w fun e w' => e = .returned (.bool r) ∧ Below w.heap.size w w' := by
      intro r hr
      have HR := hid_of hr
      clear hr
      have HL := hid_of hlen
      rw [← hlen]
      clear hlen hly
      go_enter Try.func46, Try.ntmps46
      go_wp2
      go_loopg [5, 13] xs.length (fun gg _ s13 wr => ∃ (k q : Nat), k ≤ xs.length ∧ xs.length - k ≤ gg ∧ s13 = .int .i64 k ∧ wr = w.drewN q ∧ Hid (∀ j (hj : j < xs.length) (hj' : j < ys.length), j < k → xs[j] = ys[j]))
      case atStart => exact ⟨0, 0, Nat.zero_le _, by omega, rfl, rfl, fun j _ _ h => absurd h (by omega)⟩
      case round =>
        obtain ⟨k, q, hk, hg, rfl, rfl, HA⟩ := hrel
        by_cases hlt : k < xs.length
        · have hlt2 : k < ys.length := by rw [← HL.out]; exact hlt
          obtain ⟨ad, rfl, c0⟩ := I.at_ hA k hlt
          obtain ⟨ad', rfl, d0⟩ := I.at_ hB k hlt2
          generalize hx : xs[k] = x at c0
          generalize hy : ys[k] = y at d0
          have HX : Hid (xs[k] = x ∧ ys[k] = y) := ⟨hx, hy⟩
          have HA1 := hid_of hA
          have HB1 := hid_of hB
          clear hx hy hA hB
          by_cases hxy : x = y
          · subst hxy
            go_wp2_with fail
            go_quiet (fail)
            go_wp2_with fail
            go_roundg (xs.length - (k + 1))
            case measure => omega
            case rel =>
              refine ⟨k + 1, q + nq, by omega, Nat.le_refl _, by go_num, by first | rfl | simp [World.drewN, Nat.add_assoc] | exact World.drewN_add .. , (show Hid _ from fun j hj hj' hjk => ?_)⟩
              by_cases e : j = k
              · subst e; exact HX.out.1.trans HX.out.2.symm
              · exact HA.out j hj hj' (by omega)
          · have hd : (x != y) = true := by simpa using hxy
            have HN := hid_of hxy
            clear hxy
            go_wp2_with fail
            go_quiet (fail)
            go_wp2_with fail
            go_ret
            refine ⟨ret_b ?_, below_drewN (below_drewN (Below.refl _ _) _) _⟩
            rw [HR.out, ne_of_at xs ys k hlt (by rw [← HL.out]; exact hlt) (by rw [HX.out.1, HX.out.2]; exact HN.out)]
        · go_wp2_with fail
          go_ret
          refine ⟨ret_b ?_, below_drewN (Below.refl _ _) _⟩
          rw [HR.out, eq_of_all xs ys HL.out (fun j hj hj' => HA.out j hj hj' (by omega))]
    exact hw _ rfl
  · rw [ne_of_len xs ys hlen]
    have hn : ((xs.length : Int) != (ys.length : Int)) = true := by simp; omega
    clear hA hB
    go_enter Try.func46, Try.ntmps46
    go_wp2
    go_ret
    exact ⟨rfl, Below.refl _ _⟩
end Go.Proofs.Ytfhlkkjochjhoaa
/- The sort of messages: one sorted list for each list; plain lists. -/
namespace Go.Proofs.Ytfhlkkjochjhoaa
open Go.RowKit
theorem leM_tr (a b c : Msg) (h1 : leM a b = true) (h2 : leM b c = true) : leM a c = true := by
  simp only [leM, Bool.not_eq_true', decide_eq_false_iff_not, cmpM_neg] at *; omega
theorem leM_tot (a b : Msg) : (leM a b || leM b a) = true := by
  simp only [leM, Bool.or_eq_true, Bool.not_eq_true', decide_eq_false_iff_not, cmpM_neg]; omega
theorem leM_anti (a b : Msg) (h1 : leM a b = true) (h2 : leM b a = true) : a = b := by
  simp only [leM, Bool.not_eq_true'] at h1 h2
  exact totM a b h2 h1
theorem sort_sorted (l : List Msg) : (l.mergeSort leM).Pairwise (fun a b => leM a b = true) := List.pairwise_mergeSort leM_tr leM_tot l
theorem sort_eq (xs ys : List Msg) (hp : xs.Perm ys) (hs : ys.Pairwise (fun a b => leM a b = true)) : xs.mergeSort leM = ys :=
  List.Perm.eq_of_pairwise (le := fun a b => leM a b = true) (fun a b _ _ h1 h2 => leM_anti a b h1 h2) (sort_sorted xs) hs ((List.mergeSort_perm xs leM).trans hp)
theorem normR_of (xs ys : List Msg) (hl : xs.length ≤ 64) (hb : xs.any badM = false) (hp : xs.Perm ys) (hs : ys.Pairwise (fun a b => leM a b = true)) : normR xs = (comp ys, 0) := by
  unfold normR normL
  rw [if_neg (by omega), if_neg (by rw [hb]; simp), sort_eq xs ys hp hs]
end Go.Proofs.Ytfhlkkjochjhoaa
/- The reference's Same at int. -/
namespace Go.Proofs.Ytfhlkkjochjhoaa
open Go.RowKit
set_option maxHeartbeats 4000000 in
set_option maxRecDepth 100000 in
theorem sameI (xs ys : List Int) (A B : Option Addr) (c d : Nat) (w : World) (hA : Rd EI w A xs) (hB : Rd EI w B ys) : Calls Try.prog 28 #[.slice A xs.length c, .slice B ys.length d] w fun e w' => e = .returned (.bool (decide (xs = ys))) ∧ Below w.heap.size w w' := by
  have hlx := hA.le
  have hly := hB.le
  by_cases hlen : xs.length = ys.length
  · have hw : ∀ r, r = decide (xs = ys) → Calls Try.prog 28 #[.slice A xs.length c, .slice B ys.length d] w fun e w' => e = .returned (.bool r) ∧ Below w.heap.size w w' := by
      intro r hr
      have HR := hid_of hr
      clear hr
      have HL := hid_of hlen
      rw [← hlen]
      clear hlen hly
      go_enter Try.func28, Try.ntmps28
      go_wp2
      go_loopg [5] xs.length (fun gg s13 wr => ∃ (k q : Nat), k ≤ xs.length ∧ xs.length - k ≤ gg ∧ s13 = .int .i64 k ∧ wr = w.drewN q ∧ Hid (∀ j (hj : j < xs.length) (hj' : j < ys.length), j < k → xs[j] = ys[j]))
      case atStart => exact ⟨0, 0, Nat.zero_le _, by omega, rfl, rfl, fun j _ _ h => absurd h (by omega)⟩
      case round =>
        obtain ⟨k, q, hk, hg, rfl, rfl, HA⟩ := hrel
        by_cases hlt : k < xs.length
        · have hlt2 : k < ys.length := by rw [← HL.out]; exact hlt
          obtain ⟨ad, rfl, c0⟩ := I.at_ hA k hlt
          obtain ⟨ad', rfl, d0⟩ := I.at_ hB k hlt2
          generalize hx : xs[k] = x at c0
          generalize hy : ys[k] = y at d0
          have HX : Hid (xs[k] = x ∧ ys[k] = y) := ⟨hx, hy⟩
          have HA1 := hid_of hA
          have HB1 := hid_of hB
          clear hx hy hA hB
          by_cases hxy : x = y
          · subst hxy
            go_wp2_with fail
            go_quiet (fail)
            go_wp2_with fail
            go_roundg (xs.length - (k + 1))
            case measure => omega
            case rel =>
              refine ⟨k + 1, q + nq, by omega, Nat.le_refl _, by go_num, by first | rfl | simp [World.drewN, Nat.add_assoc] | exact World.drewN_add .. , (show Hid _ from fun j hj hj' hjk => ?_)⟩
              by_cases e : j = k
              · subst e; exact HX.out.1.trans HX.out.2.symm
              · exact HA.out j hj hj' (by omega)
          · have hd : (x != y) = true := by simpa using hxy
            have HN := hid_of hxy
            clear hxy
            go_wp2_with fail
            go_quiet (fail)
            go_wp2_with fail
            go_ret
            refine ⟨ret_b ?_, below_drewN (below_drewN (Below.refl _ _) _) _⟩
            rw [HR.out, ne_of_at xs ys k hlt (by rw [← HL.out]; exact hlt) (by rw [HX.out.1, HX.out.2]; exact HN.out)]
        · go_wp2_with fail
          go_ret
          refine ⟨ret_b ?_, below_drewN (Below.refl _ _) _⟩
          rw [HR.out, eq_of_all xs ys HL.out (fun j hj hj' => HA.out j hj hj' (by omega))]
    exact hw _ rfl
  · rw [ne_of_len xs ys hlen]
    have hn : ((xs.length : Int) != (ys.length : Int)) = true := by simp; omega
    clear hA hB
    go_enter Try.func28, Try.ntmps28
    go_wp2
    go_ret
    exact ⟨rfl, Below.refl _ _⟩
end Go.Proofs.Ytfhlkkjochjhoaa
/- The example of the network's law package, and what the functions return for it. -/
namespace Go.Proofs.Ytfhlkkjochjhoaa
open Go.RowKit
def exE (n : Int) : Env := ⟨1, 2, n + 1, ⟨n + 1, 1, 0, 0, 1, 2, 10⟩⟩
def exL : List Env := [⟨1, 2, 1, ⟨1, 1, 0, 0, 1, 2, 10⟩⟩, ⟨1, 2, 2, ⟨2, 1, 0, 0, 1, 2, 10⟩⟩, ⟨1, 2, 3, ⟨3, 1, 0, 0, 1, 2, 10⟩⟩]
def exS : List Int := [2, 0, 2]
theorem ex_net : netR exL = (-1, 0) := by
  unfold netR
  rw [if_neg (by decide), netF_step (k := 0) (by decide) (by decide +kernel), netF_step (k := 1) (by decide) (by decide +kernel), netF_step (k := 2) (by decide) (by decide +kernel), netF_end (by decide)]
theorem ex_ask : askR exL exS = 0 := by unfold askR; rw [ex_net]; decide +kernel
theorem ex_to : toR exL exS 2 = ([⟨1, 2, 3, ⟨3, 1, 0, 0, 1, 2, 10⟩⟩, ⟨1, 2, 1, ⟨1, 1, 0, 0, 1, 2, 10⟩⟩, ⟨1, 2, 3, ⟨3, 1, 0, 0, 1, 2, 10⟩⟩], 0) := by unfold toR; rw [ex_ask]; decide +kernel
theorem ex_lost : lostR exL exS = ([1], 0) := by unfold lostR; rw [ex_ask]; decide +kernel
theorem ex_rep : repR exL exS = (1, 0) := by unfold repR; rw [ex_ask]; decide +kernel
theorem ex_cr : crR exL exS = (1, 0) := by unfold crR; rw [ex_ask]; decide +kernel
theorem ex_known : knownR exL exS 2 = ([⟨1, 1, 0, 0, 1, 2, 10⟩, ⟨3, 1, 0, 0, 1, 2, 10⟩], 0) := by
  have h := (normR_of [⟨3, 1, 0, 0, 1, 2, 10⟩, ⟨1, 1, 0, 0, 1, 2, 10⟩] [⟨1, 1, 0, 0, 1, 2, 10⟩, ⟨3, 1, 0, 0, 1, 2, 10⟩] (by decide) (by decide +kernel) (by decide +kernel) (by decide +kernel))
  unfold knownR
  rw [ex_to, if_neg (by simp)]
  have e : knL [⟨1, 2, 3, ⟨3, 1, 0, 0, 1, 2, 10⟩⟩, ⟨1, 2, 1, ⟨1, 1, 0, 0, 1, 2, 10⟩⟩, ⟨1, 2, 3, ⟨3, 1, 0, 0, 1, 2, 10⟩⟩] = [⟨3, 1, 0, 0, 1, 2, 10⟩, ⟨1, 1, 0, 0, 1, 2, 10⟩] := by decide +kernel
  rw [e, h]
  decide +kernel
theorem exL_snoc (k : Nat) (h : k < 3) : exL.take (k + 1) = exL.take k ++ [exE k] := by
  match k, h with
  | 0, _ => decide
  | 1, _ => decide
  | 2, _ => decide
set_option maxHeartbeats 4000000 in
set_option maxRecDepth 100000 in
theorem ex_any (w : World) : Calls Try.prog 45 #[] w fun e w' => ∃ v, e = .returned v ∧ Own EEnv 33 w' w.heap.size v exL ∧ Below w.heap.size w w' := by
  obtain ⟨i0, hi, hzz⟩ := Option.map_eq_some_iff.1 infoE
  simp only [Prod.mk.injEq] at hzz
  obtain ⟨hz0, hz1, hz2⟩ := hzz
  have HI : Hid (Try.prog.info? 33 = some i0 ∧ i0.zero = some (.agg #[.int .i64 0, .int .i64 0, .int .i64 0, .int .i64 0, .int .i64 0, .int .i64 0, .int .i64 0, .int .i64 0, .int .i64 0, .int .i64 0]) ∧ i0.size = 10 ∧ i0.bytes = 80) := ⟨hi, hz0, hz1, hz2⟩
  clear hi hz0 hz1 hz2
  go_enter Try.func45, Try.ntmps45
  go_wp2_with fail
  go_loopg [1, 3] 3 (fun gg s1 s3 wr => ∃ k : Nat, k ≤ 3 ∧ 3 - k ≤ gg ∧ s3 = .int .i64 k ∧ Hid (Own EEnv 33 wr w.heap.size s1 (exL.take k)) ∧ Hid (Below w.heap.size w wr))
  case atStart => exact ⟨0, Nat.zero_le _, by omega, rfl, Own.nil _ _ _ _, Below.refl _ _⟩
  case round =>
    obtain ⟨k, hk, hg, rfl, HO, BW⟩ := hrel
    by_cases hlt : k < 3
    · have hsn := exL_snoc k hlt
      have hll : (exL.take k).length ≤ 3 := by rw [List.length_take]; exact Nat.le_trans (Nat.min_le_right _ _) (by decide)
      generalize exL.take k = ls at HO hsn hll
      have HSN := hid_of hsn
      have hsz := BW.out.size
      have hkc : (k : Int) < 3 := by omega
      clear hsn
      go_wp2_with (at_builtin; refine wpList_append_own _ rfl _ _ 22 rfl w.heap.size 33 i0 _ 10 80 Try.underlying22 HI.out.1 HI.out.2.1 HI.out.2.2.1 HI.out.2.2.2 rfl (by decide) _ _ _ rfl (HO.out.alloc _) _ 1 _ (EEnv.flat [exE k]) rfl ?qc1 ?qc2 ?qc3 ?qc4 ?qc5 ?qc6 ?_)
      case qc1 => rfl
      case qc2 =>
        intro j u hj
        first
          | (rw [addr_plain, blk_cell (blkN _ _) j]; simpa [Enc.flat, EEnv, Env.cells, exE] using hj)
          | (simpa [Enc.flat, EEnv, Env.cells, exE] using hj)
      case qc3 => exact EEnv.flat_one' _
      case qc4 => simp only [maxLen]; omega
      case qc5 => omega
      case qc6 => first | omega | (simp; omega) | (show _ ≤ _; simp; omega)
      intro v' w3 hown hgrow hnil
      have hown' : Own EEnv 33 w3 w.heap.size v' (ls ++ [exE k]) := by
        unfold Own; rw [EEnv.flat_append, List.length_append, List.length_singleton]; exact hown
      have hnb := fun k h => (HO.out.block k h).1
      have HB4 := hid_of ((BW.out.alloc hsz _).grown hgrow (by simp; omega) hnb)
      have HO4 := hid_of hown'
      clear hown hown' hgrow hnil hnb HO BW
      go_wp2_with fail
      go_roundg (3 - (k + 1))
      case measure => omega
      case rel =>
        refine ⟨k + 1, by omega, Nat.le_refl _, by go_num, ?_, HB4.out⟩
        rw [HSN.out]
        exact HO4.out
    · have hkl : k = 3 := by omega
      subst hkl
      go_wp2_with fail
      go_ret
      exact ⟨_, rfl, HO.out, BW.out⟩
end Go.Proofs.Ytfhlkkjochjhoaa
/- The example of the network's law package holds. -/
namespace Go.Proofs.Ytfhlkkjochjhoaa
open Go.RowKit
def LatPost (r : Bool) (w : World) (e : Ending) (w' : World) : Prop := e = .returned (.bool r) ∧ Below w.heap.size w w'
set_option maxHeartbeats 8000000 in
set_option maxRecDepth 100000 in
theorem awake_any (w : World) : Calls Try.prog 10 #[] w (LatPost true w) := by
  unfold LatPost
  have h1 := fun A B c d W (hA : Rd EEnv W A exL) (hB : Rd EI W B exS) => deliver_any exL exS 2 A B c d W hA hB
  have h2 := fun A B c d W (hA : Rd EEnv W A exL) (hB : Rd EI W B exS) => lost_any exL exS A B c d W hA hB
  have h3 := fun A B c d W (hA : Rd EEnv W A exL) (hB : Rd EI W B exS) => repeated_any exL exS A B c d W hA hB
  have h4 := fun A B c d W (hA : Rd EEnv W A exL) (hB : Rd EI W B exS) => crossed_any exL exS A B c d W hA hB
  have h5 := fun A B c d W (hA : Rd EEnv W A exL) (hB : Rd EI W B exS) => known_any exL exS 2 A B c d W hA hB
  rw [ex_to] at h1
  rw [ex_lost] at h2
  rw [ex_rep] at h3
  rw [ex_cr] at h4
  rw [ex_known] at h5
  unfold Made2 at h1 h2 h5
  unfold R2 at h3 h4
  have H1 := hid_of h1
  have H2 := hid_of h2
  have H3 := hid_of h3
  have H4 := hid_of h4
  have H5 := hid_of h5
  clear h1 h2 h3 h4 h5
  have hO : Own EI 3 (w.alloc (.cells #[.int .i64 2, .int .i64 0, .int .i64 2] 3)) w.heap.size (.slice (some ⟨w.heap.size, 0, none⟩) 3 3) exS :=
    ⟨rfl, .inr ⟨_, 3, _, rfl, Nat.le_refl _, blkN _ _, by decide, by decide, by decide, by rfl⟩⟩
  obtain ⟨A0, c0, hv0, _, hR0⟩ := hO.rd
  injection hv0 with q1 q2 q3
  subst q1
  have HS := hid_of hR0
  have HB : Hid (Below w.heap.size w (w.alloc (.cells #[.int .i64 2, .int .i64 0, .int .i64 2] 3))) := (Below.refl _ _).alloc (Nat.le_refl _) _
  clear hO hR0 q2 q3
  go_enter Try.func10, Try.ntmps10
  go_wp2_with fail
  refine (ex_any _).mono ?_
  rintro e w1 ⟨v, rfl, hO, hb⟩
  obtain ⟨A1, c1, rfl, _, hR⟩ := hO.rd
  replace HS := hid_of (HS.out.below hb)
  replace HB := hid_of (below_then HB.out HB.out.size hb)
  have hc := H1.out A1 _ c1 3 w1 hR HS.out
  clear hO hR hb H1
  go_wp2_with fail
  refine hc.mono ?_
  rintro e w2 ⟨v, rfl, hO, hb⟩
  obtain ⟨A2, c2, rfl, _, hR⟩ := hO.rd
  have HD := hid_of hR
  replace HS := hid_of (HS.out.below hb)
  replace HB := hid_of (below_then HB.out HB.out.size hb)
  clear hO hR hb hc
  go_wp2_with fail
  refine (ex_any _).mono ?_
  rintro e w3 ⟨v, rfl, hO, hb⟩
  obtain ⟨A3, c3, rfl, _, hR⟩ := hO.rd
  replace HD := hid_of (HD.out.below hb)
  replace HS := hid_of (HS.out.below hb)
  replace HB := hid_of (below_then HB.out HB.out.size hb)
  have hc := H2.out A3 _ c3 3 w3 hR HS.out
  clear hO hR hb H2
  go_wp2_with fail
  refine hc.mono ?_
  rintro e w4 ⟨v, rfl, hO, hb⟩
  obtain ⟨A4, c4, rfl, _, hR⟩ := hO.rd
  have HL := hid_of hR
  replace HD := hid_of (HD.out.below hb)
  replace HS := hid_of (HS.out.below hb)
  replace HB := hid_of (below_then HB.out HB.out.size hb)
  clear hO hR hb hc
  go_wp2_with fail
  refine (ex_any _).mono ?_
  rintro e w5 ⟨v, rfl, hO, hb⟩
  obtain ⟨A5, c5, rfl, _, hR⟩ := hO.rd
  replace HD := hid_of (HD.out.below hb)
  replace HL := hid_of (HL.out.below hb)
  replace HS := hid_of (HS.out.below hb)
  replace HB := hid_of (below_then HB.out HB.out.size hb)
  have hc := H3.out A5 _ c5 3 w5 hR HS.out
  clear hO hR hb H3
  go_wp2_with fail
  refine hc.mono ?_
  rintro e w6 ⟨rfl, hb⟩
  replace HD := hid_of (HD.out.below hb)
  replace HL := hid_of (HL.out.below hb)
  replace HS := hid_of (HS.out.below hb)
  replace HB := hid_of (below_then HB.out HB.out.size hb)
  clear hb hc
  go_wp2_with fail
  refine (ex_any _).mono ?_
  rintro e w7 ⟨v, rfl, hO, hb⟩
  obtain ⟨A7, c7, rfl, _, hR⟩ := hO.rd
  replace HD := hid_of (HD.out.below hb)
  replace HL := hid_of (HL.out.below hb)
  replace HS := hid_of (HS.out.below hb)
  replace HB := hid_of (below_then HB.out HB.out.size hb)
  have hc := H4.out A7 _ c7 3 w7 hR HS.out
  clear hO hR hb H4
  go_wp2_with fail
  refine hc.mono ?_
  rintro e w8 ⟨rfl, hb⟩
  replace HD := hid_of (HD.out.below hb)
  replace HL := hid_of (HL.out.below hb)
  replace HS := hid_of (HS.out.below hb)
  replace HB := hid_of (below_then HB.out HB.out.size hb)
  clear hb hc
  go_wp2_with fail
  refine (ex_any _).mono ?_
  rintro e w9 ⟨v, rfl, hO, hb⟩
  obtain ⟨A9, c9, rfl, _, hR⟩ := hO.rd
  replace HD := hid_of (HD.out.below hb)
  replace HL := hid_of (HL.out.below hb)
  replace HS := hid_of (HS.out.below hb)
  replace HB := hid_of (below_then HB.out HB.out.size hb)
  have hc := H5.out A9 _ c9 3 w9 hR HS.out
  clear hO hR hb H5
  go_wp2_with fail
  refine hc.mono ?_
  rintro e w10 ⟨v, rfl, hO, hb⟩
  obtain ⟨A10, c10, rfl, _, hR⟩ := hO.rd
  replace HD := hid_of (HD.out.below hb)
  replace HL := hid_of (HL.out.below hb)
  replace HB := hid_of (below_then HB.out HB.out.size hb)
  clear hO hR hb hc HS
  obtain ⟨ad, had, _, _, d2, _⟩ := Env.at_ HD.out 0 (by decide)
  obtain ⟨ad', had', _, _, f2, _⟩ := Env.at_ HD.out 1 (by decide)
  rw [had] at had'
  simp only [Option.some.injEq] at had'
  subst had'
  subst had
  simp only [Nat.zero_mul, addr_add_zero, Nat.one_mul, List.getElem_cons_zero, List.getElem_cons_succ] at d2 f2
  rw [addr_add_pos ad 10 (by decide)] at f2
  dsimp only at f2
  have hO1 : Own EI 3 (w10.alloc (.cells #[.int .i64 1] 3)) w10.heap.size (.slice (some ⟨w10.heap.size, 0, none⟩) 1 1) [1] :=
    ⟨rfl, .inr ⟨_, 1, _, rfl, Nat.le_refl _, blkN _ _, by decide, by decide, by decide, by rfl⟩⟩
  obtain ⟨A0, c0, hv0, _, hR0⟩ := hO1.rd
  injection hv0 with q1 q2 q3
  subst q1
  have heq := equalI [1] [1] A4 _ c4 1 (w10.alloc (.cells #[.int .i64 1] 3)) (HL.out.alloc _) hR0
  rw [decide_eq_true rfl] at heq
  have HEQ := hid_of heq
  clear hO1 hR0 q2 q3 heq HD HL
  go_wp2_with fail
  refine HEQ.out.mono ?_
  rintro e w11 ⟨rfl, hb⟩
  replace HB := hid_of (below_then (HB.out.alloc HB.out.size _) (by have := HB.out.size; simp; omega) hb)
  clear hb HEQ d2 f2
  go_wp2_with fail
  go_ret
  exact ⟨rfl, HB.out⟩
end Go.Proofs.Ytfhlkkjochjhoaa
