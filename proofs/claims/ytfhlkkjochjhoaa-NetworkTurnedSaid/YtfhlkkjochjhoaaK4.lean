/- Joined texts of the seat: contracts and plain laws that the rows import. -/
import Derived.Test.YtfhlkkjochjhoaaK1
import Derived.Test.YtfhlkkjochjhoaaK2
import Derived.Test.YtfhlkkjochjhoaaK3
import Derived.RangeFuncNested
import Derived.RangeFuncBound
import Derived.RangeFuncCalls
import Derived.RangeFuncLeaves
import Derived.Shelf.Abstract
import Derived.Shelf.RegionOpen
import Derived.OwnWalkIn
import Derived.TacticsInMore
import Derived.LoopNIn
import Derived.LoopIn
import Derived.Lib.SliceRun
set_option linter.unusedVariables false
set_option linter.unusedSimpArgs false
/- network.Check: what it returns for every slice of envelopes. -/
namespace Go.Proofs.Ytfhlkkjochjhoaa
open Go.RowKit
/-- The error of an envelope alone. -/
def formE (x : Env) : Int :=
  if x.fr < 1 ∨ x.fr > 99 ∨ x.tt < 1 ∨ x.tt > 99 ∨ x.nu < 1 ∨ x.nu > 1073741824 then 2
  else if x.fr = x.tt then 10 else if chkM x.m = 0 then 0 else 1
def Env.name (x : Env) : Int × Int := (x.fr, x.nu)
def netAt (l : List Env) (i : Nat) (h : i < l.length) : Int :=
  if formE l[i] ≠ 0 then formE l[i] else if (l.take i).any (fun y => decide (y.name = l[i].name)) = true then 6 else 0
/-- The first fault from place k on. -/
def netF (l : List Env) (k : Nat) : Int × Int :=
  if h : k < l.length then (if netAt l k h ≠ 0 then ((k : Int), netAt l k h) else netF l (k + 1)) else (-1, 0)
termination_by l.length - k
def netR (l : List Env) : Int × Int := if l.length > 64 then (-1, 8) else netF l 0
theorem netF_hit {l : List Env} {k : Nat} (h : k < l.length) (hn : netAt l k h ≠ 0) : netF l k = ((k : Int), netAt l k h) := by
  rw [netF, dif_pos h, if_pos hn]
theorem netF_step {l : List Env} {k : Nat} (h : k < l.length) (hn : netAt l k h = 0) : netF l k = netF l (k + 1) := by
  conv => lhs; rw [netF]
  rw [dif_pos h, if_neg (by simp [hn])]
theorem netF_end {l : List Env} {k : Nat} (h : ¬ k < l.length) : netF l k = (-1, 0) := by rw [netF, dif_neg h]
theorem netAt_form {l : List Env} {k : Nat} (h : k < l.length) (hn : formE l[k] ≠ 0) : netAt l k h = formE l[k] := by unfold netAt; rw [if_pos hn]
theorem netAt_twice {l : List Env} {k : Nat} (h : k < l.length) (hn : formE l[k] = 0) (ht : (l.take k).any (fun y => decide (y.name = l[k].name)) = true) : netAt l k h = 6 := by unfold netAt; rw [if_neg (by simp [hn]), if_pos ht]
theorem netAt_ok {l : List Env} {k : Nat} (h : k < l.length) (hn : formE l[k] = 0) (ht : (l.take k).any (fun y => decide (y.name = l[k].name)) = false) : netAt l k h = 0 := by unfold netAt; rw [if_neg (by simp [hn]), if_neg (by simp [ht])]
/-- What is seen: the names so far. -/
structure SeenI (l : List Env) (k : Nat) (mp : List ((Int × Int) × Bool)) : Prop where
  get : ∀ x, mget mp x = if (l.take k).any (fun y => decide (y.name = x)) = true then some true else none
  key : (mp.map (·.1)).Nodup
theorem SeenI.start (l : List Env) : SeenI l 0 [] := ⟨fun x => by simp [mget], by simp⟩
theorem mget_mput' {κ ν : Type} [DecidableEq κ] (m : List (κ × ν)) (x y : κ) (v : ν) (hn : (m.map (·.1)).Nodup) : mget (mput m x v) y = if y = x then some v else mget m y := by
  have hn2 := mput_keys m x v hn
  by_cases hxy : y = x
  · subst hxy
    rw [if_pos rfl]
    have : ∃ j : Nat, (mput m y v)[j]? = some (y, v) := by
      unfold mput
      split
      · rename_i h
        obtain ⟨u, hu⟩ := Option.isSome_iff_exists.1 h
        unfold mget at hu
        cases hf : m.find? (fun p => decide (p.1 = y)) with
        | none => rw [hf] at hu; cases hu
        | some p =>
          obtain ⟨j, hj, rfl⟩ := List.getElem_of_mem (List.mem_of_find?_eq_some hf)
          have hp : m[j].1 = y := by simpa using List.find?_some hf
          exact ⟨j, by rw [List.getElem?_map, List.getElem?_eq_getElem hj]; simp [hp]⟩
      · exact ⟨m.length, by simp⟩
    obtain ⟨j, hj⟩ := this
    exact mget_at hn2 hj rfl
  · rw [if_neg hxy]
    unfold mput
    split
    · unfold mget
      rw [List.find?_map]
      have he : ((fun p : κ × ν => decide (p.1 = y)) ∘ fun p : κ × ν => if p.1 = x then (p.1, v) else p) = fun p : κ × ν => decide (p.1 = y) := by
        funext p; simp only [Function.comp]; split <;> rfl
      rw [he]
      cases hf : m.find? (fun p => decide (p.1 = y)) with
      | none => rfl
      | some p =>
        have hp : p.1 = y := by simpa using List.find?_some hf
        simp [hp, hxy]
    · unfold mget
      rw [List.find?_append]
      cases hf : m.find? (fun p => decide (p.1 = y)) with
      | none => simp [Ne.symm hxy]
      | some p => simp
theorem SeenI.step {l : List Env} {k : Nat} {mp : List ((Int × Int) × Bool)} (h : SeenI l k mp) (hk : k < l.length) : SeenI l (k + 1) (mput mp l[k].name true) := by
  refine ⟨fun x => ?_, mput_keys _ _ _ h.key⟩
  rw [mget_mput' _ _ _ _ h.key, h.get x, List.take_succ_eq_append_getElem hk, List.any_append]
  by_cases hx : x = l[k].name
  · subst hx; simp
  · rw [if_neg hx]
    simp [Ne.symm hx]
theorem eqName (d : Nat) (w : World) (x y : Int × Int) :
    (Op.equalIn (d + 2) 73 (.agg #[.int .i64 x.1, .int .i64 x.2]) (.agg #[.int .i64 y.1, .int .i64 y.2])).run Try.prog w = .ok (decide (x = y)) w := by
  have e : decide (x = y) = (x.1 == y.1 && x.2 == y.2) := by
    obtain ⟨a0, a1⟩ := x
    obtain ⟨b0, b1⟩ := y
    rw [Bool.eq_iff_iff]
    simp
  rw [e]
  refine eqAgg_of Try.underlying73 (by kernel_rfl) ?_
  refine eqFields_cons (by rfl) (by go_simp; rfl) (by go_simp; rfl) (by go_simp) ?_
  exact eqFields_last (by rfl) (by go_simp; rfl) (by go_simp; rfl) (by go_simp)
theorem checkName (em : Bool) (x : Int × Int) (w : World) : (Instr.checkKey em 10000 73 (pairV x)).run Try.prog w = .ok () w := by
  have h := fun y => checkKey_int Try.underlying3 em 9998 y w
  unfold pairV
  show (Instr.checkKey em (9999 + 1) _ _).run _ _ = _
  rw [Instr.checkKey]
  go_simp
theorem keyName : KeyOK Try.prog 73 pairV :=
  keyPair Try.underlying73 checkName (fun x y w => eqName 9998 w x y)
def R2 (p : Int × Int) (w : World) (e : Ending) (w' : World) : Prop := e = .returned (.tuple #[.int .i64 p.1, .int .i64 p.2]) ∧ Below w.heap.size w w'
set_option maxHeartbeats 8000000 in
set_option maxRecDepth 100000 in
theorem netCheck_any (l : List Env) (A : Option Addr) (c : Nat) (w : World) (hR : Rd EEnv w A l) : Calls Try.prog 12 #[.slice A l.length c] w (R2 (netR l) w) := by
  unfold R2
  have hle := hR.le
  have hmm := @run_makeMap Try.prog
  have hg : netR l = netR l := rfl
  conv at hg => rhs; unfold netR
  generalize netR l = r at hg ⊢
  obtain ⟨r1, r2⟩ := r
  have HG := hid_of hg
  have HR := hid_of hR
  have hck := fun (m : Msg) W => check_any m W
  unfold ChkPost at hck
  clear hg hR
  by_cases h64 : l.length > 64
  · have hr := HG.out
    rw [if_pos h64] at hr
    simp only [Prod.mk.injEq] at hr
    obtain ⟨rfl, rfl⟩ := hr
    clear HG HR hck
    go_enter Try.func12, Try.ntmps12
    go_wp2
    go_ret2
    exact ⟨rfl, Below.refl _ _⟩
  · have hl64 : l.length ≤ 64 := by omega
    have hr := HG.out
    rw [if_neg h64] at hr
    have HG := hid_of hr
    clear hr h64
    go_enter Try.func12, Try.ntmps12
    go_wp2_with fail
    go_loopg [13] l.length (fun gg s13 wr => ∃ (k : Nat) (mp : List ((Int × Int) × Bool)), k ≤ l.length ∧ l.length - k ≤ gg ∧ s13 = .int .i64 k ∧ Hid (SeenI l k mp) ∧ Hid ((r1, r2) = netF l k) ∧ Hid (IsMap pairV Value.bool wr w.heap.size mp) ∧ Hid (Below w.heap.size w wr) ∧ w.heap.size < wr.heap.size)
    case atStart => exact ⟨0, [], Nat.zero_le _, by omega, rfl, SeenI.start l, HG.out, IsMap.made _ _ _, (Below.refl _ _).alloc (Nat.le_refl _) _, by simp⟩
    case round =>
      obtain ⟨k, mp, hk, hgg, rfl, HS, HF, HM, BW, hsz⟩ := hrel
      by_cases hlt : k < l.length
      · obtain ⟨ad, rfl, c0, c1, c2, c3, c4, c5, c6, c7, c8, c9⟩ := Env.at_ (HR.out.below BW.out) k hlt
        have hhit := fun h => netF_hit hlt h
        have hstep := netF_step hlt
        have hform := netAt_form hlt
        have htw := netAt_twice hlt
        have hok := netAt_ok hlt
        have hse := fun h => SeenI.step (mp := mp) (k := k) h hlt
        rw [← HF.out] at hhit hstep
        generalize netAt l k hlt = na at hhit hstep hform htw hok
        generalize hx : l[k] = x at c0 c1 c2 c3 c4 c5 c6 c7 c8 c9 hform htw hok hse
        have HHIT := hid_of hhit
        have HSTEP := hid_of hstep
        have HFORM := hid_of hform
        have HTW := hid_of htw
        have HOK := hid_of hok
        have HSE := hid_of hse
        clear hhit hstep hform htw hok hse hx
        obtain ⟨e0, e1, e2, m0, m1, m2, m3, m4, m5, m6⟩ := x
        dsimp only at c0 c1 c2 c3 c4 c5 c6 c7 c8 c9
        by_cases q0 : e0 < 1
        · have hf2 : formE ⟨e0, e1, e2, ⟨m0, m1, m2, m3, m4, m5, m6⟩⟩ = 2 := by unfold formE; rw [if_pos (by dsimp only; omega)]
          have hna := HFORM.out (by rw [hf2]; decide)
          rw [hf2] at hna
          have hh := HHIT.out (by rw [hna]; decide)
          rw [hna] at hh
          simp only [Prod.mk.injEq] at hh
          obtain ⟨rfl, rfl⟩ := hh
          clear HHIT HSTEP HFORM HTW HOK HSE HF HG hf2 hna
          
          go_wp2_with fail
          go_ret2
          exact ⟨rfl, BW.out.alloc (by omega) _⟩
        by_cases q1 : e0 > 99
        · have hf2 : formE ⟨e0, e1, e2, ⟨m0, m1, m2, m3, m4, m5, m6⟩⟩ = 2 := by unfold formE; rw [if_pos (by dsimp only; omega)]
          have hna := HFORM.out (by rw [hf2]; decide)
          rw [hf2] at hna
          have hh := HHIT.out (by rw [hna]; decide)
          rw [hna] at hh
          simp only [Prod.mk.injEq] at hh
          obtain ⟨rfl, rfl⟩ := hh
          clear HHIT HSTEP HFORM HTW HOK HSE HF HG hf2 hna
          
          go_wp2_with fail
          go_ret2
          exact ⟨rfl, BW.out.alloc (by omega) _⟩
        by_cases q2 : e1 < 1
        · have hf2 : formE ⟨e0, e1, e2, ⟨m0, m1, m2, m3, m4, m5, m6⟩⟩ = 2 := by unfold formE; rw [if_pos (by dsimp only; omega)]
          have hna := HFORM.out (by rw [hf2]; decide)
          rw [hf2] at hna
          have hh := HHIT.out (by rw [hna]; decide)
          rw [hna] at hh
          simp only [Prod.mk.injEq] at hh
          obtain ⟨rfl, rfl⟩ := hh
          clear HHIT HSTEP HFORM HTW HOK HSE HF HG hf2 hna
          
          go_wp2_with fail
          go_ret2
          exact ⟨rfl, BW.out.alloc (by omega) _⟩
        by_cases q3 : e1 > 99
        · have hf2 : formE ⟨e0, e1, e2, ⟨m0, m1, m2, m3, m4, m5, m6⟩⟩ = 2 := by unfold formE; rw [if_pos (by dsimp only; omega)]
          have hna := HFORM.out (by rw [hf2]; decide)
          rw [hf2] at hna
          have hh := HHIT.out (by rw [hna]; decide)
          rw [hna] at hh
          simp only [Prod.mk.injEq] at hh
          obtain ⟨rfl, rfl⟩ := hh
          clear HHIT HSTEP HFORM HTW HOK HSE HF HG hf2 hna
          
          go_wp2_with fail
          go_ret2
          exact ⟨rfl, BW.out.alloc (by omega) _⟩
        by_cases q4 : e2 < 1
        · have hf2 : formE ⟨e0, e1, e2, ⟨m0, m1, m2, m3, m4, m5, m6⟩⟩ = 2 := by unfold formE; rw [if_pos (by dsimp only; omega)]
          have hna := HFORM.out (by rw [hf2]; decide)
          rw [hf2] at hna
          have hh := HHIT.out (by rw [hna]; decide)
          rw [hna] at hh
          simp only [Prod.mk.injEq] at hh
          obtain ⟨rfl, rfl⟩ := hh
          clear HHIT HSTEP HFORM HTW HOK HSE HF HG hf2 hna
          
          go_wp2_with fail
          go_ret2
          exact ⟨rfl, BW.out.alloc (by omega) _⟩
        by_cases q5 : e2 > 1073741824
        · have hf2 : formE ⟨e0, e1, e2, ⟨m0, m1, m2, m3, m4, m5, m6⟩⟩ = 2 := by unfold formE; rw [if_pos (by dsimp only; omega)]
          have hna := HFORM.out (by rw [hf2]; decide)
          rw [hf2] at hna
          have hh := HHIT.out (by rw [hna]; decide)
          rw [hna] at hh
          simp only [Prod.mk.injEq] at hh
          obtain ⟨rfl, rfl⟩ := hh
          clear HHIT HSTEP HFORM HTW HOK HSE HF HG hf2 hna
          
          go_wp2_with fail
          go_ret2
          exact ⟨rfl, BW.out.alloc (by omega) _⟩
        by_cases q6 : e0 = e1
        · have hf2 : formE ⟨e0, e1, e2, ⟨m0, m1, m2, m3, m4, m5, m6⟩⟩ = 10 := by unfold formE; rw [if_neg (by dsimp only; omega), if_pos q6]
          have hna := HFORM.out (by rw [hf2]; decide)
          rw [hf2] at hna
          have hh := HHIT.out (by rw [hna]; decide)
          rw [hna] at hh
          simp only [Prod.mk.injEq] at hh
          obtain ⟨rfl, rfl⟩ := hh
          clear HHIT HSTEP HFORM HTW HOK HSE HF HG hf2 hna
          
          subst q6
          go_wp2_with fail
          go_ret2
          exact ⟨rfl, BW.out.alloc (by omega) _⟩
        have hc := hck ⟨m0, m1, m2, m3, m4, m5, m6⟩
        generalize hq : chkM ⟨m0, m1, m2, m3, m4, m5, m6⟩ = q at hc
        dsimp only [Msg.v] at hc
        have q6b : (e0 == e1) = false := by simpa using q6
        have Q6 := hid_of q6
        clear q6 hck
        have HA : Hid ((wr.alloc (.cells #[.int .i64 e0, .int .i64 e1, .int .i64 e2, .int .i64 m0, .int .i64 m1, .int .i64 m2, .int .i64 m3, .int .i64 m4, .int .i64 m5, .int .i64 m6] 33)).heap[wr.heap.size]? = some (.cells #[.int .i64 e0, .int .i64 e1, .int .i64 e2, .int .i64 m0, .int .i64 m1, .int .i64 m2, .int .i64 m3, .int .i64 m4, .int .i64 m5, .int .i64 m6] 33 (0, 0))) := blkN wr _
        by_cases q7 : q = 0
        · subst q7
          have hf2 : formE ⟨e0, e1, e2, ⟨m0, m1, m2, m3, m4, m5, m6⟩⟩ = 0 := by unfold formE; rw [if_neg (by dsimp only; omega), if_neg Q6.out, if_pos hq]
          have HF2 := hid_of hf2
          have HQ := hid_of hq
          clear hf2 hq
          go_wp2_with fail
          refine (hc _).mono ?_
          rintro e w1 ⟨rfl, hb⟩
          clear hc c0 c1 c2 c3 c4 c5 c6 c7 c8 c9
          have HA1 := hid_of ((hb.block _ (by simp)).trans HA.out)
          have hp0 := (blk_cell HA1.out 0).trans (show _ = some (.int .i64 e0) from rfl)
          have hp2 := (blk_cell HA1.out 2).trans (show _ = some (.int .i64 e2) from rfl)
          have HM1 := hid_of ((HM.out.alloc _).below hb)
          have BW1 := hid_of (below_then (BW.out.alloc (by omega) _) (by simp; omega) hb)
          have hsz1 : w.heap.size < w1.heap.size := HM1.out.lt
          obtain ⟨hl1, hl2⟩ := HM1.out.lookup keyName Try.underlying70 (Try.zeroValue4 w1) (e0, e2)
          simp only [pairV] at hl1
          rw [HS.out.get (e0, e2)] at hl1
          clear hl2 hb HA HM BW hsz
          by_cases ht : (l.take k).any (fun y => decide (y.name = (e0, e2))) = true
          · have hna := HTW.out HF2.out ht
            have hh := HHIT.out (by rw [hna]; decide)
            rw [hna] at hh
            rw [if_pos ht] at hl1
            simp only [Prod.mk.injEq] at hh
            obtain ⟨rfl, rfl⟩ := hh
            clear HHIT HSTEP HFORM HTW HOK HSE HF HG hna ht
            dsimp only at hl1
            go_wp2_with fail
            go_ret2
            exact ⟨rfl, BW1.out⟩
          · have ht2 : (l.take k).any (fun y => decide (y.name = (e0, e2))) = false := by simpa using ht
            have hna := HOK.out HF2.out ht2
            have hh := HSTEP.out hna
            have hsn := HSE.out HS.out
            rw [if_neg ht] at hl1
            obtain ⟨w2, hup, hm2, hg2⟩ := HM1.out.update keyName Try.underlying70 (e0, e2) true
            simp only [pairV] at hup
            have HH := hid_of hh
            have HSN := hid_of hsn
            have HM2 := hid_of hm2
            have HG2 := hid_of hg2
            clear HHIT HSTEP HFORM HTW HOK HSE HF HG hna ht ht2 hh hsn hm2 hg2
            dsimp only at hl1
            go_wp2_with fail
            go_roundg (l.length - (k + 1))
            case measure => omega
            case rel => exact ⟨k + 1, _, by omega, Nat.le_refl _, by go_num, HSN.out, HH.out, HM2.out, BW1.out.grown HG2.out (by omega) (fun q hq => by cases hq; exact Nat.le_refl _), HM2.out.lt⟩
        · have hne : (q != 0) = true := by simpa using q7
          have hf2 : formE ⟨e0, e1, e2, ⟨m0, m1, m2, m3, m4, m5, m6⟩⟩ = 1 := by unfold formE; rw [if_neg (by dsimp only; omega), if_neg Q6.out, if_neg (by rw [hq]; exact q7)]
          have hna := HFORM.out (by rw [hf2]; decide)
          rw [hf2] at hna
          have hh := HHIT.out (by rw [hna]; decide)
          rw [hna] at hh
          simp only [Prod.mk.injEq] at hh
          obtain ⟨rfl, rfl⟩ := hh
          clear HHIT HSTEP HFORM HTW HOK HSE HF HG hf2 hna
          clear q7 hq
          go_wp2_with fail
          refine (hc _).mono ?_
          rintro e w1 ⟨rfl, hb⟩
          clear hc
          have BW1 := hid_of (below_then (BW.out.alloc (by omega) _) (by simp; omega) hb)
          clear hb
          go_wp2_with fail
          go_ret2
          exact ⟨rfl, BW1.out⟩
      · have hkl : k = l.length := by omega
        subst hkl
        have hf := HF.out
        rw [netF_end (by omega)] at hf
        simp only [Prod.mk.injEq] at hf
        obtain ⟨rfl, rfl⟩ := hf
        go_wp2_with fail
        go_ret2
        exact ⟨rfl, BW.out⟩
end Go.Proofs.Ytfhlkkjochjhoaa
/- slices.IndexFunc, slices.ContainsFunc at int, whatever predicate they are handed that only makes memory. -/
namespace Go.Proofs.Ytfhlkkjochjhoaa
open Go.RowKit
set_option maxHeartbeats 1000000 in
theorem indexFuncI (xs : List Int) (p : Int → Bool) (g : Nat) (cb : Array Value) (A : Option Addr) (c : Nat) (w : World) (hR : Rd EI w A xs)
    (eg : ∀ args w, (callFunc g args).run Try.prog w = .ok (.enter g args) w)
    (hp : ∀ (x : Int) (W : World), Below w.heap.size w W → Calls Try.prog g (#[.int .i64 x] ++ cb) W fun e W' => e = .returned (.bool (p x)) ∧ Below W.heap.size W W') :
    Calls Try.prog 80 #[.slice A xs.length c, .func (.func g) #[] cb] w fun e w' => e = .returned (.int .i64 (fidx p xs)) ∧ Below w.heap.size w w' := by
  have hle := hR.le
  go_enter Try.func80, Try.ntmps80
  go_wp2
  go_loopg [5, 8] xs.length (fun gg _ s8 wr => ∃ k : Nat, k ≤ xs.length ∧ xs.length - k ≤ gg ∧ s8 = .int .i64 k ∧ Hid (Below w.heap.size w wr) ∧ Hid (∀ j (_ : j < k) (hj : j < xs.length), p xs[j] = false))
  case atStart => exact ⟨0, Nat.zero_le _, by omega, rfl, Below.refl _ _, fun j hj => absurd hj (Nat.not_lt_zero _)⟩
  case round =>
    obtain ⟨k, hk, hg, rfl, BW, HA⟩ := hrel
    by_cases hlt : k < xs.length
    · obtain ⟨ad, rfl, c0⟩ := I.at_ (hR.below BW.out) k hlt
      have hcall := hp xs[k] _ BW.out
      have HX : Hid (Rd EI w (some ad) xs) := hR
      clear hR hp
      generalize hy : xs[k] = y at *
      have HY : Hid (xs[k] = y) := hy
      clear hy
      cases hq : p y with
      | true =>
        rw [hq] at hcall
        go_wp2_with (go_at_fn g; refine hcall.mono ?_; rintro e w' ⟨rfl, hb'⟩)
        go_ret
        refine ⟨?_, below_then BW.out BW.out.size hb'⟩
        rw [fidx_hit p xs k hlt (by rw [HY.out]; exact hq) (fun j hj => HA.out j hj (by omega))]
        rfl
      | false =>
        rw [hq] at hcall
        go_wp2_with (go_at_fn g; refine hcall.mono ?_; rintro e w' ⟨rfl, hb'⟩)
        go_roundg (xs.length - (k + 1))
        case measure => omega
        case rel =>
          refine ⟨k + 1, by omega, by omega, by go_num, below_then BW.out BW.out.size hb', (show Hid _ from fun j hj hj' => ?_)⟩
          by_cases e : j = k
          · subst e
            rw [HY.out]; exact hq
          · exact HA.out j (by omega) hj'
    · have : k = xs.length := by omega
      subst this
      go_wp2
      go_ret
      refine ⟨?_, BW.out⟩
      rw [fidx_miss p xs (fun j hj => HA.out j hj hj)]
      rfl
set_option maxHeartbeats 1000000 in
theorem containsFuncI (xs : List Int) (p : Int → Bool) (g : Nat) (cb : Array Value) (A : Option Addr) (c : Nat) (w : World) (hR : Rd EI w A xs)
    (eg : ∀ args w, (callFunc g args).run Try.prog w = .ok (.enter g args) w)
    (hp : ∀ (x : Int) (W : World), Below w.heap.size w W → Calls Try.prog g (#[.int .i64 x] ++ cb) W fun e W' => e = .returned (.bool (p x)) ∧ Below W.heap.size W W') :
    Calls Try.prog 72 #[.slice A xs.length c, .func (.func g) #[] cb] w fun e w' => e = .returned (.bool (xs.any p)) ∧ Below w.heap.size w w' := by
  rw [← fidx_any]
  have hcon := indexFuncI xs p g cb A c w hR eg hp
  clear hR hp eg
  generalize fidx p xs = r at hcon ⊢
  go_enter Try.func72, Try.ntmps72
  go_wp2_with (go_at_call 80; refine hcon.mono ?_; rintro e w' ⟨rfl, hb'⟩)
  go_ret
  exact ⟨rfl, hb'⟩
end Go.Proofs.Ytfhlkkjochjhoaa
/- network.asked: the error of a schedule. -/
namespace Go.Proofs.Ytfhlkkjochjhoaa
open Go.RowKit
def outI (n : Nat) (i : Int) : Bool := decide (i < 0 ∨ (n : Int) ≤ i)
def askR (l : List Env) (s : List Int) : Int := if (netR l).2 ≠ 0 then 1 else if s.length > 256 then 8 else if s.any (outI l.length) = true then 2 else 0
theorem enters_ask : ∀ args w, (callFunc 73 args).run Try.prog w = .ok (.enter 73 args) w := enters_of Try.func73 (by kernel_rfl) rfl
set_option maxHeartbeats 1000000 in
theorem out_any (n c B : Nat) (A : Option Addr) (hn : n ≤ 9223372036854775807) (i : Int) (w : World) (hb : w.cell? ⟨B, 0, none⟩ = some (.slice A n c)) : Calls Try.prog 73 #[.int .i64 i, .pointer (some ⟨B, 0, none⟩)] w fun e w' => e = .returned (.bool (outI n i)) ∧ Below w.heap.size w w' := by
  go_enter Try.func73, Try.ntmps73
  by_cases h0 : i < 0
  · go_wp2
    go_ret
    exact ⟨ret_b (by simp [outI, h0]), Below.refl _ _⟩
  · by_cases h1 : (n : Int) ≤ i
    · go_wp2
      go_ret
      exact ⟨ret_b (by simp [outI, h0, h1]), Below.refl _ _⟩
    · go_wp2
      go_ret
      exact ⟨ret_b (by simp [outI, h0, h1]), Below.refl _ _⟩
set_option maxHeartbeats 4000000 in
theorem asked_any (l : List Env) (s : List Int) (A1 A2 : Option Addr) (c1 c2 : Nat) (w : World) (hR1 : Rd EEnv w A1 l) (hR2 : Rd EI w A2 s) : Calls Try.prog 53 #[.slice A1 l.length c1, .slice A2 s.length c2] w fun e w' => e = .returned (.int .i64 (askR l s)) ∧ Below w.heap.size w w' := by
  have hle := hR2.le
  have hle1 := hR1.le
  have hck := fun W (h : Below w.heap.size w W) => netCheck_any l A1 c1 W (hR1.below h)
  unfold R2 at hck
  have hr : askR l s = askR l s := rfl
  conv at hr => rhs; unfold askR
  generalize askR l s = r at hr ⊢
  generalize netR l = p at hr hck
  obtain ⟨p1, p2⟩ := p
  dsimp only at hr hck
  have hcf : ∀ W (h : Below w.heap.size w W) (hb : W.cell? ⟨w.heap.size, 0, none⟩ = some (.slice A1 l.length c1)), Calls Try.prog 72 #[.slice A2 s.length c2, .func (.func 73) #[] #[.pointer (some ⟨w.heap.size, 0, none⟩)]] W fun e w' => e = .returned (.bool (s.any (outI l.length))) ∧ Below W.heap.size W w' := fun W h hb =>
    containsFuncI s (outI l.length) 73 #[.pointer (some ⟨w.heap.size, 0, none⟩)] A2 c2 W (hR2.below h) enters_ask (fun x W' h' => out_any l.length c1 w.heap.size A1 hle1 x W' (cell_below h' hb))
  generalize s.any (outI l.length) = b at hr hcf
  have HR := hid_of hr
  have HCF := hid_of hcf
  clear hr hcf hR1 hR2
  go_enter Try.func53, Try.ntmps53
  go_wp2_with fail
  refine (hck _ ((Below.refl _ _).alloc (Nat.le_refl _) _)).mono ?_
  rintro e w1 ⟨rfl, hb⟩
  have HB := hid_of (below_then ((Below.refl _ _).alloc (Nat.le_refl _) _) (by simp) hb)
  have hbx : w1.cell? ⟨w.heap.size, 0, none⟩ = some (.slice A1 l.length c1) := (blk_cell ((hb.block _ (by simp)).trans (blkN w (.cells #[.slice A1 l.length c1] 22))) 0).trans rfl
  have hc := HCF.out w1 HB.out hbx
  clear hck hb HCF
  by_cases hp : p2 = 0
  · subst hp
    by_cases hs : s.length > 256
    · have hr := HR.out
      rw [if_neg (by simp), if_pos hs] at hr
      subst hr
      clear HR hc
      go_wp2_with fail
      go_ret
      exact ⟨rfl, HB.out⟩
    · have hr := HR.out
      rw [if_neg (by simp), if_neg hs] at hr
      have HR := hid_of hr
      have hs2 : (s.length : Int) ≤ 256 := by omega
      have hs3 : s.length ≤ 256 := by omega
      clear hr hs
      cases b with
      | true =>
        have hr := HR.out
        rw [if_pos rfl] at hr
        subst hr
        clear HR
        go_wp2_with fail
        refine hc.mono ?_
        rintro e w2 ⟨rfl, hb⟩
        have HB := hid_of (below_then HB.out HB.out.size hb)
        clear hb hc
        go_wp2_with fail
        go_ret
        exact ⟨rfl, HB.out⟩
      | false =>
        have hr := HR.out
        rw [if_neg (by simp)] at hr
        subst hr
        clear HR
        go_wp2_with fail
        refine hc.mono ?_
        rintro e w2 ⟨rfl, hb⟩
        have HB := hid_of (below_then HB.out HB.out.size hb)
        clear hb hc
        go_wp2_with fail
        go_ret
        exact ⟨rfl, HB.out⟩
  · have hne : (p2 != 0) = true := by simpa using hp
    have hr := HR.out
    rw [if_pos hp] at hr
    subst hr
    clear HR hc hp
    go_wp2_with fail
    go_ret
    exact ⟨rfl, HB.out⟩
end Go.Proofs.Ytfhlkkjochjhoaa
/- The network's deliveries, as an iterator: what it yields, for every loop body. -/
namespace Go.Proofs.Ytfhlkkjochjhoaa
open Go.RowKit Go.Shelf
attribute [local go_sem] Oper.semAt_some
/-- What is delivered: places and envelopes. -/
def dlv (l : List Env) (s : List Int) : List (Int × Env) := s.map (fun i => (i, l[i.toNat]?.getD default))
theorem dlv_len (l : List Env) (s : List Int) : (dlv l s).length = s.length := by simp [dlv]
theorem dlv_at (l : List Env) (s : List Int) (k j : Nat) (hk : k < s.length) (hj : j < l.length) (h : s[k] = (j : Int)) : (dlv l s).take (k + 1) = (dlv l s).take k ++ [((j : Int), l[j])] := by
  rw [List.take_succ_eq_append_getElem (by rw [dlv_len]; exact hk)]
  congr 2
  simp [dlv, h, hj]
/-- What a round keeps: all that lay below n, and the box B. -/
def KpD (n B : Nat) (W W' : World) : Prop := Below n W W' ∧ ∀ v, W.cell? ⟨B, 0, none⟩ = some v → W'.cell? ⟨B, 0, none⟩ = some v
theorem KpD.t {n B : Nat} {X Y Z : World} (h : KpD n B X Y) (k : KpD n B Y Z) : KpD n B X Z := ⟨h.1.trans k.1, fun v hv => k.2 v (h.2 v hv)⟩
theorem KpD.b {n B : Nat} {w : World} (hn : n ≤ w.heap.size) (hB : B < w.heap.size) (W : World) (l : Nat) (o o' : Obj) (hl : w.heap.size ≤ l) (h : W.heap[l]? = some o) (h1 : o.isCells = false) (h2 : o.isWalk = false) : KpD n B W (W.putObj l o') :=
  ⟨belowK_b hn W l o o' hl h h1 h2, fun v hv => by
    have hlt := World.block_lt_of_cell? W _ hv
    have hb := (grownBy_putObj' W l o').block B hlt (by simp; omega)
    simp only [World.cell?] at hv ⊢
    rw [hb]; exact hv⟩
set_option maxRecDepth 100000 in
set_option maxHeartbeats 4000000 in
theorem dl1_in (F : Fence) (n : Nat) (hf : F.fn 78) (hro : F.round = none) (hn : 1 ≤ n) (lp B1 B2 : Nat) (l : List Env) (s : List Int) (A1 A2 : Option Addr) (c1 c2 : Nat) (w0 : World)
    (hv : ∀ i ∈ s, 0 ≤ i ∧ i < l.length) (hR1 : Rd EI w0 A1 s) (hR2 : Rd EEnv w0 A2 l)
    (J Jx : List (Int × Env) → World → Prop)
    (hY : ∀ pre x W, J pre W → pre.length < s.length → YieldAt F (n - 1) Try.prog lp #[.int .i64 x.1, x.2.v] W fun e W' =>
      (e = .returned (.bool true) ∧ J (pre ++ [x]) W' ∧ KpD w0.heap.size B2 W W') ∨ (e = .returned (.bool false) ∧ Jx (pre ++ [x]) W'))
    (W : World) (hbW : Below w0.heap.size w0 W) (hB : W.cell? ⟨B1, 0, none⟩ = some (.slice A1 s.length c1)) (hb2 : W.cell? ⟨B2, 0, none⟩ = some (.slice A2 l.length c2)) (h0 : J [] W) :
    CallsIn F n Try.prog 78 #[.func (.yield lp) #[] #[], .pointer (some ⟨B1, 0, none⟩), .pointer (some ⟨B2, 0, none⟩)] W fun e W' => (∃ v, e = .returned v) ∧
      ((∃ ys, ys = dlv l s ∧ J ys W') ∨ (∃ pre, pre <+: dlv l s ∧ Jx pre W')) := by
  have hle := hR1.le
  have hle2 := hR2.le
  have HV := hid_of hv
  have HR1 := hid_of hR1
  have HR2 := hid_of hR2
  have HB2 := hid_of hb2
  clear hv hR1 hR2 hb2
  refine callsIn_of_wp Try.func78 rfl hf ?_ hro
  simp only [Try.ntmps78, List.size_toArray, List.length_cons, List.length_nil, Nat.reduceAdd, Nat.reduceSub, Array.replicate_succ, Array.replicate_zero, List.push_toArray, List.append_toArray, List.nil_append, List.cons_append]
  gi_wp2
  gi_loopw [8] (fun i wr => ∃ k : Nat, k ≤ s.length ∧ i = .int .i64 k ∧ J ((dlv l s).take k) wr ∧ Hid (Below w0.heap.size w0 wr) ∧ Hid (wr.cell? ⟨B2, 0, none⟩ = some (.slice A2 l.length c2)))
    (fun i _ => s.length - (intOf i).toNat)
  case atStart => exact ⟨0, Nat.zero_le _, rfl, h0, hbW, HB2.out⟩
  case round =>
    obtain ⟨k, hk, rfl, hJs, BW, HX2⟩ := hrel
    by_cases hlt : k < s.length
    · obtain ⟨ad, rfl, c0⟩ := I.at_ (HR1.out.below BW.out) k hlt
      have hvk := HV.out s[k] (List.getElem_mem _)
      obtain ⟨j, hj⟩ : ∃ j : Nat, s[k] = (j : Int) := ⟨s[k].toNat, by omega⟩
      have hjl : j < l.length := by omega
      have hdl := dlv_at l s k j hlt hjl hj
      rw [hj] at c0
      obtain ⟨ad2, rfl, e0, e1, e2, e3, e4, e5, e6, e7, e8, e9⟩ := Env.at_ (HR2.out.below BW.out) j hjl
      have hb2 := HX2.out
      obtain ⟨fn, tmps, assign, body, hy, hR⟩ := hY _ ((j : Int), l[j]) wr hJs (by rw [List.length_take, dlv_len]; omega)
      dsimp only at hy
      generalize l[j] = x at e0 e1 e2 e3 e4 e5 e6 e7 e8 e9 hy hR hdl
      have HD := hid_of hdl
      clear hdl hj hvk
      gi_wp2
      refine hR.mono ?_
      rintro e W3 (⟨rfl, hJ3, hk3⟩ | ⟨rfl, hJx3⟩)
      · gi_wp2
        go_roundw
        case rel => exact ⟨k + 1, by omega, by simp, by rw [HD.out]; exact hJ3, BW.out.trans hk3.1, hk3.2 _ HX2.out⟩
        case measure => simp [intOf]; omega
      · gi_wp2
        refine bodyPost_ret (results_none rfl _ _ _) rfl ?_
        exact ⟨⟨_, rfl⟩, .inr ⟨_, ⟨_, by rw [← HD.out]; exact List.take_append_drop _ _⟩, hJx3⟩⟩
    · have hkl : k = s.length := by omega
      subst hkl
      gi_wp2
      go_end0
      refine ⟨⟨_, rfl⟩, .inl ⟨_, rfl, ?_⟩⟩
      have := hJs
      rwa [← dlv_len l s, List.take_length] at this
set_option maxHeartbeats 1000000 in
theorem dl_in (F : Fence) (n : Nat) (hf : F.fn 69) (hro : F.round = none) (A1 A2 : Option Addr) (n1 n2 c1 c2 : Nat) (w : World) :
    CallsIn F n Try.prog 69 #[.slice A2 n2 c2, .slice A1 n1 c1] w fun e w' => e = .returned (.func (.func 78) #[] #[.pointer (some ⟨w.heap.size + 1, 0, none⟩), .pointer (some ⟨w.heap.size, 0, none⟩)]) ∧ w' = (w.alloc (.cells #[.slice A2 n2 c2] 22)).alloc (.cells #[.slice A1 n1 c1] 23) := by
  refine callsIn_of_wp Try.func69 rfl hf ?_ hro
  simp only [Try.ntmps69, List.size_toArray, List.length_cons, List.length_nil, Nat.reduceAdd, Nat.reduceSub, Array.replicate_succ, Array.replicate_zero, List.push_toArray, List.append_toArray, List.nil_append, List.cons_append]
  gi_wp2
  go_ret
  exact ⟨rfl, rfl⟩
/-- The deliveries yield all envelopes of the schedule, in its order. -/
theorem dl_stops (F : Fence) (n : Nat) (hf : F.fn 78) (hro : F.round = none) (hn : 1 ≤ n) (B1 B2 : Nat) (l : List Env) (s : List Int) (A1 A2 : Option Addr) (c1 c2 : Nat) (w0 w : World)
    (hv : ∀ i ∈ s, 0 ≤ i ∧ i < l.length) (hR1 : Rd EI w0 A1 s) (hR2 : Rd EEnv w0 A2 l) (hb : Below w0.heap.size w0 w) (hb1 : w.cell? ⟨B1, 0, none⟩ = some (.slice A1 s.length c1)) (hb2 : w.cell? ⟨B2, 0, none⟩ = some (.slice A2 l.length c2)) :
    SeqStopsK F n Try.prog 78 #[.pointer (some ⟨B1, 0, none⟩), .pointer (some ⟨B2, 0, none⟩)] (fun x : Int × Env => #[Value.int .i64 x.1, x.2.v]) (KpD w0.heap.size B2) (fun ys => ys = dlv l s) (fun pre => pre <+: dlv l s) s.length w :=
  fun lp J Jx W hW _ _ hY h0 => dl1_in F n hf hro hn lp B1 B2 l s A1 A2 c1 c2 w0 hv hR1 hR2 J Jx hY W (below_then hb hb.size hW) (cell_below hW hb1) (cell_below hW hb2) h0
end Go.Proofs.Ytfhlkkjochjhoaa
/- slices.Clone at api.Envelope. -/
namespace Go.Proofs.Ytfhlkkjochjhoaa
open Go.RowKit
theorem infoE : (Try.prog.info? 33).map (fun i => (i.zero, i.size, i.bytes)) = some (some (.agg #[.int .i64 0, .int .i64 0, .int .i64 0, .int .i64 0, .int .i64 0, .int .i64 0, .int .i64 0, .int .i64 0, .int .i64 0, .int .i64 0]), 10, 80) := by kernel_rfl
set_option maxHeartbeats 2000000 in
theorem cloneE (xs : List Env) (A : Option Addr) (c : Nat) (w : World) (hR : Rd EEnv w A xs) (hl : xs.length * 80 ≤ 140737488355328) :
    Calls Try.prog 13 #[.slice A xs.length c] w (Made EEnv 33 xs w) := by
  have hq : ∀ (w : World) (a : Option Addr) (n c n' c' : Nat), (binOp .eql 22 (.slice a n c) (.slice none n' c')).run Try.prog w = .ok (.bool a.isNone) w := fun w a n c n' c' => Lib.run_eql_slice_nil w _ _ a n c n' c' Try.underlying22
  obtain ⟨i0, hi, hzz⟩ := Option.map_eq_some_iff.1 infoE
  simp only [Prod.mk.injEq] at hzz
  obtain ⟨hz0, hz1, hz2⟩ := hzz
  cases A with
  | none =>
    have h0 : xs = [] := by
      rcases Nat.eq_zero_or_pos xs.length with h | h
      · exact List.eq_nil_of_length_eq_zero h
      · obtain ⟨ad, h, _⟩ := hR.2 h; cases h
    subst h0
    clear hR hl hi hz0 hz1 hz2
    go_enter Try.func13, Try.ntmps13
    go_wp2
    go_ret
    exact ⟨_, rfl, Own.nil _ _ _ _, Below.refl _ _⟩
  | some ad =>
    have hc : ∀ j u, (EEnv.flat xs)[j]? = some u → w.cell? (ad.add j) = some u := fun j u hu => by
      have hlen : 0 < xs.length := by
        rcases Nat.eq_zero_or_pos xs.length with h | h
        · rw [List.eq_nil_of_length_eq_zero h] at hu; simp [Enc.flat] at hu
        · exact h
      obtain ⟨ad', h, hc⟩ := hR.2 hlen
      cases h
      exact hc j u hu
    have HC : Hid (∀ j u, (EEnv.flat xs)[j]? = some u → w.cell? (ad.add j) = some u) := hc
    clear hc hR
    go_enter Try.func13, Try.ntmps13
    go_wp2_with (at_builtin; refine wpList_append_own _ rfl _ _ 22 rfl w.heap.size 33 i0 _ 10 80 Try.underlying22 hi hz0 hz1 hz2 rfl (by decide) _ _ _ rfl (World.ownsRow_made w #[] 0 (Nat.le_refl _) (Nat.zero_le _) (by simp)) ad xs.length c (EEnv.flat xs) rfl ?qc1 ?qc2 ?qc3 ?qc4 ?qc5 ?qc6 ?_)
    case qc1 => exact EEnv.flat_length xs
    case qc2 => intro j u hj; exact cell_below ((Below.refl _ _).alloc (Nat.le_refl _) _) (HC.out j u hj)
    case qc3 => exact EEnv.flat_one' xs
    case qc4 => simp only [maxLen]; omega
    case qc5 => rw [Nat.zero_add]; exact hl
    case qc6 => simp
    intro v' w1 hown hgrow hnil
    have hb : Below w.heap.size w w1 := ((Below.refl _ w).alloc (Nat.le_refl _) _).grown hgrow (by simp) (by intro k hk; simp [Value.ownBlock] at hk; omega)
    have hown' : Own EEnv 33 w1 w.heap.size v' xs := by
      exact hown
    have HO := hid_of hown'
    clear hown hown' hgrow hnil
    go_wp2
    go_ret
    exact ⟨_, rfl, HO.out, hb⟩
end Go.Proofs.Ytfhlkkjochjhoaa
