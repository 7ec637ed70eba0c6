/- Joined texts of the seat: contracts and plain laws that the rows import. -/
import Derived.Test.YtfhlkkjochjhoaaK10
import Derived.Test.YtfhlkkjochjhoaaK1
import Derived.Test.YtfhlkkjochjhoaaK2
import Derived.Deep.LoopGhost
import Derived.Deep.QuietTactic
import Derived.BigQuiet
import Derived.Outline
import Derived.Test.YtfhlkkjochjhoaaK7
import Derived.Test.YtfhlkkjochjhoaaK6
set_option linter.unusedVariables false
set_option linter.unusedSimpArgs false
/- Crossed pairs are the pairs out of order among first deliveries: plain lists. -/
namespace Go.Proofs.Ytfhlkkjochjhoaa
open Go.RowKit
/-- The pairs of a list that stand out of order. -/
def inv : List Int → Nat
  | [] => 0
  | a :: r => (r.filter (fun b => decide (b < a))).length + inv r
theorem inv_snoc (x : Int) : ∀ t : List Int, inv (t ++ [x]) = inv t + (t.filter (fun a => decide (x < a))).length
  | [] => by simp [inv]
  | a :: r => by
    have ih := inv_snoc x r
    simp only [List.cons_append, inv, ih, List.filter_append, List.length_append, List.filter_cons, List.filter_nil]
    by_cases h : x < a
    · simp [h]; omega
    · simp [h]; omega
theorem filt_split {a : Int} : ∀ {r : List Int}, a ∉ r → (r.filter (fun b => decide (b < a))).length + (r.filter (fun b => decide (a < b))).length = r.length
  | [], _ => by simp
  | b :: r, h => by
    have hb : a ≠ b := fun e => h (by rw [e]; simp)
    have ih := filt_split (a := a) (r := r) (fun hm => h (List.mem_cons_of_mem _ hm))
    simp only [List.filter_cons, List.length_cons]
    by_cases h1 : b < a
    · simp [h1, show ¬ a < b by omega]; omega
    · simp [h1, show a < b by omega]; omega
theorem inv_rev : ∀ {t : List Int}, t.Nodup → 2 * (inv t + inv t.reverse) = t.length * (t.length - 1)
  | [], _ => by simp [inv]
  | a :: r, h => by
    have h2 := List.nodup_cons.1 h
    have ih := inv_rev h2.2
    have hs := filt_split h2.1
    rw [List.reverse_cons, inv_snoc, List.filter_reverse, List.length_reverse, inv, List.length_cons, Nat.add_sub_cancel]
    have hm : (r.length + 1) * r.length = r.length * (r.length - 1) + 2 * r.length := by
      cases r.length with
      | zero => rfl
      | succ m => simp only [Nat.add_sub_cancel, Nat.add_mul, Nat.mul_add]; omega
    rw [hm, ← ih]; omega
theorem once_self : ∀ t : List Int, t.Nodup → once t = t := by
  refine snocI_ind (fun _ => rfl) (fun t x ih h => ?_)
  rw [List.nodup_append] at h
  rw [once_snoc, ih h.1, if_neg]
  intro hx
  exact h.2.2 x hx x (by simp) rfl
theorem frM_asc : ∀ s : List Int, (frM s).Pairwise (fun p q => p.2 < q.2) ∧ ∀ p ∈ frM s, p.2 < s.length := by
  refine snocI_ind ⟨by simp [frM], by simp [frM]⟩ (fun s x ih => ?_)
  rw [frM_snoc]
  unfold frStep
  by_cases h : (mget (frM s) x).isSome = true
  · rw [if_pos h]
    exact ⟨ih.1, fun p hp => by have := ih.2 p hp; rw [List.length_append]; simp; omega⟩
  · rw [if_neg h]
    unfold mput
    rw [if_neg h]
    refine ⟨List.pairwise_append.2 ⟨ih.1, by simp, fun p hp q hq => ?_⟩, fun p hp => ?_⟩
    · simp only [List.mem_singleton] at hq
      subst hq
      exact ih.2 p hp
    · rw [List.length_append]
      rcases List.mem_append.1 hp with hp | hp
      · have := ih.2 p hp; simp; omega
      · simp only [List.mem_singleton] at hp
        subst hp
        simp; omega
theorem sum_congr' {α : Type} {f g : α → Nat} {l : List α} (h : ∀ x ∈ l, f x = g x) : (l.map f).sum = (l.map g).sum := by
  rw [List.map_congr_left h]
theorem crossM_inv (m : List (Int × Int)) : ∀ k, k = m.length → m.Pairwise (fun p q => p.2 < q.2) → crossM m = inv (m.map (·.1)) := by
  intro k
  induction k generalizing m with
  | zero => intro h _; rw [List.eq_nil_of_length_eq_zero h.symm]; simp [crossM, inv]
  | succ k ih =>
    intro hk hp
    rcases List.eq_nil_or_concat m with rfl | ⟨t, x, rfl⟩
    · simp at hk
    · rw [List.concat_eq_append] at hk hp ⊢
      rw [List.pairwise_append] at hp
      have hlt : ∀ p ∈ t, p.2 < x.2 := fun p h => hp.2.2 p h x (by simp)
      have h1 := ih t (by simp at hk; omega) hp.1
      rw [List.map_append, List.map_cons, List.map_nil, inv_snoc, ← h1]
      unfold crossM
      rw [List.map_append, List.sum_append]
      have e1 : (t.map (crossE (t ++ [x]))).sum = (t.map (crossE t)).sum := sum_congr' (fun p h => by
        unfold crossE
        rw [List.filter_append]
        have := hlt p h
        simp only [List.filter_cons, List.filter_nil, List.length_append]
        rw [if_neg (by simp; omega)]; simp)
      have e2 : crossE (t ++ [x]) x = ((t.map (·.1)).filter (fun a => decide (x.1 < a))).length := by
        unfold crossE
        rw [List.filter_append, List.length_append, List.filter_map, List.length_map]
        have e3 : ([x].filter (fun q => decide (x.1 < q.1) && decide (q.2 < x.2))).length = 0 := by simp
        rw [e3, Nat.add_zero]
        congr 1
        refine List.filter_congr (fun q h => ?_)
        have := hlt q h
        simp [this]
      rw [e1]; simp only [List.map_cons, List.map_nil, List.sum_cons, List.sum_nil, Nat.add_zero]; rw [e2]
theorem crossM_once (s : List Int) : crossM (frM s) = inv (once s) := by
  rw [crossM_inv _ _ rfl (frM_asc s).1, (frM_char s).key]
/-- A schedule of deliveries that are in another one is asked for as well. -/
theorem askR_sub {l : List Env} {s t : List Int} (h : askR l s = 0) (hl : t.length ≤ s.length) (hm : ∀ x ∈ t, x ∈ s) : askR l t = 0 := by
  obtain ⟨h1, h2, h3⟩ := ask_ok h
  unfold askR
  rw [if_neg (by simp [h1]), if_neg (by omega), if_neg]
  intro ha
  obtain ⟨x, hx, hb⟩ := List.any_eq_true.1 ha
  have := h3 x (hm x hx)
  unfold outI at hb
  have hb := of_decide_eq_true hb
  omega
/-- What NetworkTurned asks. -/
theorem turnedP (l : List Env) (s : List Int) : ((crR l s).2 ≠ 0 ∧ (crR l s).1 = 0) ∨ ((crR l s).2 = 0 ∧ ∃ c g : Nat, crR l s = ((c : Int), 0) ∧ crR l (once s) = ((c : Int), 0) ∧ crR l (once s).reverse = ((g : Int), 0) ∧ 2 * (c + g) = (once s).length * ((once s).length - 1)) := by
  by_cases h : askR l s ≠ 0
  · refine .inl ?_
    unfold crR
    rw [if_pos h]; exact ⟨h, rfl⟩
  · have h : askR l s = 0 := by simpa using h
    have h1 := askR_sub h (once_len s) (fun x hx => (once_mem s x).1 hx)
    have h2 : askR l (once s).reverse = 0 := askR_sub h (by rw [List.length_reverse]; exact once_len s) (fun x hx => (once_mem s x).1 (List.mem_reverse.1 hx))
    refine .inr ⟨by unfold crR; rw [if_neg (by simp [h])], inv (once s), inv (once s).reverse, ?_, ?_, ?_, inv_rev (once_nodup s)⟩
    · unfold crR; rw [if_neg (by simp [h]), crossM_once]
    · unfold crR; rw [if_neg (by simp [h1]), crossM_once, once_self _ (once_nodup s)]
    · unfold crR; rw [if_neg (by simp [h2]), crossM_once, once_self _ (by unfold List.Nodup; rw [List.pairwise_reverse]; exact (once_nodup s).imp (fun h => h.symm))]
/-- 0, 1, .. -/
def upI (n : Nat) : List Int := (List.range n).map (fun k : Nat => (k : Int))
theorem upI_snoc (n : Nat) : upI (n + 1) = upI n ++ [(n : Int)] := by unfold upI; rw [List.range_succ, List.map_append]; rfl
theorem upI_len (n : Nat) : (upI n).length = n := by simp [upI]
theorem upI_mem (n : Nat) (x : Int) : x ∈ upI n ↔ 0 ≤ x ∧ x < n := by
  unfold upI
  simp only [List.mem_map, List.mem_range]
  constructor
  · rintro ⟨k, h, rfl⟩; omega
  · rintro ⟨h1, h2⟩; exact ⟨x.toNat, by omega, by omega⟩
theorem upI_nodup : ∀ n, (upI n).Nodup
  | 0 => by simp [upI]
  | n + 1 => by
    rw [upI_snoc, List.nodup_append]
    exact ⟨upI_nodup n, by simp, fun a ha b hb e => by simp only [List.mem_singleton] at hb; rw [upI_mem] at ha; omega⟩
theorem inv_upI : ∀ n, inv (upI n) = 0
  | 0 => rfl
  | n + 1 => by
    rw [upI_snoc, inv_snoc, inv_upI n, Nat.zero_add, List.length_eq_zero_iff, List.filter_eq_nil_iff]
    intro a ha
    rw [upI_mem] at ha
    simp; omega
theorem lostL_upI (n m : Nat) : ∀ k, k ≤ n → lostL m (upI n) k = []
  | 0, _ => rfl
  | k + 1, hk => by
    unfold lostL
    rw [if_pos ((upI_mem n _).2 (by omega)), lostL_upI n m k (by omega)]
/-- What NetworkStraight asks. -/
theorem straightP (l : List Env) (hl : l.length ≤ 14) : ∃ e : Int, (e ≠ 0 ∧ lostR l (upI l.length) = ([], e) ∧ repR l (upI l.length) = (0, e) ∧ crR l (upI l.length) = (0, e) ∧ crR l (upI l.length).reverse = (0, e)) ∨ (lostR l (upI l.length) = ([], 0) ∧ repR l (upI l.length) = (0, 0) ∧ crR l (upI l.length) = (0, 0) ∧ ∃ g : Nat, crR l (upI l.length).reverse = ((g : Int), 0) ∧ 2 * g = l.length * (l.length - 1)) := by
  have hq : ∀ t : List Int, t.length ≤ 14 → (∀ x ∈ t, 0 ≤ x ∧ x < l.length) → askR l t = if (netR l).2 ≠ 0 then 1 else 0 := fun t h1 h2 => by
    unfold askR
    split
    · rfl
    · rw [if_neg (by omega), if_neg]
      intro ha
      obtain ⟨x, hx, hb⟩ := List.any_eq_true.1 ha
      have := h2 x hx
      unfold outI at hb
      have hb := of_decide_eq_true hb
      omega
  have h1 := hq (upI l.length) (by rw [upI_len]; exact hl) (fun x hx => (upI_mem _ x).1 hx)
  have h2 := hq (upI l.length).reverse (by rw [List.length_reverse, upI_len]; exact hl) (fun x hx => (upI_mem _ x).1 (List.mem_reverse.1 hx))
  by_cases h : (netR l).2 ≠ 0
  · rw [if_pos h] at h1 h2
    refine ⟨1, .inl ⟨by decide, ?_, ?_, ?_, ?_⟩⟩
    · unfold lostR; rw [h1]; rfl
    · unfold repR; rw [h1]; rfl
    · unfold crR; rw [h1]; rfl
    · unfold crR; rw [h2]; rfl
  · rw [if_neg h] at h1 h2
    have hn := upI_nodup l.length
    have hr := inv_rev hn
    rw [inv_upI, upI_len, Nat.zero_add] at hr
    refine ⟨0, .inr ⟨?_, ?_, ?_, inv (upI l.length).reverse, ?_, hr⟩⟩
    · unfold lostR; rw [h1, if_neg (by simp), lostL_upI _ _ _ (Nat.le_refl _)]
    · unfold repR; rw [h1, if_neg (by simp), once_self _ hn]; simp
    · unfold crR; rw [h1, if_neg (by simp), crossM_once, once_self _ hn, inv_upI]; rfl
    · unfold crR; rw [h2, if_neg (by simp), crossM_once, once_self _ (by unfold List.Nodup; rw [List.pairwise_reverse]; exact hn.imp (fun h => h.symm))]
end Go.Proofs.Ytfhlkkjochjhoaa
/- A list that is turned round in place, pair by pair: plain lists. -/
namespace Go.Proofs.Ytfhlkkjochjhoaa
variable {α : Type}
/-- ys is l with the first i and the last i elements changed for one another. -/
structure RevI (l : List α) (i : Nat) (ys : List α) : Prop where
  len : ys.length = l.length
  at_ : ∀ k, k < l.length → ys[k]? = if k < i ∨ l.length ≤ k + i then l[l.length - 1 - k]? else l[k]?
theorem RevI.start (l : List α) : RevI l 0 l := ⟨rfl, fun k hk => by rw [if_neg (by omega)]⟩
theorem RevI.lo {l ys : List α} {i : Nat} (h : RevI l i ys) (hi : 2 * i + 1 < l.length) (hk : i < ys.length) : ys[i] = l[i]'(by omega) := by
  have := h.at_ i (by omega)
  rw [if_neg (by omega), List.getElem?_eq_getElem hk, List.getElem?_eq_getElem (by omega)] at this
  exact Option.some.inj this
theorem RevI.hi {l ys : List α} {i : Nat} (h : RevI l i ys) (hi : 2 * i + 1 < l.length) (hk : l.length - 1 - i < ys.length) : ys[l.length - 1 - i] = l[l.length - 1 - i]'(by omega) := by
  have := h.at_ (l.length - 1 - i) (by omega)
  rw [if_neg (by omega), List.getElem?_eq_getElem hk, List.getElem?_eq_getElem (by omega)] at this
  exact Option.some.inj this
theorem RevI.step {l ys : List α} {i j : Nat} (h : RevI l i ys) (hj : j = l.length - 1 - i) (hi : i < j) (a b : α) (ha : ∃ h : i < ys.length, ys[i] = a) (hb : ∃ h : j < ys.length, ys[j] = b) : RevI l (i + 1) ((ys.set i b).set j a) := by
  subst hj
  obtain ⟨h1, ha⟩ := ha
  obtain ⟨h2, hb⟩ := hb
  rw [h.lo (by omega) h1] at ha
  rw [h.hi (by omega) h2] at hb
  refine ⟨by simp [h.len], fun k hk => ?_⟩
  have hl := h.len
  rw [List.getElem?_set, List.getElem?_set, List.length_set]
  by_cases e1 : l.length - 1 - i = k
  · rw [if_pos e1, if_pos (by omega), if_pos (by omega), ← ha]
    rw [show l.length - 1 - k = i by omega, List.getElem?_eq_getElem (by omega)]
  · rw [if_neg e1]
    by_cases e2 : i = k
    · subst e2
      rw [if_pos rfl, if_pos h1, if_pos (by omega), ← hb, List.getElem?_eq_getElem (by omega)]
    · rw [if_neg e2, h.at_ k hk]
      by_cases e3 : k < i ∨ l.length ≤ k + i
      · rw [if_pos e3, if_pos (by omega)]
      · rw [if_neg e3, if_neg (by omega)]
theorem RevI.done {l ys : List α} {i : Nat} (h : RevI l i ys) (hi : ¬ i < l.length - 1 - i) : ys = l.reverse := by
  apply List.ext_getElem?
  intro k
  by_cases hk : k < l.length
  · rw [h.at_ k hk, List.getElem?_reverse hk]
    by_cases e : k < i ∨ l.length ≤ k + i
    · rw [if_pos e]
    · rw [if_neg e, show l.length - 1 - k = k by omega]
  · rw [List.getElem?_eq_none (by have := h.len; omega), List.getElem?_eq_none (by simp; omega)]
end Go.Proofs.Ytfhlkkjochjhoaa
/- slices.Reverse at int, on a row of the call's own. -/
namespace Go.Proofs.Ytfhlkkjochjhoaa
open Go.RowKit
set_option maxHeartbeats 4000000 in
set_option maxRecDepth 100000 in
theorem reverseI (l : List Int) (v : Value) (base : Nat) (w : World) (hO : Own EI 3 w base v l) (hb : base ≤ w.heap.size) :
    Calls Try.prog 34 #[v] w fun e w' => e = .returned (.tuple #[]) ∧ Own EI 3 w' base v l.reverse ∧ Below base w w' := by
  obtain ⟨A, cap, hv, hcap, hR⟩ := hO.rd
  have hle := hO.le
  have hcap' : cap ≤ 9223372036854775807 := by
    rcases hO.2 with ⟨e, _⟩ | ⟨g, cap', cur, e, _, _, _, hm, _⟩
    · rw [e] at hv; simp only [Value.slice.injEq] at hv; omega
    · rw [e] at hv; simp only [Value.slice.injEq] at hv; simp only [maxLen] at hm; omega
  subst hv
  have hw1 : IntKind.i64.wrap ((l.length : Int) - 1) = (l.length : Int) - 1 := by rw [IntKind.wrap_i64]; omega
  have HO0 := hid_of hO
  clear hR hO
  go_enter Try.func34, Try.ntmps34
  go_wp2_with fail
  go_loopg [2, 3] l.length (fun gg s2 s3 wr => ∃ (i : Nat) (j : Int) (ys : List Int), i ≤ l.length ∧ l.length - i ≤ gg ∧ s2 = .int .i64 i ∧ s3 = .int .i64 j ∧ j = (l.length : Int) - 1 - i ∧ Hid (RevI l i ys) ∧ Hid (Own EI 3 wr base (.slice A l.length cap) ys) ∧ Hid (Below base w wr))
  case atStart => exact ⟨0, (l.length : Int) - 1, l, Nat.zero_le _, by omega, rfl, rfl, by omega, RevI.start l, HO0.out, Below.refl _ _⟩
  case round =>
    obtain ⟨i, j, ys, hil, hg, rfl, rfl, hj, HV, HO, BW⟩ := hrel
    by_cases hlt : i < l.length - 1 - i
    · obtain ⟨jn, hjn⟩ : ∃ jn : Nat, jn = l.length - 1 - i := ⟨_, rfl⟩
      have hj2 : j = (jn : Int) := by omega
      subst hj2
      clear hj
      have hyl := HV.out.len
      obtain ⟨g, cap', hv, hbg, hgl, hc1⟩ := HO.out.open_ (by omega)
      simp only [Value.slice.injEq] at hv
      obtain ⟨rfl, hq, rfl⟩ := hv
      clear hq
      have HRw : Hid (Row EI 3 wr g cap ys) := (show Own EI 3 wr base (.slice (some ⟨g, 0, none⟩) l.length cap) ys from HO.out).row.1
      have hfz := fun i => HRw.out.frozen i
      have hltj : (i : Int) < (jn : Int) := by omega
      have hi1 : (i : Int) < (l.length : Int) := by omega
      have hj1 : (jn : Int) < (l.length : Int) := by omega
      have hi2 : i < l.length := by omega
      have hj2 : jn < l.length := by omega
      obtain ⟨ad, had, c0⟩ := I.at_ HRw.out.rd i (by omega)
      obtain ⟨ad', had', d0⟩ := I.at_ HRw.out.rd jn (by omega)
      cases had
      cases had'
      simp only [addr_plain] at c0 d0
      generalize hx : ys[i]'(by omega) = x at c0
      generalize hy : ys[jn]'(by omega) = y at d0
      have HX : Hid (∃ h : i < ys.length, ys[i] = x) := ⟨by omega, hx⟩
      have HY : Hid (∃ h : jn < ys.length, ys[jn] = y) := ⟨by omega, hy⟩
      have HJ := hid_of hjn
      have HL := hid_of hlt
      have HBG := hid_of hbg
      clear hx hy hlt hjn hbg hgl hc1
      go_wp2_with fail
      go_region
      clear hfz c0 d0
      have hs1 := HRw.out.set i (by omega) y
      have hs2 := hs1.1.set jn (by rw [List.length_set]; omega) x
      simp only [show EI.k = 1 from rfl, Nat.mul_one] at hs1 hs2
      have HS1 := hid_of hs1.2
      have HS2 := hid_of hs2
      clear hs1 hs2
      go_wp2_with fail
      go_roundg (l.length - (i + 1))
      case measure => omega
      case rel =>
        have hJ := HJ.out
        have hL := HL.out
        have hnew := HV.out.step HJ.out (by omega) x y HX.out HY.out
        refine ⟨i + 1, (jn : Int) - 1, _, by omega, Nat.le_refl _, by go_num, by go_num, by omega, hnew, ?_, ?_⟩
        · have h := (HS2.out.1.drew).own HBG.out
          rw [hnew.len] at h
          exact h
        · have hsz := BW.out.size
          exact ((BW.out.grown HS1.out (by omega) (fun k hk => by cases hk; exact HBG.out)).grown HS2.out.2 (by have := HS1.out.size; omega) (fun k hk => by cases hk; exact HBG.out)).drew
    · have hnl : ¬ ((i : Int) < j) := by omega
      have hdn := HV.out.done hlt
      subst hdn
      clear hlt hj
      go_wp2_with fail
      go_end0
      exact ⟨rfl, HO.out, BW.out⟩
end Go.Proofs.Ytfhlkkjochjhoaa
/- NetworkStraight returns true. -/
namespace Go.Proofs.Ytfhlkkjochjhoaa
open Go.RowKit
theorem half14 {n g : Nat} (hn : n ≤ 14) (hg : 2 * g = n * (n - 1)) : ((g : Int) == wrap64 ((wrap64 ((n : Int) * ((n : Int) - 1))).tdiv 2)) = true := by
  have key : ∀ n : Fin 15, ((((n.val * (n.val - 1)) / 2 : Nat) : Int) == wrap64 ((wrap64 ((n.val : Int) * ((n.val : Int) - 1))).tdiv 2)) = true := by decide +kernel
  have e : g = n * (n - 1) / 2 := by omega
  rw [e]
  exact key ⟨n, by omega⟩
set_option maxHeartbeats 8000000 in
set_option maxRecDepth 100000 in
theorem lstraight_any (l : List Env) (A : Option Addr) (c : Nat) (w : World) (hR1 : Rd EEnv w A l) : Calls Try.prog 6 #[.slice A l.length c] w (LatPost true w) := by
  unfold LatPost
  have hle1 := hR1.le
  by_cases hs : l.length ≤ 14
  · have hs' : ¬ ((l.length : Int) > 14) := by omega
    obtain ⟨i0, hi, hzz⟩ := Option.map_eq_some_iff.1 infoI
    simp only [Prod.mk.injEq] at hzz
    obtain ⟨hz0, hz1, hz2⟩ := hzz
    have HI : Hid (Try.prog.info? 3 = some i0 ∧ i0.zero = some (.int .i64 0) ∧ i0.size = 1 ∧ i0.bytes = 8) := ⟨hi, hz0, hz1, hz2⟩
    clear hi hz0 hz1 hz2
    have hq : ∃ (e : Int) (g : Nat), lostR l (upI l.length) = ([], e) ∧ repR l (upI l.length) = (0, e) ∧ crR l (upI l.length) = (0, e) ∧ crR l (upI l.length).reverse = ((g : Int), e) ∧ ((e ≠ 0 ∧ g = 0) ∨ (e = 0 ∧ 2 * g = l.length * (l.length - 1))) := by
      obtain ⟨e, h | ⟨h1, h2, h3, g, h4, h5⟩⟩ := straightP l hs
      · exact ⟨e, 0, h.2.1, h.2.2.1, h.2.2.2.1, h.2.2.2.2, .inl ⟨h.1, rfl⟩⟩
      · exact ⟨0, g, h1, h2, h3, h4, .inr ⟨rfl, h5⟩⟩
    obtain ⟨er, g, q1, q2, q3, q4, hq⟩ := hq
    have hcl := fun W (h : Below w.heap.size w W) => cloneE l A c W (hR1.below h) (by omega)
    have h1 := fun A B c d W (h : Rd EEnv W A l) (h' : Rd EI W B (upI l.length)) => lost_any l (upI l.length) A B c d W h h'
    have h2 := fun A B c d W (h : Rd EEnv W A l) (h' : Rd EI W B (upI l.length)) => repeated_any l (upI l.length) A B c d W h h'
    have h3 := fun A B c d W (h : Rd EEnv W A l) (h' : Rd EI W B (upI l.length)) => crossed_any l (upI l.length) A B c d W h h'
    have h4 := fun A B c d W (h : Rd EEnv W A l) (h' : Rd EI W B (upI l.length).reverse) => crossed_any l (upI l.length).reverse A B c d W h h'
    unfold R2 at h2 h3 h4
    unfold Made2 at h1
    unfold Made at hcl
    rw [q1] at h1
    rw [q2] at h2
    rw [q3] at h3
    rw [q4] at h4
    dsimp only at h1 h2 h3 h4
    have hul := upI_len l.length
    have HCL := hid_of hcl
    have H1 := hid_of h1
    have H2 := hid_of h2
    have H3 := hid_of h3
    have H4 := hid_of h4
    have HQ := hid_of hq
    have HS1 := hid_of hs
    have HUL := hid_of hul
    clear hcl h1 h2 h3 h4 q1 q2 q3 q4 hq hul hR1
    go_enter Try.func6, Try.ntmps6
    go_wp2_with fail
    refine (awake_any _).mono ?_
    rintro e w1 ⟨rfl, hb⟩
    have HB := hid_of hb
    clear hb
    go_wp2_with fail
    go_loopg [3, 4, 20] l.length (fun gg s3 _ s20 wr => ∃ k : Nat, k ≤ l.length ∧ l.length - k ≤ gg ∧ s20 = .int .i64 k ∧ Hid (Own EI 3 wr w.heap.size s3 (upI k)) ∧ Hid (Below w.heap.size w wr))
    case atStart => exact ⟨0, Nat.zero_le _, by omega, rfl, Own.nil _ _ _ _, HB.out⟩
    case round =>
      obtain ⟨k, hk, hg, rfl, HO, BW⟩ := hrel
      by_cases hlt : k < l.length
      · have hll := upI_len k
        have hsn := upI_snoc k
        generalize upI k = ls at HO hll hsn
        have HSN := hid_of hsn
        have hsz := BW.out.size
        clear hsn
        go_wp2_with (at_builtin; refine wpList_append_own _ rfl _ _ 23 rfl w.heap.size 3 i0 _ 1 8 Try.underlying23 HI.out.1 HI.out.2.1 HI.out.2.2.1 HI.out.2.2.2 rfl (by decide) _ _ _ rfl (HO.out.alloc _) _ 1 _ (EI.flat [(k : Int)]) rfl ?qc1 ?qc2 ?qc3 ?qc4 ?qc5 ?qc6 ?_)
        case qc1 => rfl
        case qc2 =>
          intro j u hj
          rw [addr_plain, blk_cell (blkN _ _) j]
          simpa [Enc.flat, EI] using hj
        case qc3 => exact EI.flat_one' _
        case qc4 => simp only [maxLen]; omega
        case qc5 => omega
        case qc6 => simp; omega
        intro v' w3 hown hgrow hnil
        have hown' : Own EI 3 w3 w.heap.size v' (ls ++ [(k : Int)]) := by
          unfold Own; rw [EI.flat_append, List.length_append, List.length_singleton, hll]; exact hown
        have hnb := fun k h => (HO.out.block k h).1
        have HB4 := hid_of ((BW.out.alloc hsz (.cells #[.int .i64 k] 3)).grown hgrow (by simp; omega) hnb)
        have HO4 := hid_of hown'
        clear hown hown' hgrow hnil hnb HO BW
        go_wp2_with fail
        go_roundg (l.length - (k + 1))
        case measure => omega
        case rel =>
          refine ⟨k + 1, by omega, Nat.le_refl _, by go_num, ?_, HB4.out⟩
          rw [HSN.out]
          exact HO4.out
      · have hkl : k = l.length := by omega
        subst hkl
        replace HB := BW
        generalize upI l.length = S at *
        obtain ⟨As, cs, rfl, hcap, hRs⟩ := HO.out.rd
        have RS := hid_of hRs
        have hS56 : S.length * 8 ≤ 140737488355328 := by have := HUL.out; have := HS1.out; omega
        clear hRs BW
        go_wp2_with fail
        refine (HCL.out wr HB.out).mono ?_
        rintro e w2 ⟨v, rfl, hO, hb⟩
        obtain ⟨Aa, ca, rfl, _, hR⟩ := hO.rd
        replace RS := hid_of (RS.out.below hb)
        replace HO := hid_of (HO.out.below hb)
        replace HB := hid_of (below_then HB.out HB.out.size hb)
        have Ra := hid_of hR
        clear hO hR hb
        go_wp2_with fail
        refine (cloneI S As cs _ RS.out hS56).mono ?_
        rintro e w3 ⟨v, rfl, hO, hb⟩
        obtain ⟨Ab, cb, rfl, _, hR⟩ := hO.rd
        replace RS := hid_of (RS.out.below hb)
        replace Ra := hid_of (Ra.out.below hb)
        replace HO := hid_of (HO.out.below hb)
        replace HB := hid_of (below_then HB.out HB.out.size hb)
        have Rb := hid_of hR
        clear hO hR hb
        go_wp2_with fail
        refine (H1.out Aa Ab ca cb w3 Ra.out Rb.out).mono ?_
        rintro e w4 ⟨v, rfl, hO, hb⟩
        obtain ⟨Ax, cx, rfl, _, hR⟩ := hO.rd
        replace RS := hid_of (RS.out.below hb)
        replace Ra := hid_of (Ra.out.below hb)
        replace Rb := hid_of (Rb.out.below hb)
        replace HO := hid_of (HO.out.below hb)
        replace HB := hid_of (below_then HB.out HB.out.size hb)
        clear hO hR hb
        clear Ra Rb
        go_wp2_with fail
        refine (HCL.out w4 HB.out).mono ?_
        rintro e w5 ⟨v, rfl, hO, hb⟩
        obtain ⟨Aa, ca, rfl, _, hR⟩ := hO.rd
        replace RS := hid_of (RS.out.below hb)
        replace HO := hid_of (HO.out.below hb)
        replace HB := hid_of (below_then HB.out HB.out.size hb)
        have Ra := hid_of hR
        clear hO hR hb
        go_wp2_with fail
        refine (cloneI S As cs _ RS.out hS56).mono ?_
        rintro e w6 ⟨v, rfl, hO, hb⟩
        obtain ⟨Ab, cb, rfl, _, hR⟩ := hO.rd
        replace RS := hid_of (RS.out.below hb)
        replace Ra := hid_of (Ra.out.below hb)
        replace HO := hid_of (HO.out.below hb)
        replace HB := hid_of (below_then HB.out HB.out.size hb)
        have Rb := hid_of hR
        clear hO hR hb
        go_wp2_with fail
        refine (H2.out Aa Ab ca cb w6 Ra.out Rb.out).mono ?_
        rintro e w7 ⟨rfl, hb⟩
        replace RS := hid_of (RS.out.below hb)
        replace Ra := hid_of (Ra.out.below hb)
        replace Rb := hid_of (Rb.out.below hb)
        replace HO := hid_of (HO.out.below hb)
        replace HB := hid_of (below_then HB.out HB.out.size hb)
        clear hb
        clear Ra Rb
        go_wp2_with fail
        refine (HCL.out w7 HB.out).mono ?_
        rintro e w8 ⟨v, rfl, hO, hb⟩
        obtain ⟨Aa, ca, rfl, _, hR⟩ := hO.rd
        replace RS := hid_of (RS.out.below hb)
        replace HO := hid_of (HO.out.below hb)
        replace HB := hid_of (below_then HB.out HB.out.size hb)
        have Ra := hid_of hR
        clear hO hR hb
        go_wp2_with fail
        refine (cloneI S As cs _ RS.out hS56).mono ?_
        rintro e w9 ⟨v, rfl, hO, hb⟩
        obtain ⟨Ab, cb, rfl, _, hR⟩ := hO.rd
        replace RS := hid_of (RS.out.below hb)
        replace Ra := hid_of (Ra.out.below hb)
        replace HO := hid_of (HO.out.below hb)
        replace HB := hid_of (below_then HB.out HB.out.size hb)
        have Rb := hid_of hR
        clear hO hR hb
        go_wp2_with fail
        refine (H3.out Aa Ab ca cb w9 Ra.out Rb.out).mono ?_
        rintro e w10 ⟨rfl, hb⟩
        replace RS := hid_of (RS.out.below hb)
        replace Ra := hid_of (Ra.out.below hb)
        replace Rb := hid_of (Rb.out.below hb)
        replace HO := hid_of (HO.out.below hb)
        replace HB := hid_of (below_then HB.out HB.out.size hb)
        clear hb
        clear Ra Rb
        have hrv := reverseI S _ w.heap.size w10 HO.out HB.out.size
        go_wp2_with fail
        refine hrv.mono ?_
        rintro e wz ⟨rfl, hO, hb⟩
        replace HB := hid_of (HB.out.trans hb)
        obtain ⟨Az, cz, hv, _, hRz⟩ := hO.rd
        simp only [Value.slice.injEq] at hv
        obtain ⟨rfl, hlz, rfl⟩ := hv
        have RZ := hid_of hRz
        have hlz2 := hid_of hlz
        clear hrv hb hO hRz RS HO hlz
        go_wp2_with fail
        refine (HCL.out wz HB.out).mono ?_
        rintro e w11 ⟨v, rfl, hO, hb⟩
        obtain ⟨Aa, ca, rfl, _, hR⟩ := hO.rd
        replace RZ := hid_of (RZ.out.below hb)
        replace HB := hid_of (below_then HB.out HB.out.size hb)
        have Ra := hid_of hR
        clear hO hR hb
        have hc := H4.out Aa As ca cs w11 Ra.out RZ.out
        rw [List.length_reverse] at hc
        go_wp2_with fail
        refine (hc).mono ?_
        rintro e w12 ⟨rfl, hb⟩
        replace RZ := hid_of (RZ.out.below hb)
        replace Ra := hid_of (Ra.out.below hb)
        replace HB := hid_of (below_then HB.out HB.out.size hb)
        clear hb hc
        clear Ra RZ
        rcases HQ.out with ⟨he, rfl⟩ | ⟨rfl, hg2⟩
        · have he' : (er == 0) = false := by simpa using he
          clear he
          go_wp2_with fail
          go_ret
          exact ⟨rfl, HB.out⟩
        · clear HQ
          have hfin := half14 HS1.out hg2
          clear hg2
          go_wp2_with fail

          go_ret
          exact ⟨rfl, HB.out⟩
  · have h1' : (l.length : Int) > 14 := by omega
    clear hs hR1
    go_enter Try.func6, Try.ntmps6
    go_wp2_with fail
    refine (awake_any _).mono ?_
    rintro e w1 ⟨rfl, hb⟩
    have HB := hid_of hb
    clear hb
    go_wp2_with fail
    go_ret
    exact ⟨rfl, HB.out⟩
end Go.Proofs.Ytfhlkkjochjhoaa
