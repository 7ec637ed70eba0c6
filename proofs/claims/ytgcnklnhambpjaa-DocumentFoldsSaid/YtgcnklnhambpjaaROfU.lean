/- The reference's of gives what document.of gives, at different messages in order that have their form: plain lists. -/
import Derived.Test.YtgcnklnhambpjaaOfU
import Derived.Test.YtgcnklnhambpjaaROfW
import Derived.Test.YtgcnklnhambpjaaRGuard
namespace Go.Proofs.Ytgcnklnhambpjaa
open Go.RowKit
def isE (mv : Int) (m : Msg) : Bool := decide (m.mv = mv) && (decide (m.kd ≠ 1) && (decide (m.kd ≠ 2) && (decide (m.kd ≠ 3) && decide (m.kd ≠ 4))))
structure ROfC (mv : Int) (l : List Msg) (k : Nat) (s : ROf) : Prop where
  hmv : s.d.mv = mv
  hfr : s.d.fr = lastI Msg.fr ((l.take k).filter (isK mv 1))
  htt : s.d.tt = lastI Msg.tt ((l.take k).filter (isDC mv))
  hse : s.d.se = lastI Msg.al ((l.take k).filter (isK mv 1))
  hre : s.d.re = lastI Msg.al ((l.take k).filter (isK mv 3))
  hch : s.d.ch = ((l.take k).filter (isK mv 2)).length
  hdi : s.di = ((l.take k).filter (isK mv 1)).length
  han : s.an = ((l.take k).filter (isRF mv)).length
  hen : s.en = ((l.take k).filter (isE mv)).length
  hrf : s.rf = (l.take k).any (isK mv 4)
  hcf : s.cf = true ↔ ∃ j, ∃ (h : j < l.length), j < k ∧ isK mv 2 l[j] = true ∧ isK mv 2 (l[j - 1]'(by omega)) = true ∧ (l[j - 1]'(by omega)).nu = l[j].nu
theorem cf_keep {mv : Int} {l : List Msg} {k : Nat} {b : Bool} (hk : k < l.length) (h : b = true ↔ ∃ j, ∃ (h : j < l.length), j < k ∧ isK mv 2 l[j] = true ∧ isK mv 2 (l[j - 1]'(by omega)) = true ∧ (l[j - 1]'(by omega)).nu = l[j].nu) (hn : isK mv 2 l[k] = false) :
    b = true ↔ ∃ j, ∃ (h : j < l.length), j < k + 1 ∧ isK mv 2 l[j] = true ∧ isK mv 2 (l[j - 1]'(by omega)) = true ∧ (l[j - 1]'(by omega)).nu = l[j].nu := by
  rw [h]
  constructor
  · rintro ⟨j, h1, h2, h3⟩
    exact ⟨j, h1, by omega, h3⟩
  · rintro ⟨j, h1, h2, h3, h4⟩
    refine ⟨j, h1, ?_, h3, h4⟩
    rcases Nat.lt_or_ge j k with h | h
    · exact h
    · have : j = k := by omega
      subst this
      rw [hn] at h3; cases h3
theorem rofF_char (mv : Int) (l : List Msg) : ∀ k, k ≤ l.length → ROfC mv l k (rofF mv l k)
  | 0, _ => by constructor <;> simp [rofF, rofInit, lastI]
  | k + 1, hk => by
    have hkl : k < l.length := by omega
    have h := rofF_char mv l k (by omega)
    unfold rofF
    rw [dif_pos hkl]
    generalize rofF mv l k = s at h
    obtain ⟨h0, h1, h2, h3, h4, h5, h6, h7, h8, h9, h10⟩ := h
    have ht := List.take_succ_eq_append_getElem hkl
    generalize hm0 : l[k] = m at ht
    unfold rofStep
    by_cases hm : m.mv = mv
    · rw [if_neg (by simpa using hm)]
      by_cases k1 : m.kd = 1
      · rw [if_pos k1]
        refine ⟨h0, ?_, ?_, ?_, ?_, ?_, ?_, ?_, ?_, ?_, cf_keep hkl h10 (by rw [hm0]; simp [isK, k1])⟩
        all_goals simp [ht, List.filter_append, isK, isDC, isRF, isE, hm, k1, h1, h2, h3, h4, h5, h6, h7, h8, h9, lastI_snoc]
      · rw [if_neg k1]
        by_cases k2 : m.kd = 2
        · rw [if_pos k2]
          refine ⟨h0, ?_, ?_, ?_, ?_, ?_, ?_, ?_, ?_, ?_, ?_⟩
          all_goals try simp [ht, List.filter_append, isK, isDC, isRF, isE, hm, k2, h1, h2, h3, h4, h5, h6, h7, h8, h9, lastI_snoc]
          rw [show s.cf = true ↔ _ from h10]
          constructor
          · rintro (⟨j, q1, q2, q3⟩ | ⟨q1, q2, q3⟩)
            · exact ⟨j, by omega, q1, by simpa [isK] using q3⟩
            · refine ⟨k, by omega, hkl, ?_⟩
              rw [hm0]
              exact ⟨⟨hm, k2⟩, ⟨q1, q2⟩, q3⟩
          · rintro ⟨j, q1, q2, q3, q4, q5⟩
            rcases Nat.lt_or_ge j k with h | h
            · exact .inl ⟨j, q2, h, by simpa [isK] using q3, by simpa [isK] using q4, q5⟩
            · have : j = k := by omega
              subst this
              rw [hm0] at q5
              exact .inr ⟨q4.1, q4.2, q5⟩
        · rw [if_neg k2]
          by_cases k3 : m.kd = 3
          · rw [if_pos k3]
            refine ⟨h0, ?_, ?_, ?_, ?_, ?_, ?_, ?_, ?_, ?_, cf_keep hkl h10 (by rw [hm0]; simp [isK, k2])⟩
            all_goals simp [ht, List.filter_append, isK, isDC, isRF, isE, hm, k3, h1, h2, h3, h4, h5, h6, h7, h8, h9, lastI_snoc]
          · rw [if_neg k3]
            by_cases k4 : m.kd = 4
            · rw [if_pos k4]
              refine ⟨h0, ?_, ?_, ?_, ?_, ?_, ?_, ?_, ?_, ?_, cf_keep hkl h10 (by rw [hm0]; simp [isK, k2])⟩
              all_goals simp [ht, List.filter_append, isK, isDC, isRF, isE, hm, k4, h1, h2, h3, h4, h5, h6, h7, h8, h9]
            · rw [if_neg k4]
              refine ⟨h0, ?_, ?_, ?_, ?_, ?_, ?_, ?_, ?_, ?_, cf_keep hkl h10 (by rw [hm0]; simp [isK, k2])⟩
              all_goals simp [ht, List.filter_append, isK, isDC, isRF, isE, hm, k1, k2, k3, k4, h1, h2, h3, h4, h5, h6, h7, h8, h9]
    · rw [if_pos hm]
      refine ⟨h0, ?_, ?_, ?_, ?_, ?_, ?_, ?_, ?_, ?_, cf_keep hkl h10 (by rw [hm0]; simp [isK, hm])⟩
      all_goals simp [ht, List.filter_append, isK, isDC, isRF, isE, hm, h1, h2, h3, h4, h5, h6, h7, h8, h9]
theorem two_filter {α : Type} (p : α → Bool) (l : List α) : 2 ≤ (l.filter p).length ↔ ∃ i j, ∃ (hi : i < l.length) (hj : j < l.length), i < j ∧ p l[i] = true ∧ p l[j] = true := by
  induction l with
  | nil => simp
  | cons a l ih =>
    constructor
    · intro h
      by_cases ha : p a = true
      · rw [List.filter_cons_of_pos ha, List.length_cons] at h
        obtain ⟨x, hx⟩ := List.exists_mem_of_length_pos (show 0 < (l.filter p).length by omega)
        obtain ⟨hx1, hx2⟩ := List.mem_filter.1 hx
        obtain ⟨j, hj, rfl⟩ := List.getElem_of_mem hx1
        exact ⟨0, j + 1, by simp, by simpa using hj, by omega, ha, by simpa using hx2⟩
      · rw [List.filter_cons_of_neg ha] at h
        obtain ⟨i, j, hi, hj, hij, h1, h2⟩ := ih.1 h
        exact ⟨i + 1, j + 1, by simpa using hi, by simpa using hj, by omega, by simpa using h1, by simpa using h2⟩
    · rintro ⟨i, j, hi, hj, hij, h1, h2⟩
      obtain ⟨j', rfl⟩ : ∃ j', j = j' + 1 := ⟨j - 1, by omega⟩
      simp only [List.length_cons] at hj
      simp only [List.getElem_cons_succ] at h2
      cases i with
      | zero =>
        simp only [List.getElem_cons_zero] at h1
        rw [List.filter_cons_of_pos h1, List.length_cons]
        have : l[j']'(by omega) ∈ l.filter p := List.mem_filter.2 ⟨List.getElem_mem _, h2⟩
        have := List.length_pos_of_mem this
        omega
      | succ i =>
        simp only [List.getElem_cons_succ] at h1
        simp only [List.length_cons] at hi
        have := ih.2 ⟨i, j', by omega, by omega, by omega, h1, h2⟩
        rw [List.filter_cons]
        split
        · simp; omega
        · exact this
theorem chk_nu {m : Msg} (h : chkM m = 0) : (m.kd = 1 ∨ m.kd = 2 ∨ m.kd = 3 ∨ m.kd = 4 ∨ m.kd = 5) ∧ (m.kd ≠ 2 → m.nu = 0) := by
  unfold chkM at h
  split at h
  · cases h
  · rename_i h1
    refine ⟨by omega, fun h2 => ?_⟩
    repeat' split at h
    all_goals first | (exfalso; omega) | (rename_i q; exact q.1) | cases h | skip
theorem sorted_mid {n : List Msg} (hs : n.Pairwise ltM) {i j : Nat} (hi : i < n.length) (hj : j < n.length) (hij : i < j) {mv b : Int} (h1 : n[i].mv = mv ∧ n[i].kd = 2 ∧ n[i].nu = b) (h2 : n[j].mv = mv ∧ n[j].kd = 2 ∧ n[j].nu = b) :
    (n[j - 1]'(by omega)).mv = mv ∧ (n[j - 1]'(by omega)).kd = 2 ∧ (n[j - 1]'(by omega)).nu = b := by
  by_cases e : i = j - 1
  · subst e; exact h1
  · have q1 : ltM n[i] (n[j - 1]'(by omega)) := (List.pairwise_iff_getElem.1 hs) i (j - 1) hi (by omega) (by omega)
    have q2 : ltM (n[j - 1]'(by omega)) n[j] := (List.pairwise_iff_getElem.1 hs) (j - 1) j (by omega) hj (by omega)
    simp only [ltM, cmpM_neg] at q1 q2
    omega
/-- The reference's conflicts are those of the counts. -/
theorem conf_iff {mv : Int} {n : List Msg} (hs : n.Pairwise ltM) (hv : ∀ m ∈ n, chkM m = 0) :
    ((∃ j, ∃ (h : j + 1 < n.length), isK mv 2 n[j + 1] = true ∧ isK mv 2 (n[j]'(by omega)) = true ∧ (n[j]'(by omega)).nu = n[j + 1].nu) ∨ 1 < (n.filter (isK mv 1)).length ∨ 1 < (n.filter (isRF mv)).length) ↔ confl mv n := by
  have hk1 : n.filter (isC mv (1, 0)) = n.filter (isK mv 1) := List.filter_congr (fun m hm => by
    have := chk_nu (hv m hm)
    rw [Bool.eq_iff_iff]
    simp only [isC, isK, kf, Bool.and_eq_true, decide_eq_true_eq, Prod.mk.injEq]
    constructor
    · rintro ⟨h1, h2, h3, h4⟩
      refine ⟨h1, ?_⟩
      split at h3 <;> omega
    · rintro ⟨h1, h2⟩
      refine ⟨h1, by omega, ?_, this.2 (by omega)⟩
      split <;> omega)
  have hk3 : n.filter (isC mv (3, 0)) = n.filter (isRF mv) := List.filter_congr (fun m hm => by
    have := chk_nu (hv m hm)
    rw [Bool.eq_iff_iff]
    simp only [isC, isRF, kf, Bool.and_eq_true, Bool.or_eq_true, decide_eq_true_eq, Prod.mk.injEq]
    constructor
    · rintro ⟨h1, h2, h3, h4⟩
      refine ⟨h1, ?_⟩
      split at h3 <;> omega
    · rintro ⟨h1, h2⟩
      refine ⟨h1, by omega, ?_, this.2 (by omega)⟩
      split <;> omega)
  constructor
  · rintro (⟨j, hj, h1, h2, h3⟩ | h | h)
    · refine ⟨(2, n[j + 1].nu), (two_filter _ _).2 ⟨j, j + 1, by omega, hj, by omega, ?_, ?_⟩⟩
      · simp only [isK, Bool.and_eq_true, decide_eq_true_eq] at h2
        simp [isC, kf, h2.1, h2.2, h3]
      · simp only [isK, Bool.and_eq_true, decide_eq_true_eq] at h1
        simp [isC, kf, h1.1, h1.2]
    · exact ⟨(1, 0), by rw [hk1]; exact h⟩
    · exact ⟨(3, 0), by rw [hk3]; exact h⟩
  · rintro ⟨⟨a, b⟩, h⟩
    have h' := h
    obtain ⟨i, j, hi, hj, hij, h1, h2⟩ := (two_filter _ _).1 h
    simp only [isC, kf, Bool.and_eq_true, decide_eq_true_eq, Prod.mk.injEq] at h1 h2
    obtain ⟨p1, p2, p3, p4⟩ := h1
    obtain ⟨q1, q2, q3, q4⟩ := h2
    have v1 := chk_nu (hv _ (List.getElem_mem hi))
    have v2 := chk_nu (hv _ (List.getElem_mem hj))
    by_cases ha : a = 2
    · subst ha
      have e1 : n[i].kd = 2 := by split at p3 <;> omega
      have e2 : n[j].kd = 2 := by split at q3 <;> omega
      have hm := sorted_mid hs hi hj hij ⟨p1, e1, p4⟩ ⟨q1, e2, q4⟩
      refine .inl ⟨j - 1, by omega, ?_⟩
      have hjj : j - 1 + 1 = j := by omega
      simp only [hjj]
      exact ⟨by simp [isK, q1, e2], by simp [isK, hm.1, hm.2.1], by rw [hm.2.2, q4]⟩
    · have hb : b = 0 := by
        rw [← p4]; exact v1.2 (by intro e; split at p3 <;> omega)
      subst hb
      by_cases ha1 : a = 1
      · subst ha1
        rw [hk1] at h'
        exact .inr (.inl h')
      · have ha3 : a = 3 := by split at p3 <;> omega
        subst ha3
        rw [hk3] at h'
        exact .inr (.inr h')
theorem rof_eq {mv : Int} {n : List Msg} (hs : n.Pairwise ltM) (hv : ∀ m ∈ n, chkM m = 0) (hmv : mv ≠ 0) : rofR mv (zeroMsg :: n) = ofR mv n := by
  have hr := rofF_char mv (zeroMsg :: n) _ (Nat.le_refl _)
  have hc := ofR_char mv n
  have hcf := conf_iff (mv := mv) hs hv
  unfold rofR
  generalize rofF mv (zeroMsg :: n) (zeroMsg :: n).length = s at hr
  generalize ofR mv n = d at hc
  have hz : zeroMsg.mv ≠ mv := by show (0 : Int) ≠ mv; omega
  have z1 : isK mv 1 zeroMsg = false := by simp [isK, hz]
  have z2 : isK mv 2 zeroMsg = false := by simp [isK, hz]
  have z3 : isK mv 3 zeroMsg = false := by simp [isK, hz]
  have z4 : isK mv 4 zeroMsg = false := by simp [isK, hz]
  have z5 : isDC mv zeroMsg = false := by simp [isDC, hz]
  have z6 : isRF mv zeroMsg = false := by simp [isRF, hz]
  have z7 : isE mv zeroMsg = false := by simp [isE, hz]
  obtain ⟨h0, h1, h2, h3, h4, h5, h6, h7, h8, h9, h10⟩ := hr
  rw [List.take_length] at h1 h2 h3 h4 h5 h6 h7 h8 h9
  rw [List.filter_cons_of_neg (by rw [z1]; simp)] at h1 h3 h6
  rw [List.filter_cons_of_neg (by rw [z5]; simp)] at h2
  rw [List.filter_cons_of_neg (by rw [z3]; simp)] at h4
  rw [List.filter_cons_of_neg (by rw [z2]; simp)] at h5
  rw [List.filter_cons_of_neg (by rw [z6]; simp)] at h7
  rw [List.filter_cons_of_neg (by rw [z7]; simp)] at h8
  rw [List.any_cons, z4, Bool.false_or] at h9
  have hcf2 : s.cf = true ↔ ∃ j, ∃ (h : j + 1 < n.length), isK mv 2 n[j + 1] = true ∧ isK mv 2 (n[j]'(by omega)) = true ∧ (n[j]'(by omega)).nu = n[j + 1].nu := by
    rw [h10]
    constructor
    · rintro ⟨j, q1, q2, q3, q4, q5⟩
      match j, q1, q3, q4, q5 with
      | 0, q1, q3, q4, q5 => simp [z2] at q3
      | 1, q1, q3, q4, q5 => simp [z2] at q4
      | j + 2, q1, q3, q4, q5 => exact ⟨j, (by have := q1; simp at this; omega), by simpa using q3, by simpa using q4, by simpa using q5⟩
    · rintro ⟨j, q1, q2, q3, q4⟩
      exact ⟨j + 2, by simp; omega, by simp; omega, by simpa using q2, by simpa using q3, by simpa using q4⟩
  have hE : n.filter (isE mv) = n.filter (isK mv 5) := List.filter_congr (fun m hm => by
    have := (chk_nu (hv m hm)).1
    rw [Bool.eq_iff_iff]
    simp only [isE, isK, Bool.and_eq_true, decide_eq_true_eq]
    omega)
  rw [hE] at h8
  have hcfl : (s.cf = true ∨ 1 < s.di ∨ 1 < s.an) ↔ confl mv n := by
    rw [← hcf, hcf2, h6, h7]
    constructor
    · rintro (h | h | h)
      · exact .inl h
      · exact .inr (.inl (by omega))
      · exact .inr (.inr (by omega))
    · rintro (h | h | h)
      · exact .inl h
      · exact .inr (.inl (by omega))
      · exact .inr (.inr (by omega))
  by_cases hd : n.filter (isK mv 1) = []
  · rw [hc.none hd, rofEnd_none (by rw [h6, hd]; rfl)]
  · have hd0 : s.di ≠ 0 := by
      rw [h6]
      intro e
      exact hd (List.eq_nil_of_length_eq_zero (by omega))
    by_cases hcn : confl mv n
    · rw [hc.conf hd hcn, rofEnd_conf hd0 (hcfl.2 hcn)]
    · have hno := fun h => hcn (hcfl.1 h)
      rw [hc.else_ hd hcn]
      have n1 : s.cf = false := by
        cases h : s.cf with
        | false => rfl
        | true => exact absurd (.inl h) hno
      have n2 : ¬ 1 < s.di := fun h => hno (.inr (.inl h))
      have n3 : ¬ 1 < s.an := fun h => hno (.inr (.inr h))
      by_cases hrf : n.filter (isRF mv) = []
      · have ha : s.an ≠ 1 := by rw [h7, hrf]; simp
        rw [rofEnd_sent hd0 n1 n2 n3 ha, if_pos hrf]
        dsimp only
        rw [h0, h1, h2, h3, h4, h5]
      · have hlen : (n.filter (isRF mv)).length = 1 := by
          have : 0 < (n.filter (isRF mv)).length := List.length_pos_iff.2 hrf
          omega
        obtain ⟨x, hx⟩ := List.length_eq_one_iff.1 hlen
        rw [rofEnd_ans hd0 n1 n2 (by rw [h7, hlen]; rfl), if_neg hrf]
        dsimp only
        rw [h0, h1, h2, h3, h4, h5]
        have he : (0 < s.en) ↔ n.filter (isK mv 5) ≠ [] := by
          rw [h8]
          constructor
          · intro h e; rw [e] at h; simp at h
          · intro h; have := List.length_pos_iff.2 h; omega
        have hl : (if s.rf = true then (3 : Int) else 2) = lastI ansF (n.filter (isRF mv)) := by
          rw [hx]
          have hxm : x ∈ n.filter (isRF mv) := by rw [hx]; simp
          obtain ⟨hxn, hxr⟩ := List.mem_filter.1 hxm
          simp only [isRF, Bool.and_eq_true, Bool.or_eq_true, decide_eq_true_eq] at hxr
          show _ = ansF x
          unfold ansF
          by_cases h3 : x.kd = 3
          · rw [if_pos h3, if_neg]
            rw [h9]
            intro ha
            obtain ⟨y, hy, hy2⟩ := List.any_eq_true.1 ha
            simp only [isK, Bool.and_eq_true, decide_eq_true_eq] at hy2
            have : y ∈ n.filter (isRF mv) := List.mem_filter.2 ⟨hy, by simp [isRF, hy2.1, hy2.2]⟩
            rw [hx] at this
            have := List.mem_singleton.1 this
            subst this
            omega
          · rw [if_neg h3, if_pos]
            rw [h9]
            exact List.any_eq_true.2 ⟨x, hxn, by simp [isK, hxr.1]; omega⟩
        rw [hl]
        by_cases h5 : n.filter (isK mv 5) = []
        · rw [if_neg (fun h => (he.1 h) h5), if_neg (fun h => h h5)]
        · rw [if_pos (he.2 h5), if_pos h5]
end Go.Proofs.Ytgcnklnhambpjaa
