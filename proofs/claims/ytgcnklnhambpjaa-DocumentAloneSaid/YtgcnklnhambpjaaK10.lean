/- Joined texts of the seat: contracts and plain laws that the rows import. -/
import Derived.Test.YtgcnklnhambpjaaK8
import Derived.Test.YtgcnklnhambpjaaK4
import Derived.Test.YtgcnklnhambpjaaK7
import Derived.Test.YtgcnklnhambpjaaK9
import Derived.Deep.LoopGhost
set_option linter.unusedVariables false
set_option linter.unusedSimpArgs false
/- The movements of messages in strict order; sums over them: plain lists. -/
namespace Go.Proofs.Ytgcnklnhambpjaa
open Go.RowKit
theorem ltM_mv {a b : Msg} (h : ltM a b) : a.mv ≤ b.mv := by simp only [ltM, cmpM_neg] at h; omega
/-- The movements are in ascending order, each once; they are those of the messages. -/
structure MovI (n : List Msg) (k : Nat) (ms : List Int) : Prop where
  asc : ms.Pairwise (· < ·)
  mem : ∀ x, x ∈ ms ↔ ∃ m ∈ n.take k, m.mv = x
theorem movs_ok {n : List Msg} (hn : n.Pairwise ltM) : ∀ k, k ≤ n.length → MovI n k (movs n k)
  | 0, _ => ⟨by simp [movs], by simp [movs]⟩
  | k + 1, hk => by
    have ih := movs_ok hn k (by omega)
    have hg := List.pairwise_iff_getElem.1 hn
    unfold movs
    rw [dif_pos (by omega)]
    by_cases h0 : k = 0 ∨ n[k].mv ≠ (n[k - 1]'(by omega)).mv
    · rw [if_pos h0]
      refine ⟨List.pairwise_append.2 ⟨ih.asc, by simp, fun x hx y hy => ?_⟩, fun x => ?_⟩
      · simp only [List.mem_singleton] at hy
        subst hy
        obtain ⟨m, hm, rfl⟩ := (ih.mem x).1 hx
        obtain ⟨i, hi, rfl⟩ := List.getElem_of_mem hm
        have hik : i < k := by have := hi; simp at this; omega
        rw [List.getElem_take]
        have h1 := ltM_mv (hg (k - 1) k (by omega) (by omega) (by omega))
        have h2 : n[i].mv ≤ (n[k - 1]'(by omega)).mv := by
          by_cases e : i = k - 1
          · subst e; exact Int.le_refl _
          · exact ltM_mv (hg i (k - 1) (by omega) (by omega) (by omega))
        rcases h0 with h0 | h0
        · omega
        · omega
      · rw [List.take_succ_eq_append_getElem (by omega), List.mem_append, List.mem_singleton, ih.mem x]
        constructor
        · rintro (⟨m, hm, rfl⟩ | rfl)
          · exact ⟨m, List.mem_append_left _ hm, rfl⟩
          · exact ⟨_, List.mem_append_right _ (List.mem_singleton.2 rfl), rfl⟩
        · rintro ⟨m, hm, rfl⟩
          rcases List.mem_append.1 hm with hm | hm
          · exact .inl ⟨m, hm, rfl⟩
          · rw [List.mem_singleton.1 hm]; exact .inr rfl
    · rw [if_neg h0]
      have hk0 : k ≠ 0 := fun e => h0 (.inl e)
      have he : n[k].mv = (n[k - 1]'(by omega)).mv := Classical.byContradiction fun e => h0 (.inr e)
      refine ⟨ih.asc, fun x => ?_⟩
      rw [List.take_succ_eq_append_getElem (by omega), ih.mem x]
      constructor
      · rintro ⟨m, hm, rfl⟩
        exact ⟨m, List.mem_append_left _ hm, rfl⟩
      · rintro ⟨m, hm, rfl⟩
        rcases List.mem_append.1 hm with hm | hm
        · exact ⟨m, hm, rfl⟩
        · rw [List.mem_singleton.1 hm, he]
          exact ⟨n[k - 1]'(by omega), by rw [List.mem_take_iff_getElem]; exact ⟨k - 1, by omega, rfl⟩, rfl⟩
def sumF {α : Type} (f : α → Int) : List α → Int
  | [] => 0
  | a :: r => f a + sumF f r
theorem sumF_append {α : Type} (f : α → Int) (a b : List α) : sumF f (a ++ b) = sumF f a + sumF f b := by
  induction a with
  | nil => simp [sumF]
  | cons x r ih => simp only [List.cons_append, sumF, ih]; omega
theorem sumF_nonneg {α : Type} {f : α → Int} {l : List α} (h : ∀ x ∈ l, 0 ≤ f x) : 0 ≤ sumF f l := by
  induction l with
  | nil => exact Int.le_refl _
  | cons x r ih =>
    have h1 := h x (by simp)
    have h2 := ih (fun y hy => h y (List.mem_cons_of_mem _ hy))
    simp only [sumF]; omega
theorem sumF_le_len {α : Type} {f : α → Int} {l : List α} {b : Int} (h : ∀ x ∈ l, f x ≤ b) : sumF f l ≤ l.length * b := by
  induction l with
  | nil => simp [sumF]
  | cons x r ih =>
    have h1 := h x (by simp)
    have h2 := ih (fun y hy => h y (List.mem_cons_of_mem _ hy))
    simp only [sumF, List.length_cons]
    rw [show (((r.length + 1 : Nat) : Int)) * b = r.length * b + b by rw [Int.natCast_add, Int.add_mul]; simp]
    omega
theorem sumF_mono {α : Type} {f g : α → Int} {l : List α} (h : ∀ x ∈ l, f x ≤ g x) : sumF f l ≤ sumF g l := by
  induction l with
  | nil => exact Int.le_refl _
  | cons x r ih =>
    have h1 := h x (by simp)
    have h2 := ih (fun y hy => h y (List.mem_cons_of_mem _ hy))
    simp only [sumF]; omega
/-- Different members of a list weigh at most what the list weighs. -/
theorem sumF_sub {f : Msg → Int} : ∀ {n l : List Msg}, n.Nodup → (∀ x ∈ n, x ∈ l) → (∀ x ∈ l, 0 ≤ f x) → sumF f n ≤ sumF f l := by
  intro n
  induction n with
  | nil => intro l _ _ h; exact sumF_nonneg h
  | cons a r ih =>
    intro l hn hm h0
    obtain ⟨s, t, rfl⟩ := List.append_of_mem (hm a (by simp))
    have hn2 := List.nodup_cons.1 hn
    have h1 := ih (l := s ++ t) hn2.2 (fun x hx => by
      have := hm x (List.mem_cons_of_mem _ hx)
      simp only [List.mem_append, List.mem_cons] at this ⊢
      rcases this with h | rfl | h
      · exact .inl h
      · exact absurd hx hn2.1
      · exact .inr h) (fun x hx => h0 x (by
      simp only [List.mem_append, List.mem_cons] at hx ⊢
      rcases hx with h | h
      · exact .inl h
      · exact .inr (.inr h)))
    rw [sumF_append] at h1 ⊢
    simp only [sumF]; omega
/-- The alcohol of a dispatch. -/
def dispF (m : Msg) : Int := if m.kd = 1 then m.al else 0
def dispMv (mv : Int) (m : Msg) : Int := if isK mv 1 m = true then m.al else 0
theorem sumF_lastI {n : List Msg} {mv : Int} (h : ∀ m ∈ n, 0 ≤ m.al) : lastI Msg.al (n.filter (isK mv 1)) ≤ sumF (dispMv mv) n := by
  induction n with
  | nil => simp [lastI, sumF]
  | cons a r ih =>
    have h1 := ih (fun m hm => h m (List.mem_cons_of_mem _ hm))
    have h0 := h a (by simp)
    have hr : 0 ≤ sumF (dispMv mv) r := sumF_nonneg (fun m hm => by unfold dispMv; split; exact h m (List.mem_cons_of_mem _ hm); exact Int.le_refl _)
    simp only [sumF, List.filter_cons]
    by_cases ha : isK mv 1 a = true
    · rw [if_pos ha, dispMv, if_pos ha]
      cases hf : r.filter (isK mv 1) with
      | nil => simp only [lastI, List.getLast?_singleton]; omega
      | cons y s =>
        have : lastI Msg.al (a :: y :: s) = lastI Msg.al (y :: s) := by simp [lastI]
        rw [this, ← hf]; omega
    · rw [if_neg ha, dispMv, if_neg ha]; omega
/-- Summed over movements, each once: at most everything that was sent. -/
theorem sum_mvs (n : List Msg) (hal : ∀ m ∈ n, 0 ≤ m.al) : ∀ ms : List Int, ms.Pairwise (· < ·) → sumF (fun mv => sumF (dispMv mv) n) ms ≤ sumF dispF n := by
  induction n with
  | nil =>
    intro ms _
    have : sumF (fun mv => sumF (dispMv mv) []) ms = 0 := by
      induction ms with
      | nil => rfl
      | cons x r ih => rename_i h; have := ih (List.pairwise_cons.1 h).2; simp only [sumF] at this ⊢; omega
    rw [this]; simp [sumF]
  | cons a r ih =>
    intro ms hms
    have h1 := ih (fun m hm => hal m (List.mem_cons_of_mem _ hm)) ms hms
    have ha := hal a (by simp)
    have hsplit : ∀ ms : List Int, sumF (fun mv => sumF (dispMv mv) (a :: r)) ms = sumF (fun mv => dispMv mv a) ms + sumF (fun mv => sumF (dispMv mv) r) ms := by
      intro ms
      induction ms with
      | nil => simp [sumF]
      | cons x s ih => simp only [sumF] at ih ⊢; omega
    rw [hsplit]
    have hone : sumF (fun mv => dispMv mv a) ms ≤ dispF a := by
      have hz : ∀ ms : List Int, (∀ x ∈ ms, x ≠ a.mv) → sumF (fun mv => dispMv mv a) ms = 0 := by
        intro ms h
        induction ms with
        | nil => rfl
        | cons x s ih =>
          have hx := h x (by simp)
          have := ih (fun y hy => h y (List.mem_cons_of_mem _ hy))
          simp only [sumF, this]
          simp [dispMv, isK, Ne.symm hx]
      have hle : ∀ x, dispMv x a ≤ dispF a := fun x => by
        unfold dispMv dispF isK
        by_cases h1 : a.mv = x <;> by_cases h2 : a.kd = 1 <;> simp [h1, h2, ha]
      have h0 : 0 ≤ dispF a := by unfold dispF; split <;> omega
      clear hsplit h1 ih
      induction ms with
      | nil => exact h0
      | cons x s ih =>
        have hp := List.pairwise_cons.1 hms
        simp only [sumF]
        by_cases e : x = a.mv
        · rw [hz s (fun y hy => by have := hp.1 y hy; omega)]
          have := hle x; omega
        · have := ih hp.2
          have hx : dispMv x a = 0 := by simp [dispMv, isK, Ne.symm e]
          rw [hx]; omega
    simp only [sumF]; omega
theorem openS_eq (tgt : Int) (l : List Doc) : ∀ s, l.foldl (openStep tgt) s = s + sumF (fun d => if d.st = 1 ∧ d.tt = tgt then d.se else 0) l := by
  induction l with
  | nil => intro s; simp [sumF]
  | cons d r ih =>
    intro s
    rw [List.foldl_cons, ih]
    simp only [sumF, openStep]
    split <;> omega
/-- What is open is from nothing to everything that was sent. -/
theorem open_le (l : List Msg) (tgt : Int) : ((openP l tgt).2 ≠ 0 ∧ (openP l tgt).1 = 0) ∨ ((openP l tgt).2 = 0 ∧ 0 ≤ (openP l tgt).1 ∧ (openP l tgt).1 ≤ sumF dispF l ∧ (∀ m ∈ l, chkM m = 0) ∧ l.length ≤ 64) := by
  unfold openP allP
  rcases normR_cases l with ⟨h1, h2, h3, h4⟩ | ⟨h1, h2⟩
  · rw [h1, h2, if_neg (by simp)]
    rw [if_neg (show ¬ (0 : Int) ≠ 0 by simp)]
    by_cases hn : nodeB tgt = false
    · rw [if_pos hn]; exact .inl ⟨by simp, rfl⟩
    · rw [if_neg hn]
      refine .inr ⟨rfl, ?_⟩
      dsimp only
      have hv := normL_ok h4
      have hst := normL_strict l
      have hm := movs_ok hst (normL l).length (Nat.le_refl _)
      have hal : ∀ m, chkM m = 0 → 0 ≤ m.al := fun m h => by
        unfold chkM at h
        repeat' split at h
        all_goals omega
      have hse : ∀ mv, 0 ≤ (ofR mv (normL l)).se ∧ (ofR mv (normL l)).se ≤ sumF (dispMv mv) (normL l) := fun mv => by
        have hc := ofR_char mv (normL l)
        generalize ofR mv (normL l) = d at hc
        have h0 : 0 ≤ sumF (dispMv mv) (normL l) := sumF_nonneg (fun m hm => by unfold dispMv; split; exact hal m (hv m hm); exact Int.le_refl _)
        by_cases c1 : (normL l).filter (isK mv 1) = []
        · rw [hc.none c1]; exact ⟨Int.le_refl _, h0⟩
        · by_cases c2 : confl mv (normL l)
          · rw [hc.conf c1 c2]; exact ⟨Int.le_refl _, h0⟩
          · rw [hc.else_ c1 c2]
            refine ⟨?_, sumF_lastI (fun m hm => hal m (hv m hm))⟩
            show 0 ≤ lastI Msg.al _
            unfold lastI
            cases hl : ((normL l).filter (isK mv 1)).getLast? with
            | none => exact Int.le_refl _
            | some m => exact hal m (hv m (List.mem_filter.1 (List.mem_of_getLast? hl)).1)
      have e : openS tgt (docsL (normL l)) = sumF (fun d => if d.st = 1 ∧ d.tt = tgt then d.se else 0) (docsL (normL l)) := by
        unfold openS; rw [openS_eq]; omega
      have hmap : ∀ ms : List Int, 0 ≤ sumF (fun d : Doc => if d.st = 1 ∧ d.tt = tgt then d.se else 0) (ms.map (fun x => ofR x (normL l))) ∧ sumF (fun d : Doc => if d.st = 1 ∧ d.tt = tgt then d.se else 0) (ms.map (fun x => ofR x (normL l))) ≤ sumF (fun mv => sumF (dispMv mv) (normL l)) ms := by
        intro ms
        induction ms with
        | nil => exact ⟨Int.le_refl _, Int.le_refl _⟩
        | cons x s ih =>
          have := hse x
          simp only [List.map_cons, sumF]
          split <;> omega
      rw [e]
      have h5 := hmap (movs (normL l) (normL l).length)
      have h6 := sum_mvs (normL l) (fun m hm => hal m (hv m hm)) _ hm.asc
      have h7 := sumF_sub (f := dispF) (ltM_nodup hst) (fun x hx => (normL_mem l x).1 hx) (fun x hx => by unfold dispF; split; exact hal x (h4 x hx); exact Int.le_refl _)
      exact ⟨h5.1, by unfold docsL; omega, h4, h3⟩
  · rw [if_pos h1, if_pos h1]
    exact .inl ⟨h1, rfl⟩
theorem lastI_bds {f : Msg → Int} {l : List Msg} {a b : Int} (h0 : a ≤ 0) (h1 : 0 ≤ b) (h : ∀ m ∈ l, a ≤ f m ∧ f m ≤ b) : a ≤ lastI f l ∧ lastI f l ≤ b := by
  unfold lastI
  cases hl : l.getLast? with
  | none => exact ⟨h0, h1⟩
  | some m => exact h m (List.mem_of_getLast? hl)
theorem chk_alc {m : Msg} (h : chkM m = 0) : 0 ≤ m.al ∧ m.al ≤ 10737418240000 := by
  unfold chkM at h
  repeat' split at h
  all_goals omega
theorem seokP (l : List Msg) : SeOK (allP l).1 := by
  unfold allP
  rcases normR_cases l with ⟨h1, h2, h3, h4⟩ | ⟨h1, h2⟩
  · rw [h1, h2, if_neg (by simp)]
    dsimp only
    have hl : (normL l).length ≤ 64 := by
      unfold normL
      have := comp_le (l.mergeSort leM)
      rw [List.length_mergeSort] at this
      omega
    have hv := normL_ok h4
    generalize normL l = n at hl hv
    refine ⟨?_, fun d hd => ?_⟩
    · unfold docsL
      rw [List.length_map]
      have := movs_le n n.length
      omega
    · obtain ⟨mv, _, rfl⟩ := List.mem_map.1 hd
      have hc := ofR_char mv n
      generalize ofR mv n = d at hc
      by_cases c1 : n.filter (isK mv 1) = []
      · rw [hc.none c1]; exact ⟨Int.le_refl _, by show (0 : Int) ≤ _; decide⟩
      · by_cases c2 : confl mv n
        · rw [hc.conf c1 c2]; exact ⟨Int.le_refl _, by show (0 : Int) ≤ _; decide⟩
        · rw [hc.else_ c1 c2]
          exact lastI_bds (by decide) (by decide) (fun m hm => chk_alc (hv m (List.mem_filter.1 hm).1))
  · rw [if_pos h1]
    exact ⟨by simp, fun d hd => by simp at hd⟩
end Go.Proofs.Ytgcnklnhambpjaa
/- DocumentChains returns true. -/
namespace Go.Proofs.Ytgcnklnhambpjaa
open Go.RowKit
attribute [local go_sem high] eqDoc
/-- What the walk of DocumentChains asks. -/
theorem chnP (l al : List Msg) (hs : ∀ x ∈ l, x ∈ al) (hl : l.length ≤ al.length) (mv tgt : Int) : ((ofP al mv).2 ≠ 0 ∧ (ofP al mv).1 = zeroDoc) ∨ ((ofP al mv).2 = 0 ∧ (ofP l mv).2 = 0 ∧ laterB (ofP l mv).1 (ofP al mv).1 = true ∧ (∀ m ∈ al, chkM m = 0)) := by
  rcases ofP_cases al mv with ⟨g1, g2, g3, g4, g5, g6⟩ | ⟨g1, g2⟩
  · refine .inr ⟨g1, ?_⟩
    rcases ofP_cases l mv with ⟨h1, h2, h3, h4, h5, h6⟩ | ⟨h1, h2⟩
    · refine ⟨h1, ?_, g4⟩
      rw [h2, g2]
      exact later_more mv (normL_sub hs) (normL_ok g4)
    · exfalso
      unfold ofP at h1
      rcases normR_cases l with ⟨n1, n2, n3, n4⟩ | ⟨n1, n2⟩
      · rw [n1, if_neg (by simp), if_neg (by omega)] at h1
        exact h1 rfl
      · unfold normR at n1
        rw [if_neg (by omega), if_neg] at n1
        · exact n1 rfl
        · intro ha
          obtain ⟨x, hx, hb⟩ := List.any_eq_true.1 ha
          simp [badM, g4 x (hs x hx)] at hb
  · exact .inl ⟨g1, g2⟩
theorem dispF_bd {m : Msg} (h : chkM m = 0) : 0 ≤ dispF m ∧ dispF m ≤ 10737418240000 := by
  unfold dispF
  have := chk_alc h
  split <;> omega
set_option maxHeartbeats 8000000 in
set_option maxRecDepth 100000 in
theorem lchains_any (l : List Msg) (A : Option Addr) (c : Nat) (m : List Msg) (B : Option Addr) (d : Nat) (n : List Msg) (C : Option Addr) (ec : Nat) (mv tgt : Int) (w : World) (hR1 : Rd EMsg w A l) (hR2 : Rd EMsg w B m) (hR3 : Rd EMsg w C n) : Calls Try.prog 8 #[.slice A l.length c, .slice B m.length d, .slice C n.length ec, .int .i64 mv, .int .i64 tgt] w (LatPost true w) := by
  unfold LatPost
  have hle1 := hR1.le
  have hle2 := hR2.le
  have hle3 := hR3.le
  by_cases hs : l.length ≤ 10 ∧ m.length ≤ 10 ∧ n.length ≤ 10
  · obtain ⟨hs1, hs2, hs3⟩ := hs
    have hl16 : l.length * 56 ≤ 140737488355328 := by omega
    have hlm : (l.length + m.length + n.length) * 56 ≤ 140737488355328 := by omega
    obtain ⟨al, hal⟩ : ∃ al, al = l ++ m ++ n := ⟨_, rfl⟩
    have hall : al.length ≤ 30 := by rw [hal]; simp; omega
    have hal56 : al.length * 56 ≤ 140737488355328 := by omega
    have hq := chnP l al (fun x hx => by rw [hal]; simp [hx]) (by rw [hal]; simp only [List.length_append]; omega) mv tgt
    have hqo := open_le al tgt
    have HAL := hid_of hal
    clear hal
    have h1 := fun A c W (h : Rd EMsg W A l) => ofT_any l mv A c W h
    have h2 := fun A c W (h : Rd EMsg W A al) => ofT_any al mv A c W h
    have h3 := fun A c W (h : Rd EMsg W A al) => openT_any al tgt A c W h (seokP al)
    unfold OfTPost at h1 h2
    generalize ofP l mv = q1 at h1 hq
    generalize ofP al mv = q2 at h2 hq
    generalize openP al tgt = q3 at h3 hqo
    obtain ⟨⟨a0, a1, a2, a3, a4, a5, a6⟩, e1⟩ := q1
    obtain ⟨⟨b0, b1, b2, b3, b4, b5, b6⟩, e2⟩ := q2
    obtain ⟨op, e3⟩ := q3
    dsimp only [Doc.v] at h1 h2 hq h3 hqo
    have RL := hid_of hR1
    have RM := hid_of hR2
    have RN := hid_of hR3
    clear hR1 hR2 hR3 hle1 hle2 hle3
    have hs1' : ¬ ((l.length : Int) > 10) := by omega
    have hs2' : ¬ ((m.length : Int) > 10) := by omega
    have hs3' : ¬ ((n.length : Int) > 10) := by omega
    have HQ := hid_of hq
    have HQO := hid_of hqo
    have HS1 := hid_of hall
    clear hq hqo hs1 hs2 hs3 hall
    go_enter Try.func8, Try.ntmps8
    go_wp2_with fail
    refine (awake_any _).mono ?_
    rintro e w1 ⟨rfl, hb⟩
    replace RL := hid_of (RL.out.below hb)
    replace RM := hid_of (RM.out.below hb)
    replace RN := hid_of (RN.out.below hb)
    have HB := hid_of hb
    clear hb
    have HS : Hid ((w1.alloc (.cells #[.slice A l.length c, .slice B m.length d, .slice C n.length ec] 24)).heap[w1.heap.size]? = some (.cells #[.slice A l.length c, .slice B m.length d, .slice C n.length ec] 24 (0, 0))) := blkN w1 _
    replace RL := hid_of (RL.out.alloc (.cells #[.slice A l.length c, .slice B m.length d, .slice C n.length ec] 24))
    replace RM := hid_of (RM.out.alloc (.cells #[.slice A l.length c, .slice B m.length d, .slice C n.length ec] 24))
    replace RN := hid_of (RN.out.alloc (.cells #[.slice A l.length c, .slice B m.length d, .slice C n.length ec] 24))
    replace HB := hid_of (HB.out.alloc HB.out.size (.cells #[.slice A l.length c, .slice B m.length d, .slice C n.length ec] 24))
    go_wp2_with fail
    refine (concat3M l m n al HAL.out A B C c d ec _ _ HS.out RL.out RM.out RN.out hlm).mono ?_
    rintro e w2 ⟨v, rfl, hO, hb⟩
    obtain ⟨Ax, cx, rfl, _, hR⟩ := hO.rd
    replace RL := hid_of (RL.out.below hb)
    replace RM := hid_of (RM.out.below hb)
    replace RN := hid_of (RN.out.below hb)
    replace HB := hid_of (below_then HB.out HB.out.size hb)
    have Rx := hid_of hR
    clear hO hR hb
    clear HS RM RN
    go_wp2_with fail
    refine (cloneM l A c _ RL.out hl16).mono ?_
    rintro e w3 ⟨v, rfl, hO, hb⟩
    obtain ⟨Aa, ca, rfl, _, hR⟩ := hO.rd
    replace RL := hid_of (RL.out.below hb)
    replace Rx := hid_of (Rx.out.below hb)
    replace HB := hid_of (below_then HB.out HB.out.size hb)
    have Ra := hid_of hR
    clear hO hR hb
    clear RL
    have hc := h1 Aa ca w3 Ra.out
    clear Ra h1
    go_wp2_with fail
    refine (hc).mono ?_
    rintro e w4 ⟨rfl, hb⟩
    replace Rx := hid_of (Rx.out.below hb)
    replace HB := hid_of (below_then HB.out HB.out.size hb)
    clear hb hc
    have HA : Hid ((w4.alloc (.cells #[.int .i64 a0, .int .i64 a1, .int .i64 a2, .int .i64 a3, .int .i64 a4, .int .i64 a5, .int .i64 a6] 35)).heap[w4.heap.size]? = some (.cells #[.int .i64 a0, .int .i64 a1, .int .i64 a2, .int .i64 a3, .int .i64 a4, .int .i64 a5, .int .i64 a6] 35 (0, 0))) := blkN w4 _
    replace Rx := hid_of (Rx.out.alloc (.cells #[.int .i64 a0, .int .i64 a1, .int .i64 a2, .int .i64 a3, .int .i64 a4, .int .i64 a5, .int .i64 a6] 35))
    replace HB := hid_of (HB.out.alloc HB.out.size (.cells #[.int .i64 a0, .int .i64 a1, .int .i64 a2, .int .i64 a3, .int .i64 a4, .int .i64 a5, .int .i64 a6] 35))
    go_wp2_with fail
    refine (cloneM al Ax cx _ Rx.out hal56).mono ?_
    rintro e w5 ⟨v, rfl, hO, hb⟩
    obtain ⟨Ab, cb, rfl, _, hR⟩ := hO.rd
    replace Rx := hid_of (Rx.out.below hb)
    replace HA := hid_of ((hb.block _ (Array.getElem?_eq_some_iff.1 HA.out).1).trans HA.out)
    replace HB := hid_of (below_then HB.out HB.out.size hb)
    have Rb := hid_of hR
    clear hO hR hb
    have hc := h2 Ab cb w5 Rb.out
    clear Rb h2
    go_wp2_with fail
    refine (hc).mono ?_
    rintro e w6 ⟨rfl, hb⟩
    replace Rx := hid_of (Rx.out.below hb)
    replace HA := hid_of ((hb.block _ (Array.getElem?_eq_some_iff.1 HA.out).1).trans HA.out)
    replace HB := hid_of (below_then HB.out HB.out.size hb)
    clear hb hc
    have HB2 : Hid ((w6.alloc (.cells #[.int .i64 b0, .int .i64 b1, .int .i64 b2, .int .i64 b3, .int .i64 b4, .int .i64 b5, .int .i64 b6] 35)).heap[w6.heap.size]? = some (.cells #[.int .i64 b0, .int .i64 b1, .int .i64 b2, .int .i64 b3, .int .i64 b4, .int .i64 b5, .int .i64 b6] 35 (0, 0))) := blkN w6 _
    replace Rx := hid_of (Rx.out.alloc (.cells #[.int .i64 b0, .int .i64 b1, .int .i64 b2, .int .i64 b3, .int .i64 b4, .int .i64 b5, .int .i64 b6] 35))
    replace HA := hid_of (blkA (o' := .cells #[.int .i64 b0, .int .i64 b1, .int .i64 b2, .int .i64 b3, .int .i64 b4, .int .i64 b5, .int .i64 b6] 35) HA.out)
    replace HB := hid_of (HB.out.alloc HB.out.size (.cells #[.int .i64 b0, .int .i64 b1, .int .i64 b2, .int .i64 b3, .int .i64 b4, .int .i64 b5, .int .i64 b6] 35))
    go_wp2_with fail
    refine (cloneM al Ax cx _ Rx.out hal56).mono ?_
    rintro e w7 ⟨v, rfl, hO, hb⟩
    obtain ⟨Ad, cd, rfl, _, hR⟩ := hO.rd
    replace Rx := hid_of (Rx.out.below hb)
    replace HA := hid_of ((hb.block _ (Array.getElem?_eq_some_iff.1 HA.out).1).trans HA.out)
    replace HB2 := hid_of ((hb.block _ (Array.getElem?_eq_some_iff.1 HB2.out).1).trans HB2.out)
    replace HB := hid_of (below_then HB.out HB.out.size hb)
    have Rd := hid_of hR
    clear hO hR hb
    have hc := h3 Ad cd w7 Rd.out
    clear Rd h3
    go_wp2_with fail
    refine (hc).mono ?_
    rintro e w8 ⟨rfl, hb⟩
    replace Rx := hid_of (Rx.out.below hb)
    replace HA := hid_of ((hb.block _ (Array.getElem?_eq_some_iff.1 HA.out).1).trans HA.out)
    replace HB2 := hid_of ((hb.block _ (Array.getElem?_eq_some_iff.1 HB2.out).1).trans HB2.out)
    replace HB := hid_of (below_then HB.out HB.out.size hb)
    clear hb hc
    rcases HQ.out with ⟨he2, hz⟩ | ⟨rfl, rfl, hl, hv⟩
    · clear HQ HQO HA
      simp only [zeroDoc, Doc.mk.injEq] at hz
      obtain ⟨rfl, rfl, rfl, rfl, rfl, rfl, rfl⟩ := hz
      have he2' : (e2 == 0) = false := by simpa using he2
      have q0 := (blk_cell HB2.out 0).trans (show _ = some (.int .i64 0) from rfl)
      have q1 := (blk_cell HB2.out 1).trans (show _ = some (.int .i64 0) from rfl)
      have q2 := (blk_cell HB2.out 2).trans (show _ = some (.int .i64 0) from rfl)
      have q3 := (blk_cell HB2.out 3).trans (show _ = some (.int .i64 0) from rfl)
      have q4 := (blk_cell HB2.out 4).trans (show _ = some (.int .i64 0) from rfl)
      have q5 := (blk_cell HB2.out 5).trans (show _ = some (.int .i64 0) from rfl)
      have q6 := (blk_cell HB2.out 6).trans (show _ = some (.int .i64 0) from rfl)
      go_wp2_with fail
      go_ret
      exact ⟨rfl, HB.out⟩
    · have HV := hid_of hv
      have HL := hid_of hl
      have hlat := fun W => later_any ⟨a0, a1, a2, a3, a4, a5, a6⟩ ⟨b0, b1, b2, b3, b4, b5, b6⟩ W
      unfold LatPost at hlat
      rw [hl] at hlat
      dsimp only [Doc.v] at hlat
      have HLAT := hid_of hlat
      clear hl hv HQ hlat
      have hbd : ∀ k, k ≤ al.length → 0 ≤ sumF dispF (al.take k) ∧ sumF dispF (al.take k) ≤ 322122547200000 := fun k hk => by
        refine ⟨sumF_nonneg (fun x hx => (dispF_bd (HV.out x (List.mem_of_mem_take hx))).1), ?_⟩
        have h := sumF_le_len (f := dispF) (l := al.take k) (b := 10737418240000) (fun x hx => (dispF_bd (HV.out x (List.mem_of_mem_take hx))).2)
        have h2 : (((al.take k).length : Nat) : Int) ≤ 30 := by have := HS1.out; rw [List.length_take]; omega
        omega
      have HBD := hid_of hbd
      clear hbd
      go_wp2_with fail
      go_loopg [18, 20, 69] al.length (fun gg s18 _ s69 wr => ∃ k : Nat, k ≤ al.length ∧ al.length - k ≤ gg ∧ s18 = .int .i64 (sumF dispF (al.take k)) ∧ s69 = .int .i64 k ∧ Hid (Below w8.heap.size w8 wr))
      case atStart => exact ⟨0, Nat.zero_le _, by omega, rfl, rfl, Below.refl _ _⟩
      case round =>
        obtain ⟨k, hk, hg, rfl, rfl, BW⟩ := hrel
        by_cases hlt : k < al.length
        · obtain ⟨ad, hA, c0, c1, c2, c3, c4, c5, c6⟩ := Msg.at_ (Rx.out.below BW.out) k hlt
          subst hA
          have hb1 := HBD.out k hk
          have hx1 := dispF_bd (HV.out al[k] (List.getElem_mem hlt))
          have hst : sumF dispF (al.take (k + 1)) = sumF dispF (al.take k) + dispF al[k] := by
            rw [List.take_succ_eq_append_getElem hlt, sumF_append]; simp [sumF]
          have HST := hid_of hst
          clear hst
          generalize al[k] = x at *
          generalize sumF dispF (al.take k) = S at *
          obtain ⟨x0, x1, x2, x3, x4, x5, x6⟩ := x
          dsimp only at c0 c1 c2 c3 c4 c5 c6
          have hsz := BW.out.size
          by_cases hk1 : x1 = 1
          · subst hk1
            have hd : dispF ⟨x0, 1, x2, x3, x4, x5, x6⟩ = x6 := rfl
            rw [hd] at hx1
            have HST2 := hid_of (HST.out.trans (by rw [hd]))
            have hwr : IntKind.i64.wrap (S + x6) = S + x6 := by rw [IntKind.wrap_i64]; omega
            have HX := hid_of hx1
            have HB1 := hid_of hb1
            clear hx1 hb1 hd HST
            go_wp2_with fail
            go_roundg (al.length - (k + 1))
            case measure => omega
            case rel => exact ⟨k + 1, by omega, Nat.le_refl _, by rw [HST2.out], by go_num, BW.out.alloc hsz _⟩
          · have hd : dispF ⟨x0, x1, x2, x3, x4, x5, x6⟩ = 0 := by simp [dispF, hk1]
            have HST2 := hid_of (HST.out.trans (by rw [hd]))
            clear hx1 hb1 hd HST
            have hk1' : (x1 == 1) = false := by simpa using hk1
            go_wp2_with fail
            go_roundg (al.length - (k + 1))
            case measure => omega
            case rel => exact ⟨k + 1, by omega, Nat.le_refl _, by rw [HST2.out]; simp, by go_num, BW.out.alloc hsz _⟩
        · have hkl : k = al.length := by omega
          subst hkl
          rw [List.take_length]
          replace HA := hid_of ((BW.out.block _ (Array.getElem?_eq_some_iff.1 HA.out).1).trans HA.out)
          replace HB2 := hid_of ((BW.out.block _ (Array.getElem?_eq_some_iff.1 HB2.out).1).trans HB2.out)
          replace HB := hid_of (below_then HB.out HB.out.size BW.out)
          have p0 := (blk_cell HA.out 0).trans (show _ = some (.int .i64 a0) from rfl)
          have p1 := (blk_cell HA.out 1).trans (show _ = some (.int .i64 a1) from rfl)
          have p2 := (blk_cell HA.out 2).trans (show _ = some (.int .i64 a2) from rfl)
          have p3 := (blk_cell HA.out 3).trans (show _ = some (.int .i64 a3) from rfl)
          have p4 := (blk_cell HA.out 4).trans (show _ = some (.int .i64 a4) from rfl)
          have p5 := (blk_cell HA.out 5).trans (show _ = some (.int .i64 a5) from rfl)
          have p6 := (blk_cell HA.out 6).trans (show _ = some (.int .i64 a6) from rfl)
          have q0 := (blk_cell HB2.out 0).trans (show _ = some (.int .i64 b0) from rfl)
          have q1 := (blk_cell HB2.out 1).trans (show _ = some (.int .i64 b1) from rfl)
          have q2 := (blk_cell HB2.out 2).trans (show _ = some (.int .i64 b2) from rfl)
          have q3 := (blk_cell HB2.out 3).trans (show _ = some (.int .i64 b3) from rfl)
          have q4 := (blk_cell HB2.out 4).trans (show _ = some (.int .i64 b4) from rfl)
          have q5 := (blk_cell HB2.out 5).trans (show _ = some (.int .i64 b5) from rfl)
          have q6 := (blk_cell HB2.out 6).trans (show _ = some (.int .i64 b6) from rfl)
          have hlat := HLAT.out wr
          rcases HQO.out with ⟨he3, rfl⟩ | ⟨rfl, ho0, ho1, _, _⟩
          · have he3' : (e3 == 0) = false := by simpa using he3
            go_wp2_with fail
            refine hlat.mono ?_
            rintro e w' ⟨rfl, hb⟩
            replace HB := hid_of (below_then HB.out HB.out.size hb)
            clear hb
            go_wp2_with fail
            go_ret
            exact ⟨rfl, HB.out⟩
          · generalize sumF dispF al = S at *
            go_wp2_with fail
            refine hlat.mono ?_
            rintro e w' ⟨rfl, hb⟩
            replace HB := hid_of (below_then HB.out HB.out.size hb)
            clear hb
            go_wp2_with fail
            go_ret
            exact ⟨rfl, HB.out⟩
  · have h1 : ¬ l.length ≤ 10 ∨ (l.length ≤ 10 ∧ ¬ m.length ≤ 10) ∨ (l.length ≤ 10 ∧ m.length ≤ 10 ∧ ¬ n.length ≤ 10) := by omega
    clear hR1 hR2 hR3 hs
    rcases h1 with h1 | ⟨h1, h2⟩ | ⟨h1, h2, h3⟩
    · have g1 : (l.length : Int) > 10 := by omega
      clear h1
      go_enter Try.func8, Try.ntmps8
      go_wp2_with fail
      refine (awake_any _).mono ?_
      rintro e w1 ⟨rfl, hb⟩
      have HB := hid_of hb
      clear hb
      go_wp2_with fail
      go_ret
      exact ⟨rfl, HB.out⟩
    · have g1 : ¬ ((l.length : Int) > 10) := by omega
      have g2 : (m.length : Int) > 10 := by omega
      clear h1 h2
      go_enter Try.func8, Try.ntmps8
      go_wp2_with fail
      refine (awake_any _).mono ?_
      rintro e w1 ⟨rfl, hb⟩
      have HB := hid_of hb
      clear hb
      go_wp2_with fail
      go_ret
      exact ⟨rfl, HB.out⟩
    · have g1 : ¬ ((l.length : Int) > 10) := by omega
      have g2 : ¬ ((m.length : Int) > 10) := by omega
      have g3 : (n.length : Int) > 10 := by omega
      clear h1 h2 h3
      go_enter Try.func8, Try.ntmps8
      go_wp2_with fail
      refine (awake_any _).mono ?_
      rintro e w1 ⟨rfl, hb⟩
      have HB := hid_of hb
      clear hb
      go_wp2_with fail
      go_ret
      exact ⟨rfl, HB.out⟩
end Go.Proofs.Ytgcnklnhambpjaa
