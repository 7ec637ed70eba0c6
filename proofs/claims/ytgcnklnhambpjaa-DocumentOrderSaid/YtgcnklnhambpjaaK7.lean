/- Joined texts of the seat: contracts and plain laws that the rows import. -/
import Derived.Test.YtgcnklnhambpjaaK6
import Derived.Test.YtgcnklnhambpjaaK5
import Derived.Test.YtgcnklnhambpjaaK2
import Derived.Test.YtgcnklnhambpjaaK4
import Derived.Test.YtgcnklnhambpjaaK1
import Derived.Deep.Upon
import Derived.Lib.AppendZeros
import Derived.Lib.SliceRun
import Derived.Deep.LoopGhost
import Derived.Deep.QuietTactic
import Derived.BigQuiet
import Derived.Outline
set_option linter.unusedVariables false
set_option linter.unusedSimpArgs false
/- The reference's Normal: what it returns. -/
namespace Go.Proofs.Ytgcnklnhambpjaa
open Go.RowKit
theorem start_ok {l : List Msg} (h : startR l = 0) : l.length ≤ 64 ∧ ∀ m ∈ l, chkM m = 0 := by
  unfold startR at h
  split at h
  · cases h
  · split at h
    · cases h
    · rename_i h1 h2
      refine ⟨by omega, fun m hm => ?_⟩
      have := List.any_eq_false.1 (by simpa using h2) m hm
      simpa [badM] using this
theorem chk_mv {m : Msg} (h : chkM m = 0) : 1 ≤ m.mv := by
  unfold chkM at h
  split at h
  · cases h
  · omega
theorem normR_cases (l : List Msg) : ((normR l).2 = 0 ∧ (normR l).1 = normL l ∧ l.length ≤ 64 ∧ ∀ m ∈ l, chkM m = 0) ∨ ((normR l).2 ≠ 0 ∧ (normR l).1 = []) := by
  have h := start_norm l
  have hok := @start_ok l
  unfold normR at h ⊢
  by_cases h1 : l.length > 64
  · rw [if_pos h1]; exact .inr ⟨by decide, rfl⟩
  · rw [if_neg h1] at h ⊢
    by_cases h2 : l.any badM = true
    · rw [if_pos h2]; exact .inr ⟨by decide, rfl⟩
    · rw [if_neg h2] at h ⊢
      exact .inl ⟨rfl, rfl, hok h⟩
theorem normL_ok {l : List Msg} (hv : ∀ m ∈ l, chkM m = 0) : ∀ m ∈ normL l, chkM m = 0 := fun m hm => hv m ((normL_mem l m).1 hm)
set_option maxHeartbeats 4000000 in
theorem rnormalT_any (l : List Msg) (A : Option Addr) (c : Nat) (w : World) (hR : Rd EMsg w A l) : Calls Try.prog 14 #[.slice A l.length c] w (Made2 EMsg 23 (normR l).1 (normR l).2 w) := by
  have hs := rstart_any l A c w hR
  rw [start_norm] at hs
  unfold RInt at hs
  rcases normR_cases l with ⟨h1, h2, h3, h4⟩ | ⟨h1, h2⟩
  · rw [h1, h2]
    rw [h1] at hs
    have hn := fun W (h : Below w.heap.size w W) => rnormal_any l A c W (hR.below h) h3
    unfold Made at hn
    clear h1 h2 h3 h4 hR
    go_enter Try.func14, Try.ntmps14
    go_wp2_with fail
    refine hs.mono ?_
    rintro e w1 ⟨rfl, hb⟩
    have HB := hid_of hb
    have hc := hn w1 hb
    clear hs hn hb
    go_wp2_with fail
    refine hc.mono ?_
    rintro e w2 ⟨v, rfl, hO, hb2⟩
    have HO := hid_of hO
    have HB2 := hid_of (below_then HB.out HB.out.size hb2)
    have hsz := HB.out.size
    clear hO hb2 hc
    go_wp2_with fail
    go_ret2
    exact ⟨_, rfl, HO.out.lower hsz, HB2.out⟩
  · rw [h2]
    generalize (normR l).2 = r at hs h1 ⊢
    have hne : (r != 0) = true := by simpa using h1
    clear h1 h2 hR
    go_enter Try.func14, Try.ntmps14
    go_wp2_with fail
    refine hs.mono ?_
    rintro e w1 ⟨rfl, hb⟩
    have HB := hid_of hb
    clear hs hb
    go_wp2_with fail
    go_ret2
    exact ⟨_, rfl, Own.nil _ _ _ _, HB.out⟩
end Go.Proofs.Ytgcnklnhambpjaa
/- document.Later: what it returns for every two documents. -/
namespace Go.Proofs.Ytgcnklnhambpjaa
open Go.RowKit
theorem eqStg (d : Nat) (w : World) (x1 x2 y1 y2 : Int) :
    (Op.equalIn (d + 2) 80 (.agg #[.int .i64 x1, .int .i64 x2]) (.agg #[.int .i64 y1, .int .i64 y2])).run Try.prog w = .ok (decide (x1 = y1 ∧ x2 = y2)) w := by
  have e : decide (x1 = y1 ∧ x2 = y2) = (x1 == y1 && x2 == y2) := by
    rw [Bool.eq_iff_iff]
    simp
  rw [e]
  refine eqAgg_of Try.underlying80 (by kernel_rfl) ?_
  iterate 1 refine eqFields_cons (by rfl) (by go_simp; rfl) (by go_simp; rfl) (by go_simp) ?_
  exact eqFields_last (by rfl) (by go_simp; rfl) (by go_simp; rfl) (by go_simp)
def goB (s t r q : Int) : Bool := if s = 1 then decide (1 ≤ t ∧ t ≤ 4) else if s = 3 ∧ t = 3 then true else if s = 3 ∧ t = 4 then decide (q = 0) else if (s = 2 ∧ t = 2) ∨ (s = 2 ∧ t = 4) ∨ (s = 4 ∧ t = 4) then decide (r = q) else false
def goesB (a b : Doc) : Bool := goB a.st b.st a.re b.re
def laterB (a b : Doc) : Bool := if a.mv ≠ b.mv then false else if a = b ∨ a.st = 0 ∨ b.st = 5 then true else decide (a.fr = b.fr ∧ a.se = b.se ∧ (a.ch < b.ch ∨ b.ch = a.ch ∧ a.tt = b.tt)) && goesB a b
def LatPost (r : Bool) (w : World) (e : Ending) (w' : World) : Prop := e = .returned (.bool r) ∧ Below w.heap.size w w'
attribute [local go_sem high] eqStg eqDoc
theorem and_true_of {P : Prop} [Decidable P] (b : Bool) (h : P) : (decide P && b) = b := by simp [h]
set_option maxHeartbeats 8000000 in
set_option maxRecDepth 100000 in
theorem goes_any (a b : Doc) (w : World) : Calls Try.prog 50 #[a.v, b.v] w (LatPost (goesB a b) w) := by
  have hg : goesB a b = goesB a b := rfl
  conv at hg => rhs; unfold goesB goB
  generalize goesB a b = r at hg ⊢
  have HG := hid_of hg
  clear hg
  unfold LatPost
  go_enter Try.func50, Try.ntmps50
  go_wp2
  all_goals go_ret
  all_goals refine ⟨ret_b ?_, by repeat (first | exact Below.refl _ _ | apply Below.drew | refine Below.alloc ?_ (by simp <;> omega) _)⟩
  all_goals rw [HG.out]
  all_goals clear HG
  all_goals (repeat' split)
  all_goals first | rfl | (exfalso; omega) | (simp; omega) | (simp_all; done) | (exfalso; simp_all; done) | (exfalso; simp_all; omega)
set_option maxHeartbeats 8000000 in
set_option maxRecDepth 100000 in
theorem later_any (a b : Doc) (w : World) : Calls Try.prog 25 #[a.v, b.v] w (LatPost (laterB a b) w) := by
  have hg : laterB a b = laterB a b := rfl
  conv at hg => rhs; unfold laterB goesB goB
  generalize laterB a b = r at hg ⊢
  have HG := hid_of hg
  clear hg
  unfold LatPost
  go_enter Try.func25, Try.ntmps25
  go_wp2
  all_goals (first | go_big_region | skip)
  all_goals go_ret
  all_goals refine ⟨ret_b ?_, by repeat (first | exact Below.refl _ _ | apply Below.drew | refine Below.alloc ?_ (by simp <;> omega) _)⟩
  all_goals rw [HG.out]
  all_goals clear HG
  all_goals first | (simp_all; done) | (simp_all; omega) | (repeat' split) 
  all_goals first | rfl | (exfalso; omega) | (simp; omega) | (simp_all; done) | (exfalso; simp_all; done) | (exfalso; simp_all; omega) | skip
  all_goals (rw [and_true_of]; first | omega | rfl | (simp; done) | (simp; omega) | skip)
  all_goals first | omega | rfl | (simp; done) | (simp; omega)
end Go.Proofs.Ytgcnklnhambpjaa
/- With more messages a movement's document can only become a later one: plain lists. -/
namespace Go.Proofs.Ytgcnklnhambpjaa
open Go.RowKit
theorem sublist_of {l1 : List Msg} : ∀ {l2 : List Msg}, l1.Pairwise ltM → l2.Pairwise ltM → (∀ x ∈ l1, x ∈ l2) → l1.Sublist l2 := by
  intro l2
  induction l2 generalizing l1 with
  | nil =>
    intro _ _ h
    cases l1 with
    | nil => exact List.Sublist.refl _
    | cons a r => exact absurd (h a (by simp)) (by simp)
  | cons b r2 ih =>
    intro h1 h2 h
    cases l1 with
    | nil => exact List.nil_sublist _
    | cons a r1 =>
      have p1 := List.pairwise_cons.1 h1
      have p2 := List.pairwise_cons.1 h2
      by_cases e : a = b
      · subst e
        refine List.Sublist.cons_cons _ (ih p1.2 p2.2 (fun x hx => ?_))
        rcases List.mem_cons.1 (h x (List.mem_cons_of_mem _ hx)) with rfl | hm
        · exact absurd (p1.1 _ hx) (ltM_irr _)
        · exact hm
      · have ha : a ∈ r2 := by
          rcases List.mem_cons.1 (h a (by simp)) with rfl | hm
          · exact absurd rfl e
          · exact hm
        refine List.Sublist.cons _ (ih h1 p2.2 (fun x hx => ?_))
        rcases List.mem_cons.1 (h x hx) with rfl | hm
        · rcases List.mem_cons.1 hx with rfl | hx
          · exact absurd rfl e
          · exact absurd (ltM_tr (p1.1 _ hx) (p2.1 _ ha)) (ltM_irr _)
        · exact hm
theorem normL_sub {l l' : List Msg} (h : ∀ x ∈ l, x ∈ l') : (normL l).Sublist (normL l') :=
  sublist_of (normL_strict l) (normL_strict l') (fun x hx => (normL_mem l' x).2 (h x ((normL_mem l x).1 hx)))
theorem sub_len_eq {α : Type} {a b : List α} (h : a.Sublist b) (hl : b.length ≤ a.length) : a = b := h.eq_of_length_le hl
theorem ne_len {α : Type} {a : List α} (h : a ≠ []) : 1 ≤ a.length := by cases a with | nil => exact absurd rfl h | cons x r => simp
section
variable {mv : Int} {n : List Msg}
theorem filt_le (p q : Msg → Bool) (hpq : ∀ m ∈ n, p m = true → q m = true) : (n.filter p).length ≤ (n.filter q).length := by
  have : n.filter p = (n.filter q).filter p := by
    rw [List.filter_filter]
    refine List.filter_congr (fun m hm => ?_)
    cases hp : p m with
    | true => simp [hpq m hm hp]
    | false => simp
  rw [this]; exact List.length_filter_le _ _
theorem chk_nu0 {m : Msg} (h : chkM m = 0) (hk : m.kd ≠ 2) : m.nu = 0 := by
  unfold chkM at h
  repeat' split at h
  all_goals omega
theorem one_of (hv : ∀ m ∈ n, chkM m = 0) (hc : ¬ confl mv n) (p : Msg → Bool) (x : Int × Int) (hp : ∀ m, chkM m = 0 → p m = true → isC mv x m = true) : (n.filter p).length ≤ 1 := by
  have h1 := filt_le (n := n) p (isC mv x) (fun m hm h => hp m (hv m hm) h)
  have h2 : (n.filter (isC mv x)).length < 2 := Nat.lt_of_not_le (fun h => hc ⟨x, h⟩)
  omega
theorem one_disp (hv : ∀ m ∈ n, chkM m = 0) (hc : ¬ confl mv n) : (n.filter (isK mv 1)).length ≤ 1 := by
  refine one_of hv hc _ (1, 0) (fun m h hm => ?_)
  simp only [isK, Bool.and_eq_true, decide_eq_true_eq] at hm
  have := chk_nu0 h (by omega)
  simp [isC, kf, hm.1, hm.2, this]
theorem one_rf (hv : ∀ m ∈ n, chkM m = 0) (hc : ¬ confl mv n) : (n.filter (isRF mv)).length ≤ 1 := by
  refine one_of hv hc _ (3, 0) (fun m h hm => ?_)
  simp only [isRF, Bool.and_eq_true, Bool.or_eq_true, decide_eq_true_eq] at hm
  have := chk_nu0 h (by omega)
  rcases hm.2 with h3 | h4
  · simp [isC, kf, hm.1, h3, this]
  · simp [isC, kf, hm.1, h4, this]
theorem dc_len : (n.filter (isDC mv)).length = (n.filter (isK mv 1)).length + (n.filter (isK mv 2)).length := by
  induction n with
  | nil => rfl
  | cons m r ih =>
    simp only [List.filter_cons]
    by_cases h1 : m.mv = mv
    · by_cases k1 : m.kd = 1
      · simp [isDC, isK, h1, k1] at ih ⊢; omega
      · by_cases k2 : m.kd = 2
        · simp [isDC, isK, h1, k2] at ih ⊢; omega
        · simp [isDC, isK, h1, k1, k2] at ih ⊢; omega
    · simp [isDC, isK, h1] at ih ⊢; omega
theorem k3_rf : n.filter (isK mv 3) = (n.filter (isRF mv)).filter (isK mv 3) := by
  rw [List.filter_filter]
  refine List.filter_congr (fun m _ => ?_)
  by_cases h1 : m.mv = mv <;> by_cases h3 : m.kd = 3 <;> simp [isK, isRF, h1, h3]
theorem one_list {α : Type} {l : List α} (h0 : l ≠ []) (h1 : l.length ≤ 1) : ∃ x, l = [x] := by
  cases l with
  | nil => exact absurd rfl h0
  | cons x r => cases r with
    | nil => exact ⟨x, rfl⟩
    | cons y r => simp at h1
end
/-- THE LAW: behind more messages the document is the same or a later one. -/
theorem later_more (mv : Int) {n n' : List Msg} (hs : n.Sublist n') (hv' : ∀ m ∈ n', chkM m = 0) : laterB (ofR mv n) (ofR mv n') = true := by
  have hv : ∀ m ∈ n, chkM m = 0 := fun m hm => hv' m (hs.subset hm)
  have fs := fun p => hs.filter p
  have c := ofR_char mv n
  have c' := ofR_char mv n'
  generalize ofR mv n = a at c
  generalize ofR mv n' = b at c'
  by_cases hd : n.filter (isK mv 1) = []
  · have ha := c.none hd
    have hbm : b.mv = mv := by
      by_cases d' : n'.filter (isK mv 1) = []
      · rw [c'.none d']
      · by_cases f' : confl mv n'
        · rw [c'.conf d' f']
        · rw [c'.else_ d' f']
    unfold laterB
    rw [ha, if_neg (by simp [hbm]), if_pos (.inr (.inl rfl))]
  · have hd' : n'.filter (isK mv 1) ≠ [] := fun e => hd (by have := fs (isK mv 1); rw [e] at this; exact List.sublist_nil.1 this)
    by_cases hc' : confl mv n'
    · have ha : a.mv = mv := by
        by_cases f : confl mv n
        · rw [c.conf hd f]
        · rw [c.else_ hd f]
      rw [c'.conf hd' hc']
      unfold laterB
      rw [if_neg (by simp [ha]), if_pos (.inr (.inr rfl))]
    · have hc : ¬ confl mv n := fun ⟨x, hx⟩ => hc' ⟨x, Nat.le_trans hx (fs (isC mv x)).length_le⟩
      have ea := c.else_ hd hc
      have eb := c'.else_ hd' hc'
      have h1 : n.filter (isK mv 1) = n'.filter (isK mv 1) := sub_len_eq (fs _) (by have := one_disp hv' hc'; have := ne_len hd; omega)
      have hle2 := (fs (isK mv 2)).length_le
      have hdc : (n.filter (isK mv 2)).length = (n'.filter (isK mv 2)).length → n.filter (isDC mv) = n'.filter (isDC mv) := fun e => by
        refine sub_len_eq (fs _) ?_
        rw [dc_len, dc_len, h1]; omega
      have hrf : n.filter (isRF mv) ≠ [] → n.filter (isRF mv) = n'.filter (isRF mv) := fun h => sub_len_eq (fs _) (by have := one_rf hv' hc'; have := ne_len h; omega)
      have hk5 : n.filter (isK mv 5) ≠ [] → n'.filter (isK mv 5) ≠ [] := fun h e => h (by have := fs (isK mv 5); rw [e] at this; exact List.sublist_nil.1 this)
      have hst : ∀ (x : List Msg), 2 ≤ lastI ansF x ∧ lastI ansF x ≤ 3 ∨ x = [] := fun x => by
        unfold lastI
        cases hx : x.getLast? with
        | none => exact .inr (List.getLast?_eq_none_iff.1 hx)
        | some m => exact .inl (ansF_pos m)
      have hgo : goesB a b = true := by
        unfold goesB
        rw [ea, eb]
        dsimp only
        by_cases r0 : n.filter (isRF mv) = []
        · rw [if_pos r0]
          unfold goB
          rw [if_pos rfl]
          refine decide_eq_true ?_
          split
          · omega
          · split
            · omega
            · rcases hst (n'.filter (isRF mv)) with h | h
              · omega
              · contradiction
        · have hr := hrf r0
          have e3 : n.filter (isK mv 3) = n'.filter (isK mv 3) := by rw [k3_rf, hr, ← k3_rf]
          obtain ⟨m, hm⟩ := one_list r0 (by have := one_rf hv hc; omega)
          have hm' : n'.filter (isRF mv) = [m] := hr ▸ hm
          have hmem : m ∈ n'.filter (isRF mv) := by rw [hm']; simp
          have hrf3 := (List.mem_filter.1 hmem).2
          simp only [isRF, Bool.and_eq_true, Bool.or_eq_true, decide_eq_true_eq] at hrf3
          have hl : lastI ansF [m] = ansF m := rfl
          have hne : ¬ ([m] : List Msg) = [] := by simp
          rw [if_neg r0, e3, hm, hm', hl, if_neg hne]
          by_cases k5 : n.filter (isK mv 5) ≠ []
          · rw [if_pos k5, if_pos (hk5 k5)]
            simp [goB]
          · rw [if_neg k5]
            have hz : m.kd = 4 → lastI Msg.al (n'.filter (isK mv 3)) = 0 := fun h4 => by
              rw [k3_rf, hm']; simp [isK, h4, lastI]
            by_cases k5' : n'.filter (isK mv 5) ≠ []
            · rw [if_pos k5']
              rcases hrf3.2 with h3 | h4
              · simp [goB, ansF, h3]
              · simp [goB, ansF, h4, hz h4]
            · rw [if_neg k5']
              rcases hrf3.2 with h3 | h4
              · simp [goB, ansF, h3]
              · simp [goB, ansF, h4]
      have hch : a.ch < b.ch ∨ b.ch = a.ch ∧ a.tt = b.tt := by
        rw [ea, eb]
        dsimp only
        by_cases e : (n.filter (isK mv 2)).length = (n'.filter (isK mv 2)).length
        · exact .inr ⟨by rw [e], by rw [hdc e]⟩
        · exact .inl (by omega)
      have hfs : a.fr = b.fr ∧ a.se = b.se := by
        rw [ea, eb]
        dsimp only
        rw [h1]; exact ⟨rfl, rfl⟩
      have hmv : a.mv = b.mv := by rw [ea, eb]
      unfold laterB
      rw [if_neg (by simpa using hmv)]
      split
      · rfl
      · rw [hgo, Bool.and_true]
        exact decide_eq_true ⟨hfs.1, hfs.2, hch⟩
end Go.Proofs.Ytgcnklnhambpjaa
/- Slices handed over in one slice: plain words. -/
namespace Go.Proofs.Ytgcnklnhambpjaa
variable {α : Type}
/-- One of the slices that are joined. -/
structure Part (α : Type) where
  A : Option Addr
  xs : List α
  c : Nat
def Part.v (p : Part α) : Value := .slice p.A p.xs.length p.c
def joinP (ps : List (Part α)) : List α := ps.flatMap (·.xs)
theorem joinP_take (ps : List (Part α)) (k : Nat) (hk : k < ps.length) : joinP (ps.take (k + 1)) = joinP (ps.take k) ++ ps[k].xs := by
  rw [joinP, List.take_succ_eq_append_getElem hk, List.flatMap_append]; simp [joinP]
theorem joinP_le (ps : List (Part α)) (k : Nat) : (joinP (ps.take k)).length ≤ (joinP ps).length := by
  conv => rhs; rw [← List.take_append_drop k ps]
  rw [joinP, joinP, List.flatMap_append, List.length_append]; omega
theorem zeroCells_size (z : Array Value) (n : Nat) : (Builtin.zeroCells z n).size = n * z.size := by simp [Builtin.zeroCells]
end Go.Proofs.Ytgcnklnhambpjaa
/- slices.Grow at nil, slices.Concat at api.Message. -/
namespace Go.Proofs.Ytgcnklnhambpjaa
open Go.RowKit
set_option maxHeartbeats 4000000 in
set_option maxRecDepth 100000 in
theorem growM (n : Nat) (w : World) (hl : n * 56 ≤ 140737488355328) :
    Calls Try.prog 52 #[.slice none 0 0, .int .i64 n] w (Made EMsg 23 [] w) := by
  obtain ⟨i0, hi, hzz⟩ := Option.map_eq_some_iff.1 infoM
  simp only [Prod.mk.injEq] at hzz
  obtain ⟨hz0, hz1, hz2⟩ := hzz
  have h1 : ¬ ((n : Int) < 0) := by omega
  have h3 : IntKind.i64.wrap ((n : Int)) = (n : Int) := by rw [IntKind.wrap_i64]; omega
  by_cases h0 : n = 0
  · subst h0
    clear hi hz0 hz1 hz2
    go_enter Try.func52, Try.ntmps52
    go_wp2
    go_ret
    exact ⟨_, rfl, Own.nil _ _ _ _, Below.refl _ _⟩
  · have h4 : (n : Int) > 0 := by omega
    have hrz := fun ty => Lib.run_append_nil_zeros (P := Try.prog) w 24 3 ty 23 i0 _ .i64 .i64 Try.underlying24 Try.underlying3 hi hz0 n (by omega) (by rw [hz1]; decide) (by omega) (by rw [hz2]; omega)
    have hG := grownCap_ge w n 0 23
    have hGm := grownCap_le_maxLen w n 0 23 (by unfold maxLen; omega)
    have hzc : (Value.cells (.agg #[.int .i64 0, .int .i64 0, .int .i64 0, .int .i64 0, .int .i64 0, .int .i64 0, .int .i64 0])).size = EMsg.k := rfl
    have hown : ∀ G, G = grownCap w n 0 23 → Own EMsg 23 (w.drew.alloc (.cells (Builtin.zeroCells (Value.cells (.agg #[.int .i64 0, .int .i64 0, .int .i64 0, .int .i64 0, .int .i64 0, .int .i64 0, .int .i64 0])) n ++ Builtin.zeroCells (Value.cells (.agg #[.int .i64 0, .int .i64 0, .int .i64 0, .int .i64 0, .int .i64 0, .int .i64 0, .int .i64 0])) (G - n)) 23)) w.heap.size (.slice (some ⟨w.heap.size, 0, none⟩) 0 G) [] := by
      intro G hG'
      subst hG'
      exact World.ownsRow_made w.drew _ _ (Nat.le_refl _) hGm (by rw [Array.size_append, zeroCells_size, zeroCells_size, hzc, ← Nat.add_mul, Nat.add_sub_cancel' hG])
    have hHO := hid_of hown
    clear hown
    obtain ⟨G, hGe⟩ : ∃ G, G = grownCap w n 0 23 := ⟨_, rfl⟩
    rw [← hGe] at hrz hG hGm
    have HGE := hid_of hGe
    clear hGe hi hz0 hz1 hz2
    have hG63 : G ≤ 9223372036854775807 := by unfold maxLen at hGm; omega
    go_enter Try.func52, Try.ntmps52
    go_wp2_with (at_builtin; refine Lib.wpList_append_run _ rfl _ _ _ _ rfl _ _ rfl rfl _ _ (hrz _) ?_)
    go_ret
    exact ⟨_, rfl, hHO.out G HGE.out, (Below.refl _ w).drew.alloc (Nat.le_refl _) _⟩
set_option maxHeartbeats 4000000 in
set_option maxRecDepth 100000 in
theorem concatM (ps : List (Part Msg)) (ad : Addr) (c : Nat) (w : World) (hP : ∀ i (hi : i < ps.length), w.cell? (ad.add i) = some ps[i].v) (hR : ∀ i (hi : i < ps.length), Rd EMsg w ps[i].A ps[i].xs) (hn : ps.length ≤ 1000) (hl : (joinP ps).length * 56 ≤ 140737488355328) :
    Calls Try.prog 31 #[.slice (some ad) ps.length c] w (Made EMsg 23 (joinP ps) w) := by
  obtain ⟨i0, hi, hzz⟩ := Option.map_eq_some_iff.1 infoM
  simp only [Prod.mk.injEq] at hzz
  obtain ⟨hz0, hz1, hz2⟩ := hzz
  have HI : Hid (Try.prog.info? 23 = some i0 ∧ i0.zero = some _ ∧ i0.size = 7 ∧ i0.bytes = 56) := ⟨hi, hz0, hz1, hz2⟩
  clear hi hz0 hz1 hz2
  have hgr := growM (joinP ps).length
  have HP := hid_of hP
  have HR := hid_of hR
  clear hP hR
  go_enter Try.func31, Try.ntmps31
  go_wp2_with fail
  go_loopg [3, 5, 11] ps.length (fun gg s3 _ s11 wr => ∃ k : Nat, k ≤ ps.length ∧ ps.length - k ≤ gg ∧ s3 = .int .i64 ((joinP (ps.take k)).length : Nat) ∧ s11 = .int .i64 k ∧ w = wr)
  case atStart => exact ⟨0, Nat.zero_le _, by omega, rfl, rfl, rfl⟩
  case round =>
    obtain ⟨k, hk, hg, rfl, rfl, rfl⟩ := hrel
    by_cases hlt : k < ps.length
    · have HLT := hid_of hlt
      have c0 := HP.out k hlt
      have hj := joinP_take ps k hlt
      have hle := joinP_le ps (k + 1)
      rw [hj, List.length_append] at hle
      rw [Part.v] at c0
      have hwr : IntKind.i64.wrap (((joinP (ps.take k)).length : Int) + (ps[k].xs.length : Int)) = (((joinP (ps.take k)).length + ps[k].xs.length : Nat) : Int) := by rw [IntKind.wrap_i64]; omega
      have HJ := hid_of (show (joinP (ps.take (k + 1))).length = (joinP (ps.take k)).length + ps[k].xs.length by rw [hj, List.length_append]; rfl)
      clear hj
      generalize (joinP (ps.take k)).length = m at *
      generalize ps[k].xs.length = m' at *
      generalize ps[k].A = A at *
      generalize ps[k].c = c' at *
      have hn0 : ¬ (((m + m' : Nat) : Int) < 0) := by omega
      go_wp2_with fail
      go_roundg (ps.length - (k + 1))
      case measure => omega
      case rel => exact ⟨k + 1, HLT.out, Nat.le_refl _, by rw [HJ.out]; simp, by go_num, rfl⟩
    · have hkl : k = ps.length := by omega
      subst hkl
      rw [List.take_length]
      go_wp2_with fail
      refine (hgr w hl).mono ?_
      rintro e w' ⟨v, rfl, hO, hb⟩
      have HO := hid_of hO
      have HB := hid_of hb
      clear hO hb hgr
      go_wp2_with fail
      go_loopg [6, 8, 27] ps.length (fun gg s6 _ s27 wq => ∃ k : Nat, k ≤ ps.length ∧ ps.length - k ≤ gg ∧ s27 = .int .i64 k ∧ Hid (Own EMsg 23 wq w.heap.size s6 (joinP (ps.take k))) ∧ Hid (Below w.heap.size w wq))
      case atStart => exact ⟨0, Nat.zero_le _, by omega, rfl, HO.out, HB.out⟩
      case round =>
        obtain ⟨k, hk, hg, rfl, HO, BW⟩ := hrel
        by_cases hlt : k < ps.length
        · have c0 := cell_below BW.out (HP.out k hlt)
          have hRk := (HR.out k hlt).below BW.out
          have HLT := hid_of hlt
          have hj := joinP_take ps k hlt
          have hle := joinP_le ps (k + 1)
          rw [hj, List.length_append] at hle
          rw [Part.v] at c0
          have HJ := hid_of hj
          clear hj
          generalize hys : ps[k].xs = ys at *
          generalize ps[k].A = A at *
          generalize ps[k].c = c' at *
          have HRk := hid_of hRk
          clear hRk hys
          cases A with
          | none =>
            have h0 : ys = [] := by
              rcases Nat.eq_zero_or_pos ys.length with h | h
              · exact List.eq_nil_of_length_eq_zero h
              · obtain ⟨ad, h, _⟩ := HRk.out.2 h; cases h
            subst h0
            obtain ⟨A1, c1, rfl, hcap, _⟩ := HO.out.rd
            have hrn := fun ty w => run_append_nothing (P := Try.prog) w 24 24 ty 23 i0 Try.underlying24 HI.out.1 A1 _ c1 hcap (.slice none 0 c') (Src.ofNil w Try.underlying24 c')
            go_wp2_with (at_builtin; refine Lib.wpList_append_run _ rfl _ _ _ _ rfl _ _ rfl rfl _ _ (hrn _ _) ?_)
            go_roundg (ps.length - (k + 1))
            case measure => omega
            case rel => exact ⟨k + 1, by omega, Nat.le_refl _, by go_num, by rw [HJ.out, List.append_nil]; exact HO.out, BW.out⟩
          | some adk =>
            have hc : ∀ j u, (EMsg.flat ys)[j]? = some u → wr.cell? (adk.add j) = some u := fun j u hu => by
              have hlen : 0 < ys.length := by
                rcases Nat.eq_zero_or_pos ys.length with h | h
                · rw [List.eq_nil_of_length_eq_zero h] at hu; simp [Enc.flat] at hu
                · exact h
              obtain ⟨ad', h, hc⟩ := HRk.out.2 hlen
              cases h
              exact hc j u hu
            have HC : Hid (∀ j u, (EMsg.flat ys)[j]? = some u → wr.cell? (adk.add j) = some u) := hc
            clear hc
            go_wp2_with (at_builtin; refine wpList_append_own _ rfl _ _ 24 rfl _ 23 i0 _ 7 56 Try.underlying24 HI.out.1 HI.out.2.1 HI.out.2.2.1 HI.out.2.2.2 rfl (by decide) _ _ _ rfl HO.out adk ys.length c' (EMsg.flat ys) rfl ?qc1 ?qc2 ?qc3 ?qc4 ?qc5 ?qc6 ?_)
            case qc1 => exact EMsg.flat_length ys
            case qc2 => intro j u hj; exact HC.out j u hj
            case qc3 => exact EMsg.flat_one' ys
            case qc4 => simp only [maxLen]; omega
            case qc5 => omega
            case qc6 => exact BW.out.size
            intro v' w1 hown hgrow hnil
            have hnb := fun k h => (HO.out.block k h).1
            have hb := BW.out.grown hgrow BW.out.size hnb
            have hown' : Own EMsg 23 w1 w.heap.size v' (joinP (ps.take (k + 1))) := by
              rw [HJ.out]; unfold Own; rw [EMsg.flat_append, List.length_append]; exact hown
            have HO1 := hid_of hown'
            have HB1 := hid_of hb
            clear hown hown' hgrow hnil hb hnb
            go_wp2_with fail
            go_roundg (ps.length - (k + 1))
            case measure => omega
            case rel => exact ⟨k + 1, by omega, Nat.le_refl _, by go_num, HO1.out, HB1.out⟩
        · have hkl : k = ps.length := by omega
          subst hkl
          rw [List.take_length] at HO
          go_wp2_with fail
          go_ret
          exact ⟨_, rfl, HO.out, BW.out⟩
theorem concat2M (l m al : List Msg) (hal : al = l ++ m) (A B : Option Addr) (c d g : Nat) (w : World) (hg : w.heap[g]? = some (.cells #[.slice A l.length c, .slice B m.length d] 24 (0, 0))) (h1 : Rd EMsg w A l) (h2 : Rd EMsg w B m) (hl : (l.length + m.length) * 56 ≤ 140737488355328) :
    Calls Try.prog 31 #[.slice (some ⟨g, 0, none⟩) 2 2] w (Made EMsg 23 al w) := by
  subst hal
  have hj : joinP [(⟨A, l, c⟩ : Part Msg), ⟨B, m, d⟩] = l ++ m := by simp [joinP]
  have h := concatM [⟨A, l, c⟩, ⟨B, m, d⟩] ⟨g, 0, none⟩ 2 w (fun i hi => by
    rw [addr_plain]
    match i with
    | 0 => exact (blk_cell hg 0).trans rfl
    | 1 => exact (blk_cell hg 1).trans rfl
    | i + 2 => exact absurd hi (by simp)) (fun i hi => by
    match i with
    | 0 => exact h1
    | 1 => exact h2
    | i + 2 => exact absurd hi (by simp)) (by simp) (by rw [hj, List.length_append]; exact hl)
  rw [hj] at h
  exact h
theorem concat3M (l m n al : List Msg) (hal : al = l ++ m ++ n) (A B C : Option Addr) (c d e g : Nat) (w : World) (hg : w.heap[g]? = some (.cells #[.slice A l.length c, .slice B m.length d, .slice C n.length e] 24 (0, 0))) (h1 : Rd EMsg w A l) (h2 : Rd EMsg w B m) (h3 : Rd EMsg w C n) (hl : (l.length + m.length + n.length) * 56 ≤ 140737488355328) :
    Calls Try.prog 31 #[.slice (some ⟨g, 0, none⟩) 3 3] w (Made EMsg 23 al w) := by
  subst hal
  have hj : joinP [(⟨A, l, c⟩ : Part Msg), ⟨B, m, d⟩, ⟨C, n, e⟩] = l ++ m ++ n := by simp [joinP]
  have h := concatM [⟨A, l, c⟩, ⟨B, m, d⟩, ⟨C, n, e⟩] ⟨g, 0, none⟩ 3 w (fun i hi => by
    rw [addr_plain]
    match i with
    | 0 => exact (blk_cell hg 0).trans rfl
    | 1 => exact (blk_cell hg 1).trans rfl
    | 2 => exact (blk_cell hg 2).trans rfl
    | i + 3 => exact absurd hi (by simp)) (fun i hi => by
    match i with
    | 0 => exact h1
    | 1 => exact h2
    | 2 => exact h3
    | i + 3 => exact absurd hi (by simp)) (by simp) (by rw [hj, List.length_append, List.length_append]; exact hl)
  rw [hj] at h
  exact h
end Go.Proofs.Ytgcnklnhambpjaa
/- document.Of: what it returns for every slice of messages. -/
namespace Go.Proofs.Ytgcnklnhambpjaa
open Go.RowKit
def zeroDoc : Doc := ⟨0, 0, 0, 0, 0, 0, 0⟩
/-- What Of returns. -/
def ofP (l : List Msg) (mv : Int) : Doc × Int := if (normR l).2 ≠ 0 then (zeroDoc, (normR l).2) else if mv < 1 ∨ mv > 1073741824 then (zeroDoc, 2) else (ofR mv (normR l).1, 0)
def OfTPost (l : List Msg) (mv : Int) (w : World) (e : Ending) (w' : World) : Prop := e = .returned (.tuple #[(ofP l mv).1.v, .int .i64 (ofP l mv).2]) ∧ Below w.heap.size w w'
set_option maxHeartbeats 4000000 in
set_option maxRecDepth 100000 in
theorem ofT_any (l : List Msg) (mv : Int) (A : Option Addr) (c : Nat) (w : World) (hR : Rd EMsg w A l) : Calls Try.prog 18 #[.slice A l.length c, .int .i64 mv] w (OfTPost l mv w) := by
  have hn := fun W (hb : Below w.heap.size w W) => normal_any l A c W (hR.below hb)
  have hof := fun (A : Option Addr) (c : Nat) (W : World) (hR : Rd EMsg W A (normR l).1) => of_any (normR l).1 mv A c W hR
  unfold OfPost at hof
  have hp : ofP l mv = ofP l mv := rfl
  conv at hp => rhs; unfold ofP
  unfold OfTPost
  generalize ofP l mv = p at hp ⊢
  obtain ⟨p1, p2⟩ := p
  generalize normR l = q at hn hof hp
  obtain ⟨ns, en⟩ := q
  dsimp only at hn hof hp ⊢
  generalize ofR mv ns = d at hof hp
  have HP := hid_of hp
  clear hp
  clear hR
  go_enter Try.func18, Try.ntmps18
  unfold Made2 at hn
  go_wp2_with fail
  refine (hn _ ((Below.refl _ _).alloc (Nat.le_refl _) _)).mono ?_
  rintro e w1 ⟨v, rfl, hO, hb1⟩
  obtain ⟨A1, c1, rfl, hlc, hR1⟩ := hO.rd
  have hb2 : Below w.heap.size w w1 := below_then ((Below.refl _ _).alloc (Nat.le_refl _) _) (by simp) hb1
  have hz : w1.heap[w.heap.size]? = some (.cells #[.int .i64 0, .int .i64 0, .int .i64 0, .int .i64 0, .int .i64 0, .int .i64 0, .int .i64 0] 35 (0, 0)) := (hb1.block _ (by simp)).trans (blkN w _)
  have HZ := hid_of hz
  have HB := hid_of hb2
  have HR1 := hid_of hR1
  have hsz : w.heap.size < w1.heap.size := (Array.getElem?_eq_some_iff.1 hz).1
  clear hn hO hb1 hb2 hR1 hz
  have z0 := (blk_cell HZ.out 0).trans (show _ = some (.int .i64 0) from rfl)
  have z1 := (blk_cell HZ.out 1).trans (show _ = some (.int .i64 0) from rfl)
  have z2 := (blk_cell HZ.out 2).trans (show _ = some (.int .i64 0) from rfl)
  have z3 := (blk_cell HZ.out 3).trans (show _ = some (.int .i64 0) from rfl)
  have z4 := (blk_cell HZ.out 4).trans (show _ = some (.int .i64 0) from rfl)
  have z5 := (blk_cell HZ.out 5).trans (show _ = some (.int .i64 0) from rfl)
  have z6 := (blk_cell HZ.out 6).trans (show _ = some (.int .i64 0) from rfl)
  have z7 := fun j => blk_frozen HZ.out j
  by_cases he : en = 0
  · subst he
    by_cases hmv : mv < 1 ∨ mv > 1073741824
    · have hp := HP.out
      rw [if_neg (by simp), if_pos hmv] at hp
      simp only [Prod.mk.injEq] at hp
      obtain ⟨rfl, rfl⟩ := hp
      clear HP
      go_wp2_with fail
      all_goals refine bodyPost_ret (v := .tuple #[.agg #[.int .i64 0, .int .i64 0, .int .i64 0, .int .i64 0, .int .i64 0, .int .i64 0, .int .i64 0], .int .i64 2]) (by simp [results, Try.results18, go_sem, z0, z1, z2, z3, z4, z5, z6, z7]) rfl ⟨rfl, by repeat (with_reducible first | exact HB.out | apply Below.drew | (refine Below.alloc ?_ (by first | omega | (simp; omega)) _) | (refine Below.setCell ?_ (by first | exact Nat.le_refl _ | (simp; done) | (simp; omega)) _))⟩
    · have h1 : 1 ≤ mv := by omega
      have h2 : mv ≤ 1073741824 := by omega
      have hc := hof A1 c1 _ HR1.out
      have hp := HP.out
      rw [if_neg (by simp), if_neg hmv] at hp
      simp only [Prod.mk.injEq] at hp
      obtain ⟨rfl, rfl⟩ := hp
      clear hof hmv HP
      go_wp2_with fail
      refine hc.mono ?_
      rintro e w2 ⟨rfl, hb2⟩
      have hz := (hb2.block _ hsz).trans HZ.out
      have HB := hid_of (below_then HB.out HB.out.size hb2)
      have HZ := hid_of hz
      clear hb2 hz z0 z1 z2 z3 z4 z5 z6 z7
      have z0 := (blk_cell HZ.out 0).trans (show _ = some (.int .i64 0) from rfl)
      have z1 := (blk_cell HZ.out 1).trans (show _ = some (.int .i64 0) from rfl)
      have z2 := (blk_cell HZ.out 2).trans (show _ = some (.int .i64 0) from rfl)
      have z3 := (blk_cell HZ.out 3).trans (show _ = some (.int .i64 0) from rfl)
      have z4 := (blk_cell HZ.out 4).trans (show _ = some (.int .i64 0) from rfl)
      have z5 := (blk_cell HZ.out 5).trans (show _ = some (.int .i64 0) from rfl)
      have z6 := (blk_cell HZ.out 6).trans (show _ = some (.int .i64 0) from rfl)
      have z7 := fun j => blk_frozen HZ.out j
      go_wp2_with fail
      refine bodyPost_ret (v := .tuple #[.agg #[.int .i64 p1.mv, .int .i64 p1.st, .int .i64 p1.fr, .int .i64 p1.tt, .int .i64 p1.se, .int .i64 p1.re, .int .i64 p1.ch], .int .i64 0]) (by simp [results, Try.results18, go_sem, z0, z1, z2, z3, z4, z5, z6, z7]) rfl ⟨rfl, by repeat (with_reducible first | exact HB.out | apply Below.drew | (refine Below.alloc ?_ (by first | omega | (simp; omega)) _) | (refine Below.setCell ?_ (by first | exact Nat.le_refl _ | (simp; done) | (simp; omega)) _))⟩
  · have hne : (en != 0) = true := by simpa using he
    have hp := HP.out
    rw [if_pos he] at hp
    simp only [Prod.mk.injEq] at hp
    obtain ⟨rfl, rfl⟩ := hp
    clear he HP
    go_wp2_with fail
    refine bodyPost_ret (v := .tuple #[.agg #[.int .i64 0, .int .i64 0, .int .i64 0, .int .i64 0, .int .i64 0, .int .i64 0, .int .i64 0], .int .i64 p2]) (by simp [results, Try.results18, go_sem, z0, z1, z2, z3, z4, z5, z6, z7]) rfl ⟨rfl, by repeat (with_reducible first | exact HB.out | apply Below.drew | (refine Below.alloc ?_ (by first | omega | (simp; omega)) _) | (refine Below.setCell ?_ (by first | exact Nat.le_refl _ | (simp; done) | (simp; omega)) _))⟩
end Go.Proofs.Ytgcnklnhambpjaa
