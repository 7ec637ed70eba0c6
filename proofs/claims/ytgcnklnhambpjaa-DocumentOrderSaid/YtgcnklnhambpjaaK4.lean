/- Joined texts of the seat: contracts and plain laws that the rows import. -/
import Derived.Test.YtgcnklnhambpjaaK3
set_option linter.unusedVariables false
set_option linter.unusedSimpArgs false
/- What the fold over a movement's messages gives, told by filters of the list: plain lists. -/
namespace Go.Proofs.Ytgcnklnhambpjaa
open Go.RowKit
def isK (mv k : Int) (m : Msg) : Bool := decide (m.mv = mv) && decide (m.kd = k)
def isDC (mv : Int) (m : Msg) : Bool := decide (m.mv = mv) && (decide (m.kd = 1) || decide (m.kd = 2))
def isRF (mv : Int) (m : Msg) : Bool := decide (m.mv = mv) && (decide (m.kd = 3) || decide (m.kd = 4))
def kf (m : Msg) : Int × Int := (if m.kd = 4 then 3 else m.kd, m.nu)
def isC (mv : Int) (x : Int × Int) (m : Msg) : Bool := decide (m.mv = mv) && (decide (m.kd ≠ 5) && decide (kf m = x))
def lastI (f : Msg → Int) (l : List Msg) : Int := match l.getLast? with | some m => f m | none => 0
def ansF (m : Msg) : Int := if m.kd = 3 then 2 else 3
theorem lastI_snoc (f : Msg → Int) (l : List Msg) (m : Msg) : lastI f (l ++ [m]) = f m := by simp [lastI]
theorem lastI_nil (f : Msg → Int) : lastI f [] = 0 := rfl
theorem mget_mput {κ ν : Type} [DecidableEq κ] (m : List (κ × ν)) (x y : κ) (v : ν) (hn : (m.map (·.1)).Nodup) : mget (mput m x v) y = if y = x then some v else mget m y := by
  have hn2 := mput_keys m x v hn
  by_cases hxy : y = x
  · subst hxy
    rw [if_pos rfl]
    have : ∃ j : Nat, (mput m y v)[j]? = some (y, v) := by
      unfold mput
      split
      · rename_i h
        obtain ⟨u, hu⟩ := Option.isSome_iff_exists.1 h
        unfold mget at hu
        cases hf : m.find? (fun p => decide (p.1 = y)) with
        | none => rw [hf] at hu; cases hu
        | some p =>
          obtain ⟨j, hj, rfl⟩ := List.getElem_of_mem (List.mem_of_find?_eq_some hf)
          have hp : m[j].1 = y := by simpa using List.find?_some hf
          exact ⟨j, by rw [List.getElem?_map, List.getElem?_eq_getElem hj]; simp [hp]⟩
      · exact ⟨m.length, by simp⟩
    obtain ⟨j, hj⟩ := this
    exact mget_at hn2 hj rfl
  · rw [if_neg hxy]
    unfold mput
    split
    · unfold mget
      rw [List.find?_map]
      have he : ((fun p : κ × ν => decide (p.1 = y)) ∘ fun p : κ × ν => if p.1 = x then (p.1, v) else p) = fun p : κ × ν => decide (p.1 = y) := by
        funext p; simp only [Function.comp]; split <;> rfl
      rw [he]
      cases hf : m.find? (fun p => decide (p.1 = y)) with
      | none => rfl
      | some p =>
        have hp : p.1 = y := by simpa using List.find?_some hf
        simp [hp, hxy]
    · unfold mget
      rw [List.find?_append]
      cases hf : m.find? (fun p => decide (p.1 = y)) with
      | none => simp [Ne.symm hxy]
      | some p => simp
structure OfC (mv : Int) (n : List Msg) (s : OfS) : Prop where
  hmv : s.out.mv = mv
  hst : s.out.st = if n.filter (isK mv 1) = [] then 0 else 1
  hfr : s.out.fr = lastI Msg.fr (n.filter (isK mv 1))
  htt : s.out.tt = lastI Msg.tt (n.filter (isDC mv))
  hse : s.out.se = lastI Msg.al (n.filter (isK mv 1))
  hre : s.out.re = lastI Msg.al (n.filter (isK mv 3))
  hch : s.out.ch = (n.filter (isK mv 2)).length
  hans : s.ans = lastI ansF (n.filter (isRF mv))
  hen : s.ended = !(n.filter (isK mv 5)).isEmpty
  hcnt : ∀ x, (mget s.cnt x).getD 0 = (n.filter (isC mv x)).length
  hkey : (s.cnt.map (·.1)).Nodup
theorem bump_get (c : List ((Int × Int) × Int)) (x y : Int × Int) (hn : (c.map (·.1)).Nodup) : (mget (bump c x) y).getD 0 = if y = x then (mget c y).getD 0 + 1 else (mget c y).getD 0 := by
  unfold bump
  rw [mget_mput _ _ _ _ hn]
  split
  · rename_i h; subst h; rfl
  · rfl
theorem ofFold_char (mv : Int) : ∀ n : List Msg, OfC mv n (ofFold mv n) := by
  refine snoc_ind ?_ ?_
  · constructor <;> simp [ofFold, ofInit, lastI, mget]
  · intro n m h
    rw [ofFold_snoc]
    generalize ofFold mv n = s at h
    obtain ⟨h0, h1, h2, h3, h4, h5, h6, h7, h8, h9, h10⟩ := h
    unfold ofStep
    by_cases hm : m.mv = mv
    · rw [if_neg (by simpa using hm)]
      by_cases k1 : m.kd = 1
      · rw [if_pos k1]
        refine ⟨h0, ?_, ?_, ?_, ?_, ?_, ?_, ?_, ?_, fun x => ?_, mput_keys _ _ _ h10⟩
        all_goals simp [List.filter_append, isK, isDC, isRF, hm, k1, h0, h1, h2, h3, h4, h5, h6, h7, h8, lastI_snoc]
        rw [bump_get _ _ _ h10, h9 x]
        by_cases hx : x = (1, m.nu)
        · subst hx; simp [isC, hm, k1, kf, List.filter_append]
        · rw [if_neg hx]
          simp [isC, hm, k1, kf, List.filter_append, Ne.symm hx]
      · rw [if_neg k1]
        by_cases k2 : m.kd = 2
        · rw [if_pos k2]
          refine ⟨h0, ?_, ?_, ?_, ?_, ?_, ?_, ?_, ?_, fun x => ?_, mput_keys _ _ _ h10⟩
          all_goals simp [List.filter_append, isK, isDC, isRF, hm, k2, h0, h1, h2, h3, h4, h5, h6, h7, h8, lastI_snoc]
          rw [bump_get _ _ _ h10, h9 x]
          by_cases hx : x = (2, m.nu)
          · subst hx; simp [isC, hm, k2, kf, List.filter_append]
          · rw [if_neg hx]
            simp [isC, hm, k2, kf, List.filter_append, Ne.symm hx]
        · rw [if_neg k2]
          by_cases k3 : m.kd = 3
          · rw [if_pos k3]
            refine ⟨h0, ?_, ?_, ?_, ?_, ?_, ?_, ?_, ?_, fun x => ?_, mput_keys _ _ _ h10⟩
            all_goals simp [List.filter_append, isK, isDC, isRF, hm, k3, h0, h1, h2, h3, h4, h5, h6, h7, h8, lastI_snoc, ansF]
            rw [bump_get _ _ _ h10, h9 x]
            by_cases hx : x = (3, m.nu)
            · subst hx; simp [isC, hm, k3, kf, List.filter_append]
            · rw [if_neg hx]
              simp [isC, hm, k3, kf, List.filter_append, Ne.symm hx]
          · rw [if_neg k3]
            by_cases k4 : m.kd = 4
            · rw [if_pos k4]
              refine ⟨h0, ?_, ?_, ?_, ?_, ?_, ?_, ?_, ?_, fun x => ?_, mput_keys _ _ _ h10⟩
              all_goals simp [List.filter_append, isK, isDC, isRF, hm, k4, h0, h1, h2, h3, h4, h5, h6, h7, h8, lastI_snoc, ansF]
              rw [bump_get _ _ _ h10, h9 x]
              by_cases hx : x = (3, m.nu)
              · subst hx; simp [isC, hm, k4, kf, List.filter_append]
              · rw [if_neg hx]
                simp [isC, hm, k4, kf, List.filter_append, Ne.symm hx]
            · rw [if_neg k4]
              by_cases k5 : m.kd = 5
              · rw [if_pos k5]
                refine ⟨h0, ?_, ?_, ?_, ?_, ?_, ?_, ?_, ?_, fun x => ?_, h10⟩
                all_goals simp [List.filter_append, isK, isDC, isRF, isC, hm, k5, h0, h1, h2, h3, h4, h5, h6, h7, h8, h9]
              · rw [if_neg k5]
                refine ⟨h0, ?_, ?_, ?_, ?_, ?_, ?_, ?_, ?_, fun x => ?_, mput_keys _ _ _ h10⟩
                all_goals simp [List.filter_append, isK, isDC, isRF, hm, k1, k2, k3, k4, k5, h0, h1, h2, h3, h4, h5, h6, h7, h8]
                rw [bump_get _ _ _ h10, h9 x]
                by_cases hx : x = (m.kd, m.nu)
                · subst hx; simp [isC, hm, k4, k5, kf, List.filter_append]
                · rw [if_neg hx]
                  simp [isC, hm, k4, k5, kf, List.filter_append, Ne.symm hx]
    · rw [if_pos hm]
      refine ⟨h0, ?_, ?_, ?_, ?_, ?_, ?_, ?_, ?_, fun x => ?_, h10⟩
      all_goals simp [List.filter_append, isK, isDC, isRF, isC, hm, h0, h1, h2, h3, h4, h5, h6, h7, h8, h9]
/-- Two messages that may not both be. -/
def confl (mv : Int) (n : List Msg) : Prop := ∃ x, 2 ≤ (n.filter (isC mv x)).length
theorem cnt_any {mv : Int} {n : List Msg} {s : OfS} (h : OfC mv n s) : s.cnt.any (fun p => decide (1 < p.2)) = true ↔ confl mv n := by
  rw [List.any_eq_true]
  constructor
  · rintro ⟨p, hp, h1⟩
    have h1' : 1 < p.2 := by simpa using h1
    refine ⟨p.1, ?_⟩
    obtain ⟨j, hj, rfl⟩ := List.getElem_of_mem hp
    have hg := mget_at h.hkey (List.getElem?_eq_getElem hj) rfl
    have hc := h.hcnt (s.cnt[j]).1
    rw [hg] at hc
    simp only [Option.getD_some] at hc
    omega
  · rintro ⟨x, hx⟩
    have hc := h.hcnt x
    unfold mget at hc
    cases hf : s.cnt.find? (fun p => decide (p.1 = x)) with
    | none => rw [hf] at hc; simp at hc; omega
    | some p =>
      rw [hf] at hc
      simp only [Option.map_some, Option.getD_some] at hc
      exact ⟨p, List.mem_of_find?_eq_some hf, by simp; omega⟩
/-- What document.of gives, by filters. -/
structure OfV (mv : Int) (n : List Msg) (d : Doc) : Prop where
  none : n.filter (isK mv 1) = [] → d = ⟨mv, 0, 0, 0, 0, 0, 0⟩
  conf : n.filter (isK mv 1) ≠ [] → confl mv n → d = ⟨mv, 5, 0, 0, 0, 0, 0⟩
  else_ : n.filter (isK mv 1) ≠ [] → ¬ confl mv n → d = ⟨mv, (if n.filter (isRF mv) = [] then 1 else if n.filter (isK mv 5) ≠ [] then 4 else lastI ansF (n.filter (isRF mv))), lastI Msg.fr (n.filter (isK mv 1)), lastI Msg.tt (n.filter (isDC mv)), lastI Msg.al (n.filter (isK mv 1)), lastI Msg.al (n.filter (isK mv 3)), (n.filter (isK mv 2)).length⟩
theorem ansF_pos (m : Msg) : 2 ≤ ansF m ∧ ansF m ≤ 3 := by unfold ansF; split <;> decide
theorem lastI_ne {f : Msg → Int} (hf : ∀ m, f m ≠ 0) {l : List Msg} : lastI f l = 0 ↔ l = [] := by
  unfold lastI
  constructor
  · intro h
    cases hl : l.getLast? with
    | none => exact List.getLast?_eq_none_iff.1 hl
    | some m => rw [hl] at h; exact absurd h (hf m)
  · rintro rfl; rfl
theorem ofR_char (mv : Int) (n : List Msg) : OfV mv n (ofR mv n) := by
  have h := ofFold_char mv n
  have hc := cnt_any h
  unfold ofR
  generalize ofFold mv n = s at h hc
  have han : s.ans = 0 ↔ n.filter (isRF mv) = [] := by rw [h.hans]; exact lastI_ne (fun m => by have := ansF_pos m; intro e; omega)
  refine ⟨fun hd => ?_, fun hd hcf => ?_, fun hd hcf => ?_⟩
  · unfold ofEnd; rw [if_pos (by rw [h.hst, if_pos hd])]
  · unfold ofEnd; rw [if_neg (by rw [h.hst, if_neg hd]; decide), if_pos (hc.2 hcf)]
  · unfold ofEnd
    rw [if_neg (by rw [h.hst, if_neg hd]; decide), if_neg (fun e => hcf (hc.1 e))]
    have e1 : s.out = ⟨mv, 1, lastI Msg.fr (n.filter (isK mv 1)), lastI Msg.tt (n.filter (isDC mv)), lastI Msg.al (n.filter (isK mv 1)), lastI Msg.al (n.filter (isK mv 3)), (n.filter (isK mv 2)).length⟩ := by
      rw [← h.hfr, ← h.htt, ← h.hse, ← h.hre, ← h.hch, ← h.hmv, show (1 : Int) = s.out.st by rw [h.hst, if_neg hd]]
    by_cases ha : s.ans = 0
    · rw [if_pos ha, if_pos (han.1 ha), e1]
    · rw [if_neg ha, if_neg (fun e => ha (han.2 e)), e1]
      by_cases he : s.ended = true
      · have he2 : n.filter (isK mv 5) ≠ [] := by rw [h.hen] at he; simpa using he
        rw [if_pos he, if_pos he2]
      · have he2 : ¬ n.filter (isK mv 5) ≠ [] := by rw [h.hen] at he; simpa using he
        rw [if_neg he, if_neg he2, ← h.hans]
end Go.Proofs.Ytgcnklnhambpjaa
