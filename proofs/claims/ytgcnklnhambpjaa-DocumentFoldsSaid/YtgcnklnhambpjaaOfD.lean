/- The document of a movement by different messages: what the code computes, as a fold. -/
import Derived.Test.YtgcnklnhambpjaaKeyPart
import Derived.Test.YtgcnklnhambpjaaChk
namespace Go.Proofs.Ytgcnklnhambpjaa
open Go.RowKit
structure OfS where
  out : Doc
  cnt : List ((Int × Int) × Int)
  ended : Bool
  ans : Int
def bump (c : List ((Int × Int) × Int)) (x : Int × Int) : List ((Int × Int) × Int) := mput c x ((mget c x).getD 0 + 1)
def ofStep (mv : Int) (s : OfS) (m : Msg) : OfS :=
  if m.mv ≠ mv then s
  else if m.kd = 1 then { s with out := { s.out with st := 1, fr := m.fr, tt := m.tt, se := m.al }, cnt := bump s.cnt (m.kd, m.nu) }
  else if m.kd = 2 then { s with out := { s.out with tt := m.tt, ch := s.out.ch + 1 }, cnt := bump s.cnt (m.kd, m.nu) }
  else if m.kd = 3 then { s with out := { s.out with re := m.al }, ans := 2, cnt := bump s.cnt (m.kd, m.nu) }
  else if m.kd = 4 then { s with ans := 3, cnt := bump s.cnt (3, m.nu) }
  else if m.kd = 5 then { s with ended := true }
  else { s with cnt := bump s.cnt (m.kd, m.nu) }
def ofInit (mv : Int) : OfS := ⟨⟨mv, 0, 0, 0, 0, 0, 0⟩, [], false, 0⟩
def ofFold (mv : Int) (l : List Msg) : OfS := l.foldl (ofStep mv) (ofInit mv)
def ofEnd (mv : Int) (s : OfS) : Doc :=
  if s.out.st = 0 then ⟨mv, 0, 0, 0, 0, 0, 0⟩
  else if s.cnt.any (fun p => decide (1 < p.2)) = true then ⟨mv, 5, 0, 0, 0, 0, 0⟩
  else if s.ans = 0 then s.out
  else if s.ended = true then { s.out with st := 4 }
  else { s.out with st := s.ans }
def ofR (mv : Int) (l : List Msg) : Doc := ofEnd mv (ofFold mv l)
theorem ofFold_snoc (mv : Int) (l : List Msg) (m : Msg) : ofFold mv (l ++ [m]) = ofStep mv (ofFold mv l) m := by unfold ofFold; rw [List.foldl_append]; rfl
theorem mget_bump_le (c : List ((Int × Int) × Int)) (k : Int) (h : ∀ p ∈ c, 0 ≤ p.2 ∧ p.2 ≤ k) (hk : 0 ≤ k) (x : Int × Int) : 0 ≤ (mget c x).getD 0 ∧ (mget c x).getD 0 ≤ k := by
  unfold mget
  cases hf : c.find? (fun p => decide (p.1 = x)) with
  | none => exact ⟨Int.le_refl _, hk⟩
  | some p => exact h p (List.mem_of_find?_eq_some hf)
theorem bump_le (c : List ((Int × Int) × Int)) (k : Int) (h : ∀ p ∈ c, 0 ≤ p.2 ∧ p.2 ≤ k) (hk : 0 ≤ k) (x : Int × Int) : ∀ p ∈ bump c x, 0 ≤ p.2 ∧ p.2 ≤ k + 1 := by
  have hg := mget_bump_le c k h hk x
  intro p hp
  unfold bump mput at hp
  split at hp
  · obtain ⟨q, hq, rfl⟩ := List.mem_map.1 hp
    have := h q hq
    split
    · dsimp only; omega
    · omega
  · rcases List.mem_append.1 hp with hp | hp
    · have := h p hp; omega
    · simp only [List.mem_singleton] at hp; subst hp; dsimp only; omega
/-- Bounds on what is counted. -/
theorem ofFold_le (mv : Int) (l : List Msg) : (∀ p ∈ (ofFold mv l).cnt, 0 ≤ p.2 ∧ p.2 ≤ l.length) ∧ 0 ≤ (ofFold mv l).out.ch ∧ (ofFold mv l).out.ch ≤ l.length := by
  suffices h : ∀ n, ∀ l : List Msg, l.length = n → (∀ p ∈ (ofFold mv l).cnt, 0 ≤ p.2 ∧ p.2 ≤ l.length) ∧ 0 ≤ (ofFold mv l).out.ch ∧ (ofFold mv l).out.ch ≤ l.length from h _ l rfl
  intro n
  induction n with
  | zero => intro l h; rw [List.eq_nil_of_length_eq_zero h]; exact ⟨by simp [ofFold, ofInit], by simp [ofFold, ofInit], by simp [ofFold, ofInit]⟩
  | succ n ih =>
    intro l h
    rcases List.eq_nil_or_concat l with rfl | ⟨l', m, rfl⟩
    · simp at h
    · rw [List.concat_eq_append, ofFold_snoc]
      obtain ⟨h1, h2, h3⟩ := ih l' (by simpa using h)
      generalize ofFold mv l' = s at h1 h2 h3
      have hb := fun x => bump_le s.cnt l'.length h1 (by omega) x
      rw [List.length_append, List.length_singleton]
      have h1' : ∀ p ∈ s.cnt, 0 ≤ p.2 ∧ p.2 ≤ ((l'.length + 1 : Nat) : Int) := fun p hp => by have := h1 p hp; omega
      unfold ofStep
      repeat' split
      all_goals refine ⟨?_, ?_, ?_⟩
      all_goals first | exact h1' | exact hb _ | ((try dsimp only); omega) | (intro p hp; have := hb _ p hp; push_cast; omega)
end Go.Proofs.Ytgcnklnhambpjaa
