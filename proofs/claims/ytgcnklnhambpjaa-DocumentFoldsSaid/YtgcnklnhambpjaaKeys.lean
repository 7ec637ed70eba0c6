/- Whole numbers and pairs of them as keys of maps. -/
import Derived.Test.YtgcnklnhambpjaaMapW
import Derived.Test.YtgcnklnhambpjaaEq
namespace Go.Proofs.Ytgcnklnhambpjaa
open Go.RowKit
theorem findNow_int (x : Int) : ∀ (es : List MapEntry) (n : Nat), (∀ e ∈ es, ∃ y : Int, e.key = .int .i64 y) →
    (Instr.findNow (.int .i64) (.int .i64 x) es n = some none ∧ ∀ e ∈ es, e.key ≠ .int .i64 x) ∨ ∃ j e, Instr.findNow (.int .i64) (.int .i64 x) es n = some (some (n + j, e.val)) ∧ es[j]? = some e ∧ e.key = .int .i64 x
  | [], n, _ => .inl ⟨rfl, by simp⟩
  | e :: es, n, h => by
    obtain ⟨y, hy⟩ := h e (by simp)
    by_cases hxy : x = y
    · subst hxy
      exact .inr ⟨0, e, by simp [Instr.findNow, Instr.sameNow, hy], rfl, hy⟩
    · rcases findNow_int x es (n + 1) (fun e' he' => h e' (by simp [he'])) with ⟨h1, h2⟩ | ⟨j, e', h1, h2, h3⟩
      · have hb : (x == y) = false := by simpa using hxy
        refine .inl ⟨by simp [Instr.findNow, Instr.sameNow, hy, hb, h1], fun e' he' => ?_⟩
        rcases List.mem_cons.1 he' with rfl | he'
        · rw [hy]; intro e; injection e with _ e; exact hxy e.symm
        · exact h2 e' he'
      · have hb : (x == y) = false := by simpa using hxy
        exact .inr ⟨j + 1, e', by simp [Instr.findNow, Instr.sameNow, hy, hb, h1]; omega, by simpa using h2, h3⟩
theorem checkKey_int {P : Program} {kt : TypeId} (hk : P.underlying kt = some (.int .i64)) (em : Bool) (n : Nat) (x : Int) (w : World) : (Instr.checkKey em (n + 1) kt (.int .i64 x)).run P w = .ok () w := by
  rw [Instr.checkKey]
  simp [run_underlying hk]
theorem keyInt {P : Program} {kt : TypeId} (hk : P.underlying kt = some (.int .i64)) : KeyOK P kt (fun x : Int => .int .i64 x) where
  chk em x w := checkKey_int hk em 9999 x w
  fnd x es w h := by
    rcases findNow_int x es 0 h with ⟨h1, h2⟩ | ⟨j, e, h1, h2, h3⟩
    · exact .inl ⟨by simp [Instr.findKey, run_underlying hk, h1], h2⟩
    · exact .inr ⟨j, e, by simp [Instr.findKey, run_underlying hk, h1], h2, h3⟩
  stays x w := by simp [Instr.keyThatStays, Instr.sameBits]
  inj x y h := by injection h
def pairV (x : Int × Int) : Value := .agg #[.int .i64 x.1, .int .i64 x.2]
theorem findAsking_pair {P : Program} {kt : TypeId} (he : ∀ (x y : Int × Int) (w : World), (Op.equal kt (pairV x) (pairV y)).run P w = .ok (decide (x = y)) w) (x : Int × Int) (w : World) : ∀ (es : List MapEntry) (n : Nat), (∀ e ∈ es, ∃ y : Int × Int, e.key = pairV y) →
    ((Instr.findAsking kt (pairV x) es n).run P w = .ok none w ∧ ∀ e ∈ es, e.key ≠ pairV x) ∨ ∃ j e, (Instr.findAsking kt (pairV x) es n).run P w = .ok (some (n + j, e.val)) w ∧ es[j]? = some e ∧ e.key = pairV x
  | [], n, _ => .inl ⟨by simp [Instr.findAsking], by simp⟩
  | e :: es, n, h => by
    obtain ⟨y, hy⟩ := h e (by simp)
    have hinj : ∀ a c : Int × Int, pairV a = pairV c → a = c := fun a c e => by
      simp only [pairV, Value.agg.injEq] at e
      injection e with e
      simp at e
      exact Prod.ext e.1 e.2
    by_cases hxy : x = y
    · subst hxy
      exact .inr ⟨0, e, by simp [Instr.findAsking, hy, he], rfl, hy⟩
    · rcases findAsking_pair he x w es (n + 1) (fun e' he' => h e' (by simp [he'])) with ⟨h1, h2⟩ | ⟨j, e', h1, h2, h3⟩
      · refine .inl ⟨by simp [Instr.findAsking, hy, he, hxy, h1], fun e' he' => ?_⟩
        rcases List.mem_cons.1 he' with rfl | he'
        · rw [hy]; intro e; exact hxy (hinj _ _ e).symm
        · exact h2 e' he'
      · exact .inr ⟨j + 1, e', by simp [Instr.findAsking, hy, he, hxy, h1]; omega, by simpa using h2, h3⟩
theorem keyPair {P : Program} {kt : TypeId} {fs : Array Field} (hk : P.underlying kt = some (.struct fs)) (hc : ∀ em x w, (Instr.checkKey em 10000 kt (pairV x)).run P w = .ok () w) (he : ∀ (x y : Int × Int) (w : World), (Op.equal kt (pairV x) (pairV y)).run P w = .ok (decide (x = y)) w) : KeyOK P kt pairV where
  chk := hc
  fnd x es w h := by
    have h0 : Instr.findNow (.struct fs) (pairV x) es 0 = none ∨ es = [] := by
      cases es with
      | nil => exact .inr rfl
      | cons e es => exact .inl (by simp [Instr.findNow, Instr.sameNow])
    rcases h0 with h0 | rfl
    · rcases findAsking_pair he x w es 0 h with ⟨h1, h2⟩ | ⟨j, e, h1, h2, h3⟩
      · exact .inl ⟨by simp [Instr.findKey, run_underlying hk, h0, h1], h2⟩
      · exact .inr ⟨j, e, by simp [Instr.findKey, run_underlying hk, h0, h1], h2, h3⟩
    · exact .inl ⟨by simp [Instr.findKey, run_underlying hk, Instr.findNow], by simp⟩
  stays x w := by simp [Instr.keyThatStays, Instr.sameBits, pairV]
  inj a c e := by
    simp only [pairV, Value.agg.injEq] at e
    injection e with e
    simp at e
    exact Prod.ext e.1 e.2
end Go.Proofs.Ytgcnklnhambpjaa
