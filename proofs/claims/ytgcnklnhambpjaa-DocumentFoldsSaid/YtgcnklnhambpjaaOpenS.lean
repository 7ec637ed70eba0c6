/- Arguments that are slices of messages, opened as lists. -/
import Derived.Test.YtgcnklnhambpjaaOpenV
namespace Go.Proofs.Ytgcnklnhambpjaa
open Go.RowKit Go.ChangeShapes Go.WideShapes Go.Deep
section
variable {H : Type} {enc : TypeId × Value → H} {P : Program} {w : World} {base : Nat} {spare : Nat → Bool} {held : Bool}
/-- A slice of structs of one-cell fields: each field's cell, with its own reading. -/
theorem openFields {t e : TypeId} {fs : Array Field} {fuel : Nat} {cs : List Value} {x : DataW H × List MemPlace} (ht : P.underlying t = some (.slice e)) (he : P.underlying e = some (.struct fs))
    (hone : oneCellFields P fs = true) (hC : P.cellsOf e = fs.size) (h : DataW.trod enc P w base spare held fuel t cs = some x) :
    cs = [.slice none 0 0] ∨
    ∃ (a : Addr) (len cap : Nat), cs = [.slice (some a) len cap] ∧ len ≤ cap ∧ cap ≤ maxLen ∧
      ∀ i, i < len → ∀ (j : Nat) (f : Field), fs[j]? = some f → ∃ (v : Value) (n : Nat) (y : DataW H × List MemPlace), w.cell? (a.add (i * fs.size + j)) = some v ∧ DataW.trod enc P w base spare held n f.type [v] = some y := by
  rcases open_slice ht h with h0 | ⟨a, len, cap, m, n, D, Pl, hcs, hb, hl, hm, hmm, hx, hi⟩
  · exact .inl h0.1
  · refine .inr ⟨a, len, cap, hcs, hl, hm, fun i him j f hj => ?_⟩
    have hlm : len ≤ m := by rw [hmm]; split <;> omega
    obtain ⟨cs', hc, ht'⟩ := hi i (by omega)
    rw [hC] at hc
    obtain ⟨ys, n', hn', hy, hlen, hyl, hf⟩ := DataW.trod_struct he ht'
    obtain ⟨_, hcl, hat⟩ := World.cells?_some hc
    obtain ⟨ho, hk⟩ := hone_of hone j f hj
    have hjl : j < fs.size := (Array.getElem?_eq_some_iff.1 hj).1
    have hcell := hat j hjl
    have hv : cs'[j]? = some (cs'[j]'(by omega)) := List.getElem?_eq_getElem (by omega)
    have h1 := hf j f hj
    rw [ho, hk] at h1
    have hone' : (cs'.drop j).take 1 = [cs'[j]'(by omega)] := by
      rw [List.drop_eq_getElem_cons (by omega)]
      rfl
    rw [hone'] at h1
    have hys : ys[j]? = some (ys[j]'(by omega)) := List.getElem?_eq_getElem (by omega)
    refine ⟨_, _, _, ?_, h1.trans hys⟩
    rw [← Go.Deep.add_add, hcell, hv]
end
/-- Element by element, as a list. -/
theorem Rd.of_elems {α : Type} [Inhabited α] {E : Enc α} {w : World} {a : Addr} {len : Nat} (hl : len ≤ 9223372036854775807) (h : ∀ i, i < len → ∃ x : α, ∀ c v, (E.enc x)[c]? = some v → w.cell? (a.add (i * E.k + c)) = some v) : ∃ xs : List α, xs.length = len ∧ Rd E w (some a) xs := by
  have h' : ∀ i : Nat, ∃ x : α, i < len → ∀ c v, (E.enc x)[c]? = some v → w.cell? (a.add (i * E.k + c)) = some v := fun i => by
    by_cases hi : i < len
    · obtain ⟨x, hx⟩ := h i hi; exact ⟨x, fun _ => hx⟩
    · exact ⟨default, fun h => absurd h hi⟩
  obtain ⟨f, hf⟩ := Classical.axiomOfChoice h'
  have hlen : ((List.range len).map f).length = len := by simp
  refine ⟨(List.range len).map f, hlen, by rw [hlen]; exact hl, fun _ => ⟨a, rfl, fun j v hv => ?_⟩⟩
  have hj : j < len * E.k := by
    have := (List.getElem?_eq_some_iff.1 hv).1
    rwa [E.flat_length, hlen] at this
  have hi : j / E.k < len := Nat.div_lt_of_lt_mul (by rwa [Nat.mul_comm])
  have hm : j % E.k < E.k := Nat.mod_lt _ E.pos
  have hx : ((List.range len).map f)[j / E.k]'(by rw [hlen]; exact hi) = f (j / E.k) := by simp
  have h1 : (E.enc (((List.range len).map f)[j / E.k]'(by rw [hlen]; exact hi)))[j % E.k]? = some ((E.enc (f (j / E.k)))[j % E.k]'(by rw [E.len]; exact hm)) := by
    rw [hx]; exact List.getElem?_eq_getElem _
  have h2 := E.flat_get _ (j / E.k) (j % E.k) (by rw [hlen]; exact hi) _ h1
  have hd : j / E.k * E.k + j % E.k = j := Nat.div_add_mod' j E.k
  rw [hd, hv] at h2
  simp only [Option.some.injEq] at h2
  have h3 := hf (j / E.k) hi (j % E.k) v (by rw [h2]; exact List.getElem?_eq_getElem _)
  rwa [hd] at h3
section
variable {H : Type} {enc : TypeId × Value → H} {w : World} {base : Nat} {spare : Nat → Bool} {held : Bool}
theorem openSMsg {r : Reach} {b0 : Nat} {v : Value} {d : DataW H} {p : List MemPlace} (hv : Value.okWide Try.prog w r b0 24 v) (h : DataW.Trod enc Try.prog w base spare held 24 v d p) : ∃ (A : Option Addr) (c : Nat) (xs : List Msg), v = .slice A xs.length c ∧ Rd EMsg w A xs := by
  obtain ⟨a, len, cap, rfl⟩ := okWide_slice Try.underlying24 hv
  obtain ⟨fuel, hf⟩ := h
  rcases openFields Try.underlying24 Try.underlying23 (by kernel_rfl) (by kernel_rfl) hf with h0 | ⟨x, l, c, hcs, hl, hm, hi⟩
  · simp [Value.cells] at h0
    obtain ⟨rfl, rfl, rfl⟩ := h0
    exact ⟨none, 0, [], rfl, Rd.nil _ _ _⟩
  · simp [Value.cells] at hcs
    obtain ⟨rfl, rfl, rfl⟩ := hcs
    obtain ⟨xs, hx, hR⟩ := Rd.of_elems (E := EMsg) (w := w) (a := x) (len := len) (by simp only [maxLen] at hm; omega) (fun i hil => by
      obtain ⟨u0, _, _, hu0, ht0⟩ := hi i hil 0 _ rfl
      obtain ⟨u1, _, _, hu1, ht1⟩ := hi i hil 1 _ rfl
      obtain ⟨u2, _, _, hu2, ht2⟩ := hi i hil 2 _ rfl
      obtain ⟨u3, _, _, hu3, ht3⟩ := hi i hil 3 _ rfl
      obtain ⟨u4, _, _, hu4, ht4⟩ := hi i hil 4 _ rfl
      obtain ⟨u5, _, _, hu5, ht5⟩ := hi i hil 5 _ rfl
      obtain ⟨u6, _, _, hu6, ht6⟩ := hi i hil 6 _ rfl
      obtain ⟨k0, rfl⟩ := intCell ht0
      obtain ⟨k1, rfl⟩ := intCell ht1
      obtain ⟨k2, rfl⟩ := intCell ht2
      obtain ⟨k3, rfl⟩ := intCell ht3
      obtain ⟨k4, rfl⟩ := intCell ht4
      obtain ⟨k5, rfl⟩ := intCell ht5
      obtain ⟨k6, rfl⟩ := intCell ht6
      refine ⟨⟨k0, k1, k2, k3, k4, k5, k6⟩, fun c v hcv => ?_⟩
      have hcv' : [Value.int .i64 k0, .int .i64 k1, .int .i64 k2, .int .i64 k3, .int .i64 k4, .int .i64 k5, .int .i64 k6][c]? = some v := hcv
      match c, hcv' with
      | 0, e => cases e; exact hu0
      | 1, e => cases e; exact hu1
      | 2, e => cases e; exact hu2
      | 3, e => cases e; exact hu3
      | 4, e => cases e; exact hu4
      | 5, e => cases e; exact hu5
      | 6, e => cases e; exact hu6
      | c + 7, e => simp at e)
    exact ⟨some x, cap, xs, by rw [hx], hR⟩
end
end Go.Proofs.Ytgcnklnhambpjaa
