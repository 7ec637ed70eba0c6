/- Arguments that are structs of whole numbers, opened: by value. -/
import Derived.Test.YtgcnklnhambpjaaM
import Derived.Deep.Slices
import Derived.Deep.Fields
import Derived.ChangeSame
import Derived.ChangeArms
import Derived.WideShapes
namespace Go.Proofs.Ytgcnklnhambpjaa
open Go.RowKit Go.ChangeShapes Go.WideShapes Go.Deep
section
variable {H : Type} {enc : TypeId × Value → H} {P : Program} {w : World} {base : Nat} {spare : Nat → Bool} {held : Bool}
theorem open_val_fields {r : Reach} {b0 : Nat} {t : TypeId} {fs : Array Field} {v : Value} {d : DataW H} {p : List MemPlace} (hs : P.underlying t = some (.struct fs)) (hone : oneCellFields P fs = true) (hC : P.cellsOf t = fs.size)
    (hv : Value.okWide P w r b0 t v) (h : DataW.Trod enc P w base spare held t v d p) :
    ∃ cs : Array Value, v = .agg cs ∧ cs.size = fs.size ∧ ∀ (j : Nat) (f : Field), fs[j]? = some f → ∃ (u : Value) (n : Nat) (y : DataW H × List MemPlace), cs[j]? = some u ∧ DataW.trod enc P w base spare held n f.type [u] = some y := by
  obtain ⟨cs, rfl, hsz⟩ := okWide_struct hs hv
  obtain ⟨fuel, hf⟩ := h
  obtain ⟨ys, n, _, hx, _, hlen, hg⟩ := DataW.trod_struct hs hf
  refine ⟨cs, rfl, hsz.trans hC, fun j f hj => ?_⟩
  obtain ⟨ho, hk⟩ := hone_of hone j f hj
  have hjl : j < fs.size := (Array.getElem?_eq_some_iff.1 hj).1
  have hjc : j < cs.size := by rw [hsz, hC]; exact hjl
  have h1 := hg j f hj
  rw [ho, hk] at h1
  have hone' : ((Value.cells (.agg cs)).toList.drop j).take 1 = [cs[j]] := by
    rw [List.drop_eq_getElem_cons (by simpa [Value.cells] using hjc)]
    simp [Value.cells]
  have h2 : DataW.trod enc P w base spare held n f.type [cs[j]] = ys[j]? := by rw [← hone']; exact h1
  have hys : ys[j]? = some (ys[j]'(by omega)) := List.getElem?_eq_getElem (by omega)
  exact ⟨cs[j], n, _, Array.getElem?_eq_getElem hjc, h2.trans hys⟩
end
section
variable {H : Type} {enc : TypeId × Value → H} {w : World} {base : Nat} {spare : Nat → Bool} {held : Bool}
theorem intCell {n : Nat} {u : Value} {y : DataW H × List MemPlace} (h : DataW.trod enc Try.prog w base spare held n 3 [u] = some y) : ∃ k : Int, u = .int .i64 k := by
  obtain ⟨k, hk, _⟩ := DataW.trod_int Try.underlying3 h
  simp only [List.cons.injEq, and_true] at hk
  exact ⟨k, hk⟩
theorem openDoc {r : Reach} {b0 : Nat} {v : Value} {d : DataW H} {p : List MemPlace} (hv : Value.okWide Try.prog w r b0 35 v) (h : DataW.Trod enc Try.prog w base spare held 35 v d p) : ∃ x : Doc, v = x.v := by
  obtain ⟨cs, rfl, hsz, hf⟩ := open_val_fields Try.underlying35 (by kernel_rfl) (by kernel_rfl) hv h
  obtain ⟨l⟩ := cs
  match l, hsz with
  | [c0, c1, c2, c3, c4, c5, c6], _ =>
    obtain ⟨u0, _, _, hu0, ht0⟩ := hf 0 _ rfl
    obtain ⟨u1, _, _, hu1, ht1⟩ := hf 1 _ rfl
    obtain ⟨u2, _, _, hu2, ht2⟩ := hf 2 _ rfl
    obtain ⟨u3, _, _, hu3, ht3⟩ := hf 3 _ rfl
    obtain ⟨u4, _, _, hu4, ht4⟩ := hf 4 _ rfl
    obtain ⟨u5, _, _, hu5, ht5⟩ := hf 5 _ rfl
    obtain ⟨u6, _, _, hu6, ht6⟩ := hf 6 _ rfl
    obtain ⟨k0, rfl⟩ := intCell ht0
    obtain ⟨k1, rfl⟩ := intCell ht1
    obtain ⟨k2, rfl⟩ := intCell ht2
    obtain ⟨k3, rfl⟩ := intCell ht3
    obtain ⟨k4, rfl⟩ := intCell ht4
    obtain ⟨k5, rfl⟩ := intCell ht5
    obtain ⟨k6, rfl⟩ := intCell ht6
    simp only [List.getElem?_toArray, List.getElem?_cons_zero, List.getElem?_cons_succ, Option.some.injEq] at hu0 hu1 hu2 hu3 hu4 hu5 hu6
    subst hu0 hu1 hu2 hu3 hu4 hu5 hu6
    exact ⟨⟨k0, k1, k2, k3, k4, k5, k6⟩, rfl⟩
theorem openMsg {r : Reach} {b0 : Nat} {v : Value} {d : DataW H} {p : List MemPlace} (hv : Value.okWide Try.prog w r b0 23 v) (h : DataW.Trod enc Try.prog w base spare held 23 v d p) : ∃ x : Msg, v = x.v := by
  obtain ⟨cs, rfl, hsz, hf⟩ := open_val_fields Try.underlying23 (by kernel_rfl) (by kernel_rfl) hv h
  obtain ⟨l⟩ := cs
  match l, hsz with
  | [c0, c1, c2, c3, c4, c5, c6], _ =>
    obtain ⟨u0, _, _, hu0, ht0⟩ := hf 0 _ rfl
    obtain ⟨u1, _, _, hu1, ht1⟩ := hf 1 _ rfl
    obtain ⟨u2, _, _, hu2, ht2⟩ := hf 2 _ rfl
    obtain ⟨u3, _, _, hu3, ht3⟩ := hf 3 _ rfl
    obtain ⟨u4, _, _, hu4, ht4⟩ := hf 4 _ rfl
    obtain ⟨u5, _, _, hu5, ht5⟩ := hf 5 _ rfl
    obtain ⟨u6, _, _, hu6, ht6⟩ := hf 6 _ rfl
    obtain ⟨k0, rfl⟩ := intCell ht0
    obtain ⟨k1, rfl⟩ := intCell ht1
    obtain ⟨k2, rfl⟩ := intCell ht2
    obtain ⟨k3, rfl⟩ := intCell ht3
    obtain ⟨k4, rfl⟩ := intCell ht4
    obtain ⟨k5, rfl⟩ := intCell ht5
    obtain ⟨k6, rfl⟩ := intCell ht6
    simp only [List.getElem?_toArray, List.getElem?_cons_zero, List.getElem?_cons_succ, Option.some.injEq] at hu0 hu1 hu2 hu3 hu4 hu5 hu6
    subst hu0 hu1 hu2 hu3 hu4 hu5 hu6
    exact ⟨⟨k0, k1, k2, k3, k4, k5, k6⟩, rfl⟩
end
end Go.Proofs.Ytgcnklnhambpjaa
