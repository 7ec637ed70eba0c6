/- '==' of the structs of the document layer as equality. -/
import Derived.Test.YtgcnklnhambpjaaM
import Derived.Laws.StructEq
namespace Go.Proofs.Ytgcnklnhambpjaa
open Go.RowKit
section
variable {P : Program} {d : Nat} {xs ys : Array Value} {f : Field} {fs : List Field} {a b : Value} {r s : Bool} {w : World}
theorem eqFields_last (hn : (f.name == "_") = false) (ha : (part f.type xs f.offset).run P w = .ok a w) (hb : (part f.type ys f.offset).run P w = .ok b w) (he : (Op.equalIn d f.type a b).run P w = .ok r w) : (Op.eqFields d xs ys [f]).run P w = .ok r w := by
  have hn' : f.name ≠ "_" := by simpa using hn
  simp only [Op.eqFields, if_pos hn', Sem.run_bind, ha, hb, he, Result.andThen_ok]
  cases r <;> simp
theorem eqFields_cons (hn : (f.name == "_") = false) (ha : (part f.type xs f.offset).run P w = .ok a w) (hb : (part f.type ys f.offset).run P w = .ok b w) (he : (Op.equalIn d f.type a b).run P w = .ok r w) (hr : (Op.eqFields d xs ys fs).run P w = .ok s w) : (Op.eqFields d xs ys (f :: fs)).run P w = .ok (r && s) w := by
  have hn' : f.name ≠ "_" := by simpa using hn
  rw [Op.eqFields]
  simp only [if_pos hn', Sem.run_bind, ha, hb, he, Result.andThen_ok]
  cases r
  · simp
  · simpa using hr
theorem eqAgg_of {t : TypeId} {fs : Array Field} (hu : P.underlying t = some (.struct fs)) (hp : P.stoodInHeld t = false) (h : (Op.eqFields d xs ys fs.toList).run P w = .ok r w) : (Op.equalIn (d + 1) t (.agg xs) (.agg ys)).run P w = .ok r w := by
  have hf : P.fieldsOf t = fs := by simp [Program.fieldsOf, hu]
  rw [run_equalIn_struct (P := P) w d t xs ys (by rw [hf]; exact hu) hp, hf]
  exact h
end
theorem eqMsg (d : Nat) (w : World) (x y : Msg) :
    (Op.equalIn (d + 2) 23 (.agg #[.int .i64 x.mv, .int .i64 x.kd, .int .i64 x.nu, .int .i64 x.dy, .int .i64 x.fr, .int .i64 x.tt, .int .i64 x.al]) (.agg #[.int .i64 y.mv, .int .i64 y.kd, .int .i64 y.nu, .int .i64 y.dy, .int .i64 y.fr, .int .i64 y.tt, .int .i64 y.al])).run Try.prog w = .ok (decide (x = y)) w := by
  have e : decide (x = y) = (x.mv == y.mv && (x.kd == y.kd && (x.nu == y.nu && (x.dy == y.dy && (x.fr == y.fr && (x.tt == y.tt && (x.al == y.al))))))) := by
    obtain ⟨a0, a1, a2, a3, a4, a5, a6⟩ := x
    obtain ⟨b0, b1, b2, b3, b4, b5, b6⟩ := y
    rw [Bool.eq_iff_iff]
    simp
  rw [e]
  refine eqAgg_of Try.underlying23 (by kernel_rfl) ?_
  iterate 6 refine eqFields_cons (by rfl) (by go_simp; rfl) (by go_simp; rfl) (by go_simp) ?_
  exact eqFields_last (by rfl) (by go_simp; rfl) (by go_simp; rfl) (by go_simp)
theorem eqDoc (d : Nat) (w : World) (x y : Doc) :
    (Op.equalIn (d + 2) 35 (.agg #[.int .i64 x.mv, .int .i64 x.st, .int .i64 x.fr, .int .i64 x.tt, .int .i64 x.se, .int .i64 x.re, .int .i64 x.ch]) (.agg #[.int .i64 y.mv, .int .i64 y.st, .int .i64 y.fr, .int .i64 y.tt, .int .i64 y.se, .int .i64 y.re, .int .i64 y.ch])).run Try.prog w = .ok (decide (x = y)) w := by
  have e : decide (x = y) = (x.mv == y.mv && (x.st == y.st && (x.fr == y.fr && (x.tt == y.tt && (x.se == y.se && (x.re == y.re && (x.ch == y.ch))))))) := by
    obtain ⟨a0, a1, a2, a3, a4, a5, a6⟩ := x
    obtain ⟨b0, b1, b2, b3, b4, b5, b6⟩ := y
    rw [Bool.eq_iff_iff]
    simp
  rw [e]
  refine eqAgg_of Try.underlying35 (by kernel_rfl) ?_
  iterate 6 refine eqFields_cons (by rfl) (by go_simp; rfl) (by go_simp; rfl) (by go_simp) ?_
  exact eqFields_last (by rfl) (by go_simp; rfl) (by go_simp; rfl) (by go_simp)
end Go.Proofs.Ytgcnklnhambpjaa
