/- The structs of the document layer as lists of cells. -/
import Derived.Test.YtgcnklnhambpjaaB
namespace Go.Proofs.Ytgcnklnhambpjaa
open Go.RowKit

/-- api.Message -/
structure Msg where
  mv : Int
  kd : Int
  nu : Int
  dy : Int
  fr : Int
  tt : Int
  al : Int
  deriving DecidableEq, Inhabited
def Msg.cells (x : Msg) : List Value := [.int .i64 x.mv, .int .i64 x.kd, .int .i64 x.nu, .int .i64 x.dy, .int .i64 x.fr, .int .i64 x.tt, .int .i64 x.al]
def EMsg : Enc Msg := ⟨Msg.cells, 7, fun _ => rfl, fun x v h => by simp only [Msg.cells, List.mem_cons, List.not_mem_nil, or_false] at h; rcases h with rfl | rfl | rfl | rfl | rfl | rfl | rfl <;> rfl, by decide⟩
/-- As a value. -/
@[reducible] def Msg.v (x : Msg) : Value := .agg #[.int .i64 x.mv, .int .i64 x.kd, .int .i64 x.nu, .int .i64 x.dy, .int .i64 x.fr, .int .i64 x.tt, .int .i64 x.al]
theorem Msg.k_eq : EMsg.k = 7 := rfl
theorem Msg.at_ {w : World} {A : Option Addr} {xs : List Msg} (h : Rd EMsg w A xs) (i : Nat) (hi : i < xs.length) : ∃ ad, A = some ad ∧ w.cell? (ad.add (i * 7)) = some (.int .i64 xs[i].mv) ∧ w.cell? ⟨(ad.add (i * 7)).block, (ad.add (i * 7)).off + 1, none⟩ = some (.int .i64 xs[i].kd) ∧ w.cell? ⟨(ad.add (i * 7)).block, (ad.add (i * 7)).off + 2, none⟩ = some (.int .i64 xs[i].nu) ∧ w.cell? ⟨(ad.add (i * 7)).block, (ad.add (i * 7)).off + 3, none⟩ = some (.int .i64 xs[i].dy) ∧ w.cell? ⟨(ad.add (i * 7)).block, (ad.add (i * 7)).off + 4, none⟩ = some (.int .i64 xs[i].fr) ∧ w.cell? ⟨(ad.add (i * 7)).block, (ad.add (i * 7)).off + 5, none⟩ = some (.int .i64 xs[i].tt) ∧ w.cell? ⟨(ad.add (i * 7)).block, (ad.add (i * 7)).off + 6, none⟩ = some (.int .i64 xs[i].al) := by
  obtain ⟨ad, ha, hc⟩ := h.at_ i hi
  have hc' : ∀ c v, (Msg.cells xs[i])[c]? = some v → w.cell? (ad.add (i * 7 + c)) = some v := hc
  have g : ∀ c v, c ≠ 0 → (Msg.cells xs[i])[c]? = some v → w.cell? ⟨(ad.add (i * 7)).block, (ad.add (i * 7)).off + c, none⟩ = some v := fun c v h0 hv => by
    rw [← addr_add_pos _ c h0, addr_add_add]
    exact hc' c v hv
  exact ⟨ad, ha, hc' 0 _ rfl, g 1 _ (by decide) rfl, g 2 _ (by decide) rfl, g 3 _ (by decide) rfl, g 4 _ (by decide) rfl, g 5 _ (by decide) rfl, g 6 _ (by decide) rfl⟩

/-- api.Document -/
structure Doc where
  mv : Int
  st : Int
  fr : Int
  tt : Int
  se : Int
  re : Int
  ch : Int
  deriving DecidableEq, Inhabited
def Doc.cells (x : Doc) : List Value := [.int .i64 x.mv, .int .i64 x.st, .int .i64 x.fr, .int .i64 x.tt, .int .i64 x.se, .int .i64 x.re, .int .i64 x.ch]
def EDoc : Enc Doc := ⟨Doc.cells, 7, fun _ => rfl, fun x v h => by simp only [Doc.cells, List.mem_cons, List.not_mem_nil, or_false] at h; rcases h with rfl | rfl | rfl | rfl | rfl | rfl | rfl <;> rfl, by decide⟩
/-- As a value. -/
@[reducible] def Doc.v (x : Doc) : Value := .agg #[.int .i64 x.mv, .int .i64 x.st, .int .i64 x.fr, .int .i64 x.tt, .int .i64 x.se, .int .i64 x.re, .int .i64 x.ch]
theorem Doc.k_eq : EDoc.k = 7 := rfl
theorem Doc.at_ {w : World} {A : Option Addr} {xs : List Doc} (h : Rd EDoc w A xs) (i : Nat) (hi : i < xs.length) : ∃ ad, A = some ad ∧ w.cell? (ad.add (i * 7)) = some (.int .i64 xs[i].mv) ∧ w.cell? ⟨(ad.add (i * 7)).block, (ad.add (i * 7)).off + 1, none⟩ = some (.int .i64 xs[i].st) ∧ w.cell? ⟨(ad.add (i * 7)).block, (ad.add (i * 7)).off + 2, none⟩ = some (.int .i64 xs[i].fr) ∧ w.cell? ⟨(ad.add (i * 7)).block, (ad.add (i * 7)).off + 3, none⟩ = some (.int .i64 xs[i].tt) ∧ w.cell? ⟨(ad.add (i * 7)).block, (ad.add (i * 7)).off + 4, none⟩ = some (.int .i64 xs[i].se) ∧ w.cell? ⟨(ad.add (i * 7)).block, (ad.add (i * 7)).off + 5, none⟩ = some (.int .i64 xs[i].re) ∧ w.cell? ⟨(ad.add (i * 7)).block, (ad.add (i * 7)).off + 6, none⟩ = some (.int .i64 xs[i].ch) := by
  obtain ⟨ad, ha, hc⟩ := h.at_ i hi
  have hc' : ∀ c v, (Doc.cells xs[i])[c]? = some v → w.cell? (ad.add (i * 7 + c)) = some v := hc
  have g : ∀ c v, c ≠ 0 → (Doc.cells xs[i])[c]? = some v → w.cell? ⟨(ad.add (i * 7)).block, (ad.add (i * 7)).off + c, none⟩ = some v := fun c v h0 hv => by
    rw [← addr_add_pos _ c h0, addr_add_add]
    exact hc' c v hv
  exact ⟨ad, ha, hc' 0 _ rfl, g 1 _ (by decide) rfl, g 2 _ (by decide) rfl, g 3 _ (by decide) rfl, g 4 _ (by decide) rfl, g 5 _ (by decide) rfl, g 6 _ (by decide) rfl⟩
end Go.Proofs.Ytgcnklnhambpjaa
