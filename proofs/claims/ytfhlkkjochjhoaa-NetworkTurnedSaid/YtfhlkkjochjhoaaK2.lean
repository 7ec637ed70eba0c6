/- Joined texts of the seat: contracts and plain laws that the rows import. -/
import Derived.Test.YtfhlkkjochjhoaaK1
import Derived.Laws.StructEq
import Derived.Deep.LoopGhost
import Derived.Deep.QuietTactic
import Derived.BigQuiet
import Derived.Shelf.Abstract
import Derived.Outline
import Derived.StillTailTactics
import Derived.RegionTactic
import Derived.Sort.Grow
import Derived.BigRegion
import Derived.Laws.CopyRow
import Derived.Lib.SliceRun
set_option linter.unusedVariables false
set_option linter.unusedSimpArgs false
/- '==' of the structs of the document layer as equality. -/
namespace Go.Proofs.Ytfhlkkjochjhoaa
open Go.RowKit
section
variable {P : Program} {d : Nat} {xs ys : Array Value} {f : Field} {fs : List Field} {a b : Value} {r s : Bool} {w : World}
theorem eqFields_last (hn : (f.name == "_") = false) (ha : (part f.type xs f.offset).run P w = .ok a w) (hb : (part f.type ys f.offset).run P w = .ok b w) (he : (Op.equalIn d f.type a b).run P w = .ok r w) : (Op.eqFields d xs ys [f]).run P w = .ok r w := by
  have hn' : f.name ≠ "_" := by simpa using hn
  simp only [Op.eqFields, if_pos hn', Sem.run_bind, ha, hb, he, Result.andThen_ok]
  cases r <;> simp
theorem eqFields_cons (hn : (f.name == "_") = false) (ha : (part f.type xs f.offset).run P w = .ok a w) (hb : (part f.type ys f.offset).run P w = .ok b w) (he : (Op.equalIn d f.type a b).run P w = .ok r w) (hr : (Op.eqFields d xs ys fs).run P w = .ok s w) : (Op.eqFields d xs ys (f :: fs)).run P w = .ok (r && s) w := by
  have hn' : f.name ≠ "_" := by simpa using hn
  rw [Op.eqFields]
  simp only [if_pos hn', Sem.run_bind, ha, hb, he, Result.andThen_ok]
  cases r
  · simp
  · simpa using hr
theorem eqAgg_of {t : TypeId} {fs : Array Field} (hu : P.underlying t = some (.struct fs)) (hp : P.stoodInHeld t = false) (h : (Op.eqFields d xs ys fs.toList).run P w = .ok r w) : (Op.equalIn (d + 1) t (.agg xs) (.agg ys)).run P w = .ok r w := by
  have hf : P.fieldsOf t = fs := by simp [Program.fieldsOf, hu]
  rw [run_equalIn_struct (P := P) w d t xs ys (by rw [hf]; exact hu) hp, hf]
  exact h
end
theorem eqMsg (d : Nat) (w : World) (x y : Msg) :
    (Op.equalIn (d + 2) 31 (.agg #[.int .i64 x.mv, .int .i64 x.kd, .int .i64 x.nu, .int .i64 x.dy, .int .i64 x.fr, .int .i64 x.tt, .int .i64 x.al]) (.agg #[.int .i64 y.mv, .int .i64 y.kd, .int .i64 y.nu, .int .i64 y.dy, .int .i64 y.fr, .int .i64 y.tt, .int .i64 y.al])).run Try.prog w = .ok (decide (x = y)) w := by
  have e : decide (x = y) = (x.mv == y.mv && (x.kd == y.kd && (x.nu == y.nu && (x.dy == y.dy && (x.fr == y.fr && (x.tt == y.tt && (x.al == y.al))))))) := by
    obtain ⟨a0, a1, a2, a3, a4, a5, a6⟩ := x
    obtain ⟨b0, b1, b2, b3, b4, b5, b6⟩ := y
    rw [Bool.eq_iff_iff]
    simp
  rw [e]
  refine eqAgg_of Try.underlying31 (by kernel_rfl) ?_
  iterate 6 refine eqFields_cons (by rfl) (by go_simp; rfl) (by go_simp; rfl) (by go_simp) ?_
  exact eqFields_last (by rfl) (by go_simp; rfl) (by go_simp; rfl) (by go_simp)
theorem eqDoc (d : Nat) (w : World) (x y : Doc) :
    (Op.equalIn (d + 2) 67 (.agg #[.int .i64 x.mv, .int .i64 x.st, .int .i64 x.fr, .int .i64 x.tt, .int .i64 x.se, .int .i64 x.re, .int .i64 x.ch]) (.agg #[.int .i64 y.mv, .int .i64 y.st, .int .i64 y.fr, .int .i64 y.tt, .int .i64 y.se, .int .i64 y.re, .int .i64 y.ch])).run Try.prog w = .ok (decide (x = y)) w := by
  have e : decide (x = y) = (x.mv == y.mv && (x.st == y.st && (x.fr == y.fr && (x.tt == y.tt && (x.se == y.se && (x.re == y.re && (x.ch == y.ch))))))) := by
    obtain ⟨a0, a1, a2, a3, a4, a5, a6⟩ := x
    obtain ⟨b0, b1, b2, b3, b4, b5, b6⟩ := y
    rw [Bool.eq_iff_iff]
    simp
  rw [e]
  refine eqAgg_of Try.underlying67 (by kernel_rfl) ?_
  iterate 6 refine eqFields_cons (by rfl) (by go_simp; rfl) (by go_simp; rfl) (by go_simp) ?_
  exact eqFields_last (by rfl) (by go_simp; rfl) (by go_simp; rfl) (by go_simp)
end Go.Proofs.Ytfhlkkjochjhoaa
/- Whole numbers and pairs of them as keys of maps. -/
namespace Go.Proofs.Ytfhlkkjochjhoaa
open Go.RowKit
theorem findNow_int (x : Int) : ∀ (es : List MapEntry) (n : Nat), (∀ e ∈ es, ∃ y : Int, e.key = .int .i64 y) →
    (Instr.findNow (.int .i64) (.int .i64 x) es n = some none ∧ ∀ e ∈ es, e.key ≠ .int .i64 x) ∨ ∃ j e, Instr.findNow (.int .i64) (.int .i64 x) es n = some (some (n + j, e.val)) ∧ es[j]? = some e ∧ e.key = .int .i64 x
  | [], n, _ => .inl ⟨rfl, by simp⟩
  | e :: es, n, h => by
    obtain ⟨y, hy⟩ := h e (by simp)
    by_cases hxy : x = y
    · subst hxy
      exact .inr ⟨0, e, by simp [Instr.findNow, Instr.sameNow, hy], rfl, hy⟩
    · rcases findNow_int x es (n + 1) (fun e' he' => h e' (by simp [he'])) with ⟨h1, h2⟩ | ⟨j, e', h1, h2, h3⟩
      · have hb : (x == y) = false := by simpa using hxy
        refine .inl ⟨by simp [Instr.findNow, Instr.sameNow, hy, hb, h1], fun e' he' => ?_⟩
        rcases List.mem_cons.1 he' with rfl | he'
        · rw [hy]; intro e; injection e with _ e; exact hxy e.symm
        · exact h2 e' he'
      · have hb : (x == y) = false := by simpa using hxy
        exact .inr ⟨j + 1, e', by simp [Instr.findNow, Instr.sameNow, hy, hb, h1]; omega, by simpa using h2, h3⟩
theorem checkKey_int {P : Program} {kt : TypeId} (hk : P.underlying kt = some (.int .i64)) (em : Bool) (n : Nat) (x : Int) (w : World) : (Instr.checkKey em (n + 1) kt (.int .i64 x)).run P w = .ok () w := by
  rw [Instr.checkKey]
  simp [run_underlying hk]
theorem keyInt {P : Program} {kt : TypeId} (hk : P.underlying kt = some (.int .i64)) : KeyOK P kt (fun x : Int => .int .i64 x) where
  chk em x w := checkKey_int hk em 9999 x w
  fnd x es w h := by
    rcases findNow_int x es 0 h with ⟨h1, h2⟩ | ⟨j, e, h1, h2, h3⟩
    · exact .inl ⟨by simp [Instr.findKey, run_underlying hk, h1], h2⟩
    · exact .inr ⟨j, e, by simp [Instr.findKey, run_underlying hk, h1], h2, h3⟩
  stays x w := by simp [Instr.keyThatStays, Instr.sameBits]
  inj x y h := by injection h
def pairV (x : Int × Int) : Value := .agg #[.int .i64 x.1, .int .i64 x.2]
theorem findAsking_pair {P : Program} {kt : TypeId} (he : ∀ (x y : Int × Int) (w : World), (Op.equal kt (pairV x) (pairV y)).run P w = .ok (decide (x = y)) w) (x : Int × Int) (w : World) : ∀ (es : List MapEntry) (n : Nat), (∀ e ∈ es, ∃ y : Int × Int, e.key = pairV y) →
    ((Instr.findAsking kt (pairV x) es n).run P w = .ok none w ∧ ∀ e ∈ es, e.key ≠ pairV x) ∨ ∃ j e, (Instr.findAsking kt (pairV x) es n).run P w = .ok (some (n + j, e.val)) w ∧ es[j]? = some e ∧ e.key = pairV x
  | [], n, _ => .inl ⟨by simp [Instr.findAsking], by simp⟩
  | e :: es, n, h => by
    obtain ⟨y, hy⟩ := h e (by simp)
    have hinj : ∀ a c : Int × Int, pairV a = pairV c → a = c := fun a c e => by
      simp only [pairV, Value.agg.injEq] at e
      injection e with e
      simp at e
      exact Prod.ext e.1 e.2
    by_cases hxy : x = y
    · subst hxy
      exact .inr ⟨0, e, by simp [Instr.findAsking, hy, he], rfl, hy⟩
    · rcases findAsking_pair he x w es (n + 1) (fun e' he' => h e' (by simp [he'])) with ⟨h1, h2⟩ | ⟨j, e', h1, h2, h3⟩
      · refine .inl ⟨by simp [Instr.findAsking, hy, he, hxy, h1], fun e' he' => ?_⟩
        rcases List.mem_cons.1 he' with rfl | he'
        · rw [hy]; intro e; exact hxy (hinj _ _ e).symm
        · exact h2 e' he'
      · exact .inr ⟨j + 1, e', by simp [Instr.findAsking, hy, he, hxy, h1]; omega, by simpa using h2, h3⟩
theorem keyPair {P : Program} {kt : TypeId} {fs : Array Field} (hk : P.underlying kt = some (.struct fs)) (hc : ∀ em x w, (Instr.checkKey em 10000 kt (pairV x)).run P w = .ok () w) (he : ∀ (x y : Int × Int) (w : World), (Op.equal kt (pairV x) (pairV y)).run P w = .ok (decide (x = y)) w) : KeyOK P kt pairV where
  chk := hc
  fnd x es w h := by
    have h0 : Instr.findNow (.struct fs) (pairV x) es 0 = none ∨ es = [] := by
      cases es with
      | nil => exact .inr rfl
      | cons e es => exact .inl (by simp [Instr.findNow, Instr.sameNow])
    rcases h0 with h0 | rfl
    · rcases findAsking_pair he x w es 0 h with ⟨h1, h2⟩ | ⟨j, e, h1, h2, h3⟩
      · exact .inl ⟨by simp [Instr.findKey, run_underlying hk, h0, h1], h2⟩
      · exact .inr ⟨j, e, by simp [Instr.findKey, run_underlying hk, h0, h1], h2, h3⟩
    · exact .inl ⟨by simp [Instr.findKey, run_underlying hk, Instr.findNow], by simp⟩
  stays x w := by simp [Instr.keyThatStays, Instr.sameBits, pairV]
  inj a c e := by
    simp only [pairV, Value.agg.injEq] at e
    injection e with e
    simp at e
    exact Prod.ext e.1 e.2
end Go.Proofs.Ytfhlkkjochjhoaa
/- slices.IndexFunc and slices.ContainsFunc over messages, whatever predicate they are handed that only makes memory. -/
namespace Go.Proofs.Ytfhlkkjochjhoaa
open Go.RowKit

variable {α : Type}
def fidx (p : α → Bool) (xs : List α) : Int := match xs.findIdx? p with | some i => (i : Int) | none => -1
theorem fidx_hit (p : α → Bool) (xs : List α) (k : Nat) (hk : k < xs.length) (hp : p xs[k] = true) (hb : ∀ j (hj : j < k), p (xs[j]'(by omega)) = false) : fidx p xs = k := by
  unfold fidx
  rw [List.findIdx?_eq_some_iff_getElem.2 ⟨hk, hp, fun j hj => by simp [hb j hj]⟩]
theorem fidx_miss (p : α → Bool) (xs : List α) (hb : ∀ j (hj : j < xs.length), p xs[j] = false) : fidx p xs = -1 := by
  unfold fidx
  rw [List.findIdx?_eq_none_iff.2 (fun x hx => by obtain ⟨i, hi, rfl⟩ := List.getElem_of_mem hx; exact hb i hi)]
theorem fidx_any (p : α → Bool) (xs : List α) : decide (0 ≤ fidx p xs) = xs.any p := by
  unfold fidx
  cases h : xs.findIdx? p with
  | none =>
    have h' := List.findIdx?_eq_none_iff.1 h
    simp only [show ¬ (0 : Int) ≤ -1 by omega, decide_false]
    symm; rw [List.any_eq_false]; intro x hx; simp [h' x hx]
  | some i =>
    obtain ⟨hi, hp, _⟩ := List.findIdx?_eq_some_iff_getElem.1 h
    simp only [Int.natCast_nonneg, decide_true]
    symm; rw [List.any_eq_true]; exact ⟨_, List.getElem_mem hi, hp⟩

set_option maxHeartbeats 1000000 in
theorem indexFuncM (xs : List Msg) (p : Msg → Bool) (g : Nat) (cb : Array Value) (A : Option Addr) (c : Nat) (w : World) (hR : Rd EMsg w A xs)
    (eg : ∀ args w, (callFunc g args).run Try.prog w = .ok (.enter g args) w)
    (hp : ∀ (x : Msg) (W : World), Below w.heap.size w W → Calls Try.prog g (#[x.v] ++ cb) W fun e W' => e = .returned (.bool (p x)) ∧ Below W.heap.size W W') :
    Calls Try.prog 65 #[.slice A xs.length c, .func (.func g) #[] cb] w fun e w' => e = .returned (.int .i64 (fidx p xs)) ∧ Below w.heap.size w w' := by
  have hle := hR.le
  go_enter Try.func65, Try.ntmps65
  go_wp2
  go_loopg [5, 8] xs.length (fun gg _ s8 wr => ∃ k : Nat, k ≤ xs.length ∧ xs.length - k ≤ gg ∧ s8 = .int .i64 k ∧ Hid (Below w.heap.size w wr) ∧ Hid (∀ j (_ : j < k) (hj : j < xs.length), p xs[j] = false))
  case atStart => exact ⟨0, Nat.zero_le _, by omega, rfl, Below.refl _ _, fun j hj => absurd hj (Nat.not_lt_zero _)⟩
  case round =>
    obtain ⟨k, hk, hg, rfl, BW, HA⟩ := hrel
    by_cases hlt : k < xs.length
    · obtain ⟨ad, rfl, c0, c1, c2, c3, c4, c5, c6⟩ := Msg.at_ (hR.below BW.out) k hlt
      have hcall := hp xs[k] _ BW.out
      have HX : Hid (Rd EMsg w (some ad) xs) := hR
      clear hR hp
      generalize hy : xs[k] = y at *
      have HY : Hid (xs[k] = y) := hy
      clear hy
      cases hq : p y with
      | true =>
        rw [hq] at hcall
        go_wp2_with (go_at_fn g; refine hcall.mono ?_; rintro e w' ⟨rfl, hb'⟩)
        go_ret
        refine ⟨?_, below_then BW.out BW.out.size hb'⟩
        rw [fidx_hit p xs k hlt (by rw [HY.out]; exact hq) (fun j hj => HA.out j hj (by omega))]
        rfl
      | false =>
        rw [hq] at hcall
        go_wp2_with (go_at_fn g; refine hcall.mono ?_; rintro e w' ⟨rfl, hb'⟩)
        go_roundg (xs.length - (k + 1))
        case measure => omega
        case rel =>
          refine ⟨k + 1, by omega, by omega, by go_num, below_then BW.out BW.out.size hb', (show Hid _ from fun j hj hj' => ?_)⟩
          by_cases e : j = k
          · subst e
            rw [HY.out]; exact hq
          · exact HA.out j (by omega) hj'
    · have : k = xs.length := by omega
      subst this
      go_wp2
      go_ret
      refine ⟨?_, BW.out⟩
      rw [fidx_miss p xs (fun j hj => HA.out j hj hj)]
      rfl

set_option maxHeartbeats 1000000 in
theorem containsFuncM (xs : List Msg) (p : Msg → Bool) (g : Nat) (cb : Array Value) (A : Option Addr) (c : Nat) (w : World) (hR : Rd EMsg w A xs)
    (eg : ∀ args w, (callFunc g args).run Try.prog w = .ok (.enter g args) w)
    (hp : ∀ (x : Msg) (W : World), Below w.heap.size w W → Calls Try.prog g (#[x.v] ++ cb) W fun e W' => e = .returned (.bool (p x)) ∧ Below W.heap.size W W') :
    Calls Try.prog 40 #[.slice A xs.length c, .func (.func g) #[] cb] w fun e w' => e = .returned (.bool (xs.any p)) ∧ Below w.heap.size w w' := by
  rw [← fidx_any]
  have hcon := indexFuncM xs p g cb A c w hR eg hp
  clear hR hp eg
  generalize fidx p xs = r at hcon ⊢
  go_enter Try.func40, Try.ntmps40
  go_wp2_with (go_at_call 65; refine hcon.mono ?_; rintro e w' ⟨rfl, hb'⟩)
  go_ret
  exact ⟨rfl, hb'⟩
end Go.Proofs.Ytfhlkkjochjhoaa
/- compare of messages, and cmp.Or, cmp.Compare at int. -/
namespace Go.Proofs.Ytfhlkkjochjhoaa
open Go.RowKit

def cmpI (x y : Int) : Int := if x < y then -1 else if y < x then 1 else 0
set_option maxHeartbeats 1000000 in
theorem isNaN_any (n : Int) (w : World) : Calls Try.prog 91 #[.int .i64 n] w fun e w' => e = .returned (.bool false) ∧ w = w' := by
  go_enter Try.func91, Try.ntmps91
  go_wp2
  go_ret
  exact ⟨by simp, rfl⟩
set_option maxHeartbeats 1000000 in
theorem compareI_any (x y : Int) (w : World) : Calls Try.prog 77 #[.int .i64 x, .int .i64 y] w fun e w' => e = .returned (.int .i64 (cmpI x y)) ∧ w = w' := by
  go_enter Try.func77, Try.ntmps77
  go_wp2_with (go_at_call 91; refine (isNaN_any _ _).mono ?_; rintro e w' ⟨rfl, rfl⟩)
  all_goals (go_ret; refine ⟨ret_i ?_, rfl⟩; simp only [cmpI]; (repeat (first | rw [if_pos (by omega)] | rw [if_neg (by omega)])))

def EI : Enc Int := ⟨fun x => [.int .i64 x], 1, fun _ => rfl, fun x v h => by simp only [List.mem_cons, List.not_mem_nil, or_false] at h; rw [h]; rfl, by decide⟩
theorem I.at_ {w : World} {A : Option Addr} {xs : List Int} (h : Rd EI w A xs) (i : Nat) (hi : i < xs.length) : ∃ ad, A = some ad ∧ w.cell? (ad.add i) = some (.int .i64 xs[i]) := by
  obtain ⟨ad, ha, hc⟩ := h.at_ i hi
  exact ⟨ad, ha, by simpa [EI] using hc 0 _ rfl⟩
/-- The first that is not 0. -/
def orI (l : List Int) : Int := match l.find? (fun x => x != 0) with | some x => x | none => 0
theorem orI_hit (l : List Int) (k : Nat) (hk : k < l.length) (hp : l[k] ≠ 0) (hb : ∀ j (hj : j < k), l[j]'(by omega) = 0) : orI l = l[k] := by
  induction l generalizing k with
  | nil => simp at hk
  | cons x l ih =>
    unfold orI
    cases k with
    | zero => rw [List.find?_cons_of_pos (by simpa using hp)]; rfl
    | succ k =>
      have h0 : x = 0 := hb 0 (by omega)
      rw [List.find?_cons_of_neg (by simp [h0])]
      exact ih k (by simpa using hk) hp (fun j hj => hb (j + 1) (by omega))
theorem orI_miss (l : List Int) (hb : ∀ j (hj : j < l.length), l[j] = 0) : orI l = 0 := by
  unfold orI
  rw [List.find?_eq_none.2 (fun x hx => by obtain ⟨i, hi, rfl⟩ := List.getElem_of_mem hx; simp [hb i hi])]
set_option maxHeartbeats 1000000 in
theorem or_any (xs : List Int) (A : Option Addr) (c : Nat) (w : World) (hR : Rd EI w A xs) : Calls Try.prog 76 #[.slice A xs.length c] w fun e w' => e = .returned (.int .i64 (orI xs)) ∧ w = w' := by
  have hle := hR.le
  go_enter Try.func76, Try.ntmps76
  go_wp2
  go_loopg [5, 8] xs.length (fun gg _ s8 wr => ∃ k : Nat, k ≤ xs.length ∧ xs.length - k ≤ gg ∧ s8 = .int .i64 k ∧ w = wr ∧ Hid (∀ j (_ : j < k) (hj : j < xs.length), xs[j] = 0))
  case atStart => exact ⟨0, Nat.zero_le _, by omega, rfl, rfl, fun j hj => absurd hj (Nat.not_lt_zero _)⟩
  case round =>
    obtain ⟨k, hk, hg, rfl, rfl, HA⟩ := hrel
    by_cases hlt : k < xs.length
    · obtain ⟨ad, rfl, c0⟩ := I.at_ hR k hlt
      have HX : Hid (Rd EI w (some ad) xs) := hR
      clear hR
      generalize hy : xs[k] = y at *
      have HY : Hid (xs[k] = y) := hy
      clear hy
      by_cases h0 : y = 0
      · subst h0
        go_wp2
        go_roundg (xs.length - (k + 1))
        case measure => omega
        case rel =>
          refine ⟨k + 1, by omega, by omega, by go_num, rfl, (show Hid _ from fun j hj hj' => ?_)⟩
          by_cases e : j = k
          · subst e
            exact HY.out
          · exact HA.out j (by omega) hj'
      · have h1 : (y != 0) = true := by simpa using h0
        have H0 : Hid (y ≠ 0) := h0
        clear h0
        go_wp2
        go_ret
        refine ⟨?_, rfl⟩
        rw [orI_hit xs k hlt (by rw [HY.out]; exact H0.out) (fun j hj => HA.out j hj (by omega)), HY.out]
        rfl
    · have : k = xs.length := by omega
      subst this
      go_wp2
      go_ret
      refine ⟨?_, rfl⟩
      rw [orI_miss xs (fun j hj => HA.out j hj hj)]
      rfl
end Go.Proofs.Ytfhlkkjochjhoaa
/- document.node and document.Check: what they return for every message. -/
namespace Go.Proofs.Ytfhlkkjochjhoaa
open Go.RowKit
def nodeB (n : Int) : Bool := decide (1 ≤ n ∧ n ≤ 99)
set_option maxHeartbeats 1000000 in
theorem node_any (n : Int) (w : World) : Calls Try.prog 67 #[.int .i64 n] w fun e w' => e = .returned (.bool (nodeB n)) ∧ w = w' := by
  go_enter Try.func67, Try.ntmps67
  go_wp2
  all_goals (go_ret; refine ⟨ret_b ?_, rfl⟩; simp [nodeB]; try omega)
/-- The error of a message. -/
def chkM (m : Msg) : Int :=
  if m.mv < 1 ∨ m.mv > 1073741824 ∨ m.kd < 1 ∨ m.kd > 5 ∨ m.dy < 0 ∨ m.dy > 100000 then 2
  else if m.kd = 1 then (if m.nu = 0 ∧ nodeB m.fr = true ∧ nodeB m.tt = true ∧ m.fr ≠ m.tt ∧ 1 ≤ m.al ∧ m.al ≤ 10737418240000 then 0 else 1)
  else if m.kd = 2 then (if 1 ≤ m.nu ∧ m.nu ≤ 64 ∧ m.fr = 0 ∧ nodeB m.tt = true ∧ m.al = 0 then 0 else 1)
  else if m.kd = 3 then (if m.nu = 0 ∧ m.fr = 0 ∧ m.tt = 0 ∧ 0 ≤ m.al ∧ m.al ≤ 10737418240000 then 0 else 1)
  else (if m.nu = 0 ∧ m.fr = 0 ∧ m.tt = 0 ∧ m.al = 0 then 0 else 1)

end Go.Proofs.Ytfhlkkjochjhoaa
/- document.Check: what it returns for every message. -/
namespace Go.Proofs.Ytfhlkkjochjhoaa
open Go.RowKit
def ChkPost (m : Msg) (w : World) (e : Ending) (w' : World) : Prop := e = .returned (.int .i64 (chkM m)) ∧ Below w.heap.size w w'
set_option maxHeartbeats 4000000 in
set_option maxRecDepth 100000 in
theorem check_range (m : Msg) (w : World) (h : m.mv < 1 ∨ m.mv > 1073741824 ∨ m.kd < 1 ∨ m.kd > 5 ∨ m.dy < 0 ∨ m.dy > 100000) : Calls Try.prog 47 #[m.v] w (ChkPost m w) := by
  have hc : chkM m = 2 := by unfold chkM; rw [if_pos h]
  have HC := hid_of hc
  have HH := hid_of h
  clear hc h
  obtain ⟨a0, a1, a2, a3, a4, a5, a6⟩ := m
  go_enter Try.func47, Try.ntmps47
  by_cases h0 : a0 < 1
  · go_wp2
    go_ret
    exact ⟨ret_i HC.out.symm, (Below.refl _ _).alloc (Nat.le_refl _) _⟩
  by_cases h1 : a0 > 1073741824
  · go_wp2
    go_ret
    exact ⟨ret_i HC.out.symm, (Below.refl _ _).alloc (Nat.le_refl _) _⟩
  by_cases h2 : a1 < 1
  · go_wp2
    go_ret
    exact ⟨ret_i HC.out.symm, (Below.refl _ _).alloc (Nat.le_refl _) _⟩
  by_cases h3 : a1 > 5
  · go_wp2
    go_ret
    exact ⟨ret_i HC.out.symm, (Below.refl _ _).alloc (Nat.le_refl _) _⟩
  by_cases h4 : a3 < 0
  · go_wp2
    go_ret
    exact ⟨ret_i HC.out.symm, (Below.refl _ _).alloc (Nat.le_refl _) _⟩
  · have h5 : a3 > 100000 := by have := HH.out; dsimp only at this; omega
    go_wp2
    go_ret
    exact ⟨ret_i HC.out.symm, (Below.refl _ _).alloc (Nat.le_refl _) _⟩
end Go.Proofs.Ytfhlkkjochjhoaa
/- document.Check: what it returns for every message. -/
namespace Go.Proofs.Ytfhlkkjochjhoaa
open Go.RowKit
theorem chk_k1 (m : Msg) (h : ¬ (m.mv < 1 ∨ m.mv > 1073741824 ∨ m.kd < 1 ∨ m.kd > 5 ∨ m.dy < 0 ∨ m.dy > 100000)) (hk : m.kd = 1) : chkM m = (if m.nu = 0 ∧ nodeB m.fr = true ∧ nodeB m.tt = true ∧ m.fr ≠ m.tt ∧ 1 ≤ m.al ∧ m.al ≤ 10737418240000 then 0 else 1) := by
  unfold chkM; rw [if_neg h, if_pos hk]
set_option maxHeartbeats 8000000 in
set_option maxRecDepth 100000 in
theorem check_k1 (m : Msg) (w : World) (h : ¬ (m.mv < 1 ∨ m.mv > 1073741824 ∨ m.kd < 1 ∨ m.kd > 5 ∨ m.dy < 0 ∨ m.dy > 100000)) (hk : m.kd = 1) : Calls Try.prog 47 #[m.v] w (ChkPost m w) := by
  unfold ChkPost
  have hc0 := chk_k1 m h hk
  generalize chkM m = r at hc0 ⊢
  have HC := hid_of hc0
  clear hc0
  obtain ⟨a0, a1, a2, a3, a4, a5, a6⟩ := m
  dsimp only at h hk
  subst hk
  have h0 : 1 ≤ a0 := by omega
  have h1 : a0 ≤ 1073741824 := by omega
  have h4 : 0 ≤ a3 := by omega
  have h5 : a3 ≤ 100000 := by omega
  clear h
  go_enter Try.func47, Try.ntmps47
  go_wp2
  go_big_region
  all_goals go_wp2_with (go_at_call 67; refine (node_any _ _).mono ?_; rintro e w' ⟨rfl, rfl⟩)
  all_goals go_ret
  all_goals refine ⟨ret_i ?_, by repeat (first | exact Below.refl _ _ | apply Below.drew | refine Below.alloc ?_ (by simp) _)⟩
  all_goals rw [HC.out]
  all_goals (split <;> rename_i hq <;> first | rfl | (exfalso; omega) | (exfalso; simp_all; done) | (exfalso; simp_all <;> omega))

theorem chk_k2 (m : Msg) (h : ¬ (m.mv < 1 ∨ m.mv > 1073741824 ∨ m.kd < 1 ∨ m.kd > 5 ∨ m.dy < 0 ∨ m.dy > 100000)) (hk : m.kd = 2) : chkM m = (if 1 ≤ m.nu ∧ m.nu ≤ 64 ∧ m.fr = 0 ∧ nodeB m.tt = true ∧ m.al = 0 then 0 else 1) := by
  unfold chkM; rw [if_neg h, if_neg (by omega), if_pos hk]
set_option maxHeartbeats 8000000 in
set_option maxRecDepth 100000 in
theorem check_k2 (m : Msg) (w : World) (h : ¬ (m.mv < 1 ∨ m.mv > 1073741824 ∨ m.kd < 1 ∨ m.kd > 5 ∨ m.dy < 0 ∨ m.dy > 100000)) (hk : m.kd = 2) : Calls Try.prog 47 #[m.v] w (ChkPost m w) := by
  unfold ChkPost
  have hc0 := chk_k2 m h hk
  generalize chkM m = r at hc0 ⊢
  have HC := hid_of hc0
  clear hc0
  obtain ⟨a0, a1, a2, a3, a4, a5, a6⟩ := m
  dsimp only at h hk
  subst hk
  have h0 : 1 ≤ a0 := by omega
  have h1 : a0 ≤ 1073741824 := by omega
  have h4 : 0 ≤ a3 := by omega
  have h5 : a3 ≤ 100000 := by omega
  clear h
  go_enter Try.func47, Try.ntmps47
  go_wp2
  go_big_region
  all_goals go_wp2_with (go_at_call 67; refine (node_any _ _).mono ?_; rintro e w' ⟨rfl, rfl⟩)
  all_goals go_ret
  all_goals refine ⟨ret_i ?_, by repeat (first | exact Below.refl _ _ | apply Below.drew | refine Below.alloc ?_ (by simp) _)⟩
  all_goals rw [HC.out]
  all_goals (split <;> rename_i hq <;> first | rfl | (exfalso; omega) | (exfalso; simp_all; done) | (exfalso; simp_all <;> omega))

theorem chk_k3 (m : Msg) (h : ¬ (m.mv < 1 ∨ m.mv > 1073741824 ∨ m.kd < 1 ∨ m.kd > 5 ∨ m.dy < 0 ∨ m.dy > 100000)) (hk : m.kd = 3) : chkM m = (if m.nu = 0 ∧ m.fr = 0 ∧ m.tt = 0 ∧ 0 ≤ m.al ∧ m.al ≤ 10737418240000 then 0 else 1) := by
  unfold chkM; rw [if_neg h, if_neg (by omega), if_neg (by omega), if_pos hk]
set_option maxHeartbeats 8000000 in
set_option maxRecDepth 100000 in
theorem check_k3 (m : Msg) (w : World) (h : ¬ (m.mv < 1 ∨ m.mv > 1073741824 ∨ m.kd < 1 ∨ m.kd > 5 ∨ m.dy < 0 ∨ m.dy > 100000)) (hk : m.kd = 3) : Calls Try.prog 47 #[m.v] w (ChkPost m w) := by
  unfold ChkPost
  have hc0 := chk_k3 m h hk
  generalize chkM m = r at hc0 ⊢
  have HC := hid_of hc0
  clear hc0
  obtain ⟨a0, a1, a2, a3, a4, a5, a6⟩ := m
  dsimp only at h hk
  subst hk
  have h0 : 1 ≤ a0 := by omega
  have h1 : a0 ≤ 1073741824 := by omega
  have h4 : 0 ≤ a3 := by omega
  have h5 : a3 ≤ 100000 := by omega
  clear h
  go_enter Try.func47, Try.ntmps47
  go_wp2
  all_goals go_ret
  all_goals refine ⟨ret_i ?_, by repeat (first | exact Below.refl _ _ | apply Below.drew | refine Below.alloc ?_ (by simp) _)⟩
  all_goals rw [HC.out]
  all_goals (split <;> rename_i hq <;> first | rfl | (exfalso; omega) | (exfalso; simp_all; done) | (exfalso; simp_all <;> omega))

theorem chk_k4 (m : Msg) (h : ¬ (m.mv < 1 ∨ m.mv > 1073741824 ∨ m.kd < 1 ∨ m.kd > 5 ∨ m.dy < 0 ∨ m.dy > 100000)) (hk : m.kd = 4) : chkM m = (if m.nu = 0 ∧ m.fr = 0 ∧ m.tt = 0 ∧ m.al = 0 then 0 else 1) := by
  unfold chkM; rw [if_neg h, if_neg (by omega), if_neg (by omega), if_neg (by omega)]
set_option maxHeartbeats 8000000 in
set_option maxRecDepth 100000 in
theorem check_k4 (m : Msg) (w : World) (h : ¬ (m.mv < 1 ∨ m.mv > 1073741824 ∨ m.kd < 1 ∨ m.kd > 5 ∨ m.dy < 0 ∨ m.dy > 100000)) (hk : m.kd = 4) : Calls Try.prog 47 #[m.v] w (ChkPost m w) := by
  unfold ChkPost
  have hc0 := chk_k4 m h hk
  generalize chkM m = r at hc0 ⊢
  have HC := hid_of hc0
  clear hc0
  obtain ⟨a0, a1, a2, a3, a4, a5, a6⟩ := m
  dsimp only at h hk
  subst hk
  have h0 : 1 ≤ a0 := by omega
  have h1 : a0 ≤ 1073741824 := by omega
  have h4 : 0 ≤ a3 := by omega
  have h5 : a3 ≤ 100000 := by omega
  clear h
  go_enter Try.func47, Try.ntmps47
  go_wp2
  all_goals go_ret
  all_goals refine ⟨ret_i ?_, by repeat (first | exact Below.refl _ _ | apply Below.drew | refine Below.alloc ?_ (by simp) _)⟩
  all_goals rw [HC.out]
  all_goals (split <;> rename_i hq <;> first | rfl | (exfalso; omega) | (exfalso; simp_all; done) | (exfalso; simp_all <;> omega))

theorem chk_k5 (m : Msg) (h : ¬ (m.mv < 1 ∨ m.mv > 1073741824 ∨ m.kd < 1 ∨ m.kd > 5 ∨ m.dy < 0 ∨ m.dy > 100000)) (hk : m.kd = 5) : chkM m = (if m.nu = 0 ∧ m.fr = 0 ∧ m.tt = 0 ∧ m.al = 0 then 0 else 1) := by
  unfold chkM; rw [if_neg h, if_neg (by omega), if_neg (by omega), if_neg (by omega)]
set_option maxHeartbeats 8000000 in
set_option maxRecDepth 100000 in
theorem check_k5 (m : Msg) (w : World) (h : ¬ (m.mv < 1 ∨ m.mv > 1073741824 ∨ m.kd < 1 ∨ m.kd > 5 ∨ m.dy < 0 ∨ m.dy > 100000)) (hk : m.kd = 5) : Calls Try.prog 47 #[m.v] w (ChkPost m w) := by
  unfold ChkPost
  have hc0 := chk_k5 m h hk
  generalize chkM m = r at hc0 ⊢
  have HC := hid_of hc0
  clear hc0
  obtain ⟨a0, a1, a2, a3, a4, a5, a6⟩ := m
  dsimp only at h hk
  subst hk
  have h0 : 1 ≤ a0 := by omega
  have h1 : a0 ≤ 1073741824 := by omega
  have h4 : 0 ≤ a3 := by omega
  have h5 : a3 ≤ 100000 := by omega
  clear h
  go_enter Try.func47, Try.ntmps47
  go_wp2
  all_goals go_ret
  all_goals refine ⟨ret_i ?_, by repeat (first | exact Below.refl _ _ | apply Below.drew | refine Below.alloc ?_ (by simp) _)⟩
  all_goals rw [HC.out]
  all_goals (split <;> rename_i hq <;> first | rfl | (exfalso; omega) | (exfalso; simp_all; done) | (exfalso; simp_all <;> omega))

/-- What document.Check returns, for every message; it only makes memory. -/
theorem check_any (m : Msg) (w : World) : Calls Try.prog 47 #[m.v] w (ChkPost m w) := by
  by_cases h : m.mv < 1 ∨ m.mv > 1073741824 ∨ m.kd < 1 ∨ m.kd > 5 ∨ m.dy < 0 ∨ m.dy > 100000
  · exact check_range m w h
  · have : m.kd = 1 ∨ m.kd = 2 ∨ m.kd = 3 ∨ m.kd = 4 ∨ m.kd = 5 := by omega
    rcases this with hk | hk | hk | hk | hk
    · exact check_k1 m w h hk
    · exact check_k2 m w h hk
    · exact check_k3 m w h hk
    · exact check_k4 m w h hk
    · exact check_k5 m w h hk
end Go.Proofs.Ytfhlkkjochjhoaa
/- The keys of the counts of a movement's messages. -/
namespace Go.Proofs.Ytfhlkkjochjhoaa
open Go.RowKit
theorem eqPart (d : Nat) (w : World) (x y : Int × Int) :
    (Op.equalIn (d + 2) 102 (.agg #[.int .i64 x.1, .int .i64 x.2]) (.agg #[.int .i64 y.1, .int .i64 y.2])).run Try.prog w = .ok (decide (x = y)) w := by
  have e : decide (x = y) = (x.1 == y.1 && x.2 == y.2) := by
    obtain ⟨a0, a1⟩ := x
    obtain ⟨b0, b1⟩ := y
    rw [Bool.eq_iff_iff]
    simp
  rw [e]
  refine eqAgg_of Try.underlying102 (by kernel_rfl) ?_
  refine eqFields_cons (by rfl) (by go_simp; rfl) (by go_simp; rfl) (by go_simp) ?_
  exact eqFields_last (by rfl) (by go_simp; rfl) (by go_simp; rfl) (by go_simp)
theorem checkPart (em : Bool) (x : Int × Int) (w : World) : (Instr.checkKey em 10000 102 (pairV x)).run Try.prog w = .ok () w := by
  have h := fun y => checkKey_int Try.underlying3 em 9998 y w
  unfold pairV
  show (Instr.checkKey em (9999 + 1) _ _).run _ _ = _
  rw [Instr.checkKey]
  go_simp
theorem keyPart : KeyOK Try.prog 102 pairV :=
  keyPair Try.underlying102 checkPart (fun x y w => eqPart 9998 w x y)
end Go.Proofs.Ytfhlkkjochjhoaa
/- The document of a movement by different messages: what the code computes, as a fold. -/
namespace Go.Proofs.Ytfhlkkjochjhoaa
open Go.RowKit
structure OfS where
  out : Doc
  cnt : List ((Int × Int) × Int)
  ended : Bool
  ans : Int
def bump (c : List ((Int × Int) × Int)) (x : Int × Int) : List ((Int × Int) × Int) := mput c x ((mget c x).getD 0 + 1)
def ofStep (mv : Int) (s : OfS) (m : Msg) : OfS :=
  if m.mv ≠ mv then s
  else if m.kd = 1 then { s with out := { s.out with st := 1, fr := m.fr, tt := m.tt, se := m.al }, cnt := bump s.cnt (m.kd, m.nu) }
  else if m.kd = 2 then { s with out := { s.out with tt := m.tt, ch := s.out.ch + 1 }, cnt := bump s.cnt (m.kd, m.nu) }
  else if m.kd = 3 then { s with out := { s.out with re := m.al }, ans := 2, cnt := bump s.cnt (m.kd, m.nu) }
  else if m.kd = 4 then { s with ans := 3, cnt := bump s.cnt (3, m.nu) }
  else if m.kd = 5 then { s with ended := true }
  else { s with cnt := bump s.cnt (m.kd, m.nu) }
def ofInit (mv : Int) : OfS := ⟨⟨mv, 0, 0, 0, 0, 0, 0⟩, [], false, 0⟩
def ofFold (mv : Int) (l : List Msg) : OfS := l.foldl (ofStep mv) (ofInit mv)
def ofEnd (mv : Int) (s : OfS) : Doc :=
  if s.out.st = 0 then ⟨mv, 0, 0, 0, 0, 0, 0⟩
  else if s.cnt.any (fun p => decide (1 < p.2)) = true then ⟨mv, 5, 0, 0, 0, 0, 0⟩
  else if s.ans = 0 then s.out
  else if s.ended = true then { s.out with st := 4 }
  else { s.out with st := s.ans }
def ofR (mv : Int) (l : List Msg) : Doc := ofEnd mv (ofFold mv l)
theorem ofFold_snoc (mv : Int) (l : List Msg) (m : Msg) : ofFold mv (l ++ [m]) = ofStep mv (ofFold mv l) m := by unfold ofFold; rw [List.foldl_append]; rfl
theorem mget_bump_le (c : List ((Int × Int) × Int)) (k : Int) (h : ∀ p ∈ c, 0 ≤ p.2 ∧ p.2 ≤ k) (hk : 0 ≤ k) (x : Int × Int) : 0 ≤ (mget c x).getD 0 ∧ (mget c x).getD 0 ≤ k := by
  unfold mget
  cases hf : c.find? (fun p => decide (p.1 = x)) with
  | none => exact ⟨Int.le_refl _, hk⟩
  | some p => exact h p (List.mem_of_find?_eq_some hf)
theorem bump_le (c : List ((Int × Int) × Int)) (k : Int) (h : ∀ p ∈ c, 0 ≤ p.2 ∧ p.2 ≤ k) (hk : 0 ≤ k) (x : Int × Int) : ∀ p ∈ bump c x, 0 ≤ p.2 ∧ p.2 ≤ k + 1 := by
  have hg := mget_bump_le c k h hk x
  intro p hp
  unfold bump mput at hp
  split at hp
  · obtain ⟨q, hq, rfl⟩ := List.mem_map.1 hp
    have := h q hq
    split
    · dsimp only; omega
    · omega
  · rcases List.mem_append.1 hp with hp | hp
    · have := h p hp; omega
    · simp only [List.mem_singleton] at hp; subst hp; dsimp only; omega
/-- Bounds on what is counted. -/
theorem ofFold_le (mv : Int) (l : List Msg) : (∀ p ∈ (ofFold mv l).cnt, 0 ≤ p.2 ∧ p.2 ≤ l.length) ∧ 0 ≤ (ofFold mv l).out.ch ∧ (ofFold mv l).out.ch ≤ l.length := by
  suffices h : ∀ n, ∀ l : List Msg, l.length = n → (∀ p ∈ (ofFold mv l).cnt, 0 ≤ p.2 ∧ p.2 ≤ l.length) ∧ 0 ≤ (ofFold mv l).out.ch ∧ (ofFold mv l).out.ch ≤ l.length from h _ l rfl
  intro n
  induction n with
  | zero => intro l h; rw [List.eq_nil_of_length_eq_zero h]; exact ⟨by simp [ofFold, ofInit], by simp [ofFold, ofInit], by simp [ofFold, ofInit]⟩
  | succ n ih =>
    intro l h
    rcases List.eq_nil_or_concat l with rfl | ⟨l', m, rfl⟩
    · simp at h
    · rw [List.concat_eq_append, ofFold_snoc]
      obtain ⟨h1, h2, h3⟩ := ih l' (by simpa using h)
      generalize ofFold mv l' = s at h1 h2 h3
      have hb := fun x => bump_le s.cnt l'.length h1 (by omega) x
      rw [List.length_append, List.length_singleton]
      have h1' : ∀ p ∈ s.cnt, 0 ≤ p.2 ∧ p.2 ≤ ((l'.length + 1 : Nat) : Int) := fun p hp => by have := h1 p hp; omega
      unfold ofStep
      repeat' split
      all_goals refine ⟨?_, ?_, ?_⟩
      all_goals first | exact h1' | exact hb _ | ((try dsimp only); omega) | (intro p hp; have := hb _ p hp; push_cast; omega)
end Go.Proofs.Ytfhlkkjochjhoaa
/- A row in one block that is written in place, and what slices.Compact leaves of a list. -/
namespace Go.Proofs.Ytfhlkkjochjhoaa
open Go.RowKit
variable {α : Type}
/-- Block g is a row of room for cap elements; the first of them are xs. -/
def Row (E : Enc α) (t : TypeId) (w : World) (g cap : Nat) (xs : List α) : Prop :=
  ∃ cur, w.heap[g]? = some (.cells cur t (0, 0)) ∧ cur.size = cap * E.k ∧ cap ≤ maxLen ∧ xs.length ≤ cap ∧ cur.toList.take (xs.length * E.k) = E.flat xs
section
variable {E : Enc α} {t : TypeId} {w w1 : World} {base g cap : Nat} {xs : List α}
theorem Own.row {n : Nat} (h : Own E t w base (.slice (some ⟨g, 0, none⟩) n cap) xs) : Row E t w g cap xs ∧ base ≤ g ∧ n = xs.length := by
  obtain ⟨h1, h2⟩ := h
  rcases h2 with ⟨h0, _⟩ | ⟨g', cap', cur, h', hb, hg, hnc, hcm, hcs, htake⟩
  · cases h0
  · simp only [Value.slice.injEq, Option.some.injEq, Addr.mk.injEq, and_true] at h'
    obtain ⟨rfl, rfl, rfl⟩ := h'
    exact ⟨⟨cur, hg, hcs, hcm, hnc, htake⟩, hb, rfl⟩
theorem Row.own (h : Row E t w g cap xs) (hb : base ≤ g) : Own E t w base (.slice (some ⟨g, 0, none⟩) xs.length cap) xs := by
  obtain ⟨cur, hg, hcs, hcm, hnc, htake⟩ := h
  exact ⟨E.flat_length xs, .inr ⟨g, cap, cur, rfl, hb, hg, hnc, hcm, hcs, htake⟩⟩
theorem Row.lt (h : Row E t w g cap xs) : g < w.heap.size := by
  obtain ⟨cur, hg, _⟩ := h
  exact (Array.getElem?_eq_some_iff.1 hg).1
theorem Row.le (h : Row E t w g cap xs) : xs.length ≤ cap := by obtain ⟨cur, hg, hcs, hcm, hnc, htake⟩ := h; exact hnc
theorem Row.cap_le (h : Row E t w g cap xs) : cap ≤ 9223372036854775807 := by obtain ⟨cur, hg, hcs, hcm, hnc, htake⟩ := h; simp only [maxLen] at hcm; omega
theorem Row.drewN (h : Row E t w g cap xs) (n : Nat) : Row E t (w.drewN n) g cap xs := h
theorem Row.drew (h : Row E t w g cap xs) : Row E t w.drew g cap xs := h
theorem Row.rd (h : Row E t w g cap xs) : Rd E w (some ⟨g, 0, none⟩) xs := by
  have hb := h.lt
  obtain ⟨A, c, hv, _, hr⟩ := (h.own (Nat.zero_le g)).rd
  injection hv with hv
  subst hv
  exact hr
theorem Row.grown {row : Option Nat} (h : Row E t w g cap xs) (hg : w.grownBy w1 row) (hne : some g ≠ row) : Row E t w1 g cap xs := by
  have hlt := h.lt
  obtain ⟨cur, hc, r⟩ := h
  exact ⟨cur, (hg.block g hlt hne).trans hc, r⟩
theorem Row.below (h : Row E t w g cap xs) (hb : Below w.heap.size w w1) : Row E t w1 g cap xs := h.grown (below_grown hb none) (by simp)
theorem Row.frozen (h : Row E t w g cap xs) (j : Nat) : w.frozen? ⟨g, j, none⟩ = false := by
  obtain ⟨cur, hc, r⟩ := h
  simp [World.frozen?, hc]
/-- Any cell of the row is there. -/
theorem Row.cell (h : Row E t w g cap xs) (j : Nat) (hj : j < cap * E.k) : ∃ v, w.cell? ⟨g, j, none⟩ = some v := by
  obtain ⟨cur, hc, hs, r⟩ := h
  exact ⟨cur[j]'(by omega), by simp [World.cell?, hc, show j < cur.size by omega]⟩
theorem Row.take (h : Row E t w g cap xs) (m : Nat) : Row E t w g cap (xs.take m) := by
  obtain ⟨cur, hg, hcs, hcm, hnc, htake⟩ := h
  refine ⟨cur, hg, hcs, hcm, Nat.le_trans (by simp; omega) hnc, ?_⟩
  rw [E.flat_take, ← htake, List.take_take, List.length_take]
  congr 1
  rcases Nat.le_total m xs.length with hm | hm
  · rw [Nat.min_eq_left hm]
    exact (Nat.min_eq_left (Nat.mul_le_mul_right _ hm)).symm
  · rw [Nat.min_eq_right hm]
    exact (Nat.min_eq_right (Nat.mul_le_mul_right _ hm)).symm
end
theorem flat_set (E : Enc α) (xs : List α) (i : Nat) (hi : i < xs.length) (x : α) : E.flat (xs.set i x) = (E.flat xs).take (i * E.k) ++ E.enc x ++ (E.flat xs).drop (i * E.k + E.k) := by
  rw [List.set_eq_take_append_cons_drop, if_pos hi, E.flat_append, E.flat_cons, E.flat_take, E.flat_drop, Nat.add_mul, Nat.one_mul, List.append_assoc]
/-- Cells set one behind the other. -/
def setAll : List Value → Nat → List Value → List Value
  | l, _, [] => l
  | l, i, v :: vs => setAll (l.set i v) (i + 1) vs
theorem setAll_eq (vs : List Value) : ∀ (l : List Value) (i : Nat), i + vs.length ≤ l.length → setAll l i vs = l.take i ++ vs ++ l.drop (i + vs.length) := by
  induction vs with
  | nil => intro l i _; simp [setAll]
  | cons v vs ih =>
    intro l i h
    simp only [List.length_cons] at h
    rw [setAll, ih _ _ (by simp; omega)]
    have h1 : (l.set i v).take (i + 1) = l.take i ++ [v] := by
      rw [List.set_eq_take_append_cons_drop, if_pos (by omega), List.take_append, List.take_of_length_le (by simp; omega)]
      simp [Nat.min_eq_left (show i ≤ l.length by omega), show i + 1 - i = 1 by omega]
    have h2 : (l.set i v).drop (i + 1 + vs.length) = l.drop (i + (v :: vs).length) := by
      rw [List.drop_set_of_lt (by omega)]
      congr 1; simp; omega
    rw [h1, h2]; simp
/-- The world behind stores of cells one behind the other. -/
def setCellsAt (w : World) (g : Nat) : Nat → List Value → World
  | _, [] => w
  | i, v :: vs => setCellsAt (w.setCell ⟨g, i, none⟩ v) g (i + 1) vs
theorem setCellsAt_heap (vs : List Value) : ∀ (w : World) (g i : Nat) (cur : Array Value) (t : TypeId), w.heap[g]? = some (.cells cur t (0, 0)) →
    (setCellsAt w g i vs).heap[g]? = some (.cells (setAll cur.toList i vs).toArray t (0, 0)) ∧ w.grownBy (setCellsAt w g i vs) (some g) := by
  induction vs with
  | nil => intro w g i cur t h; exact ⟨by simpa [setCellsAt, setAll] using h, World.grownBy.refl _ _⟩
  | cons v vs ih =>
    intro w g i cur t h
    have h1 : (w.setCell ⟨g, i, none⟩ v).heap[g]? = some (.cells (cur.setIfInBounds i v) t (0, 0)) := heap_setCell_same w g i cur t v h
    obtain ⟨h2, h3⟩ := ih (w.setCell ⟨g, i, none⟩ v) g (i + 1) (cur.setIfInBounds i v) t h1
    refine ⟨by rw [setCellsAt, h2, setAll, Array.toList_setIfInBounds], World.grownBy.trans (b := w.setCell ⟨g, i, none⟩ v) ⟨rfl, rfl, rfl, by simp, fun k _ hk => heap_setCell_other w ⟨g, i, none⟩ k v (fun e => hk (by simp [e]))⟩ h3⟩
/-- An element of the row written, cell by cell. -/
theorem Row.set {E : Enc α} {t : TypeId} {w : World} {g cap : Nat} {xs : List α} (h : Row E t w g cap xs) (i : Nat) (hi : i < xs.length) (x : α) :
    Row E t (setCellsAt w g (i * E.k) (E.enc x)) g cap (xs.set i x) ∧ w.grownBy (setCellsAt w g (i * E.k) (E.enc x)) (some g) := by
  obtain ⟨cur, hg, hcs, hcm, hnc, htake⟩ := h
  obtain ⟨h1, h2⟩ := setCellsAt_heap (E.enc x) w g (i * E.k) cur t hg
  have hb : i * E.k + E.k ≤ xs.length * E.k := by have := Nat.mul_le_mul_right E.k (show i + 1 ≤ xs.length from hi); rwa [Nat.add_mul, Nat.one_mul] at this
  have hb2 : xs.length * E.k ≤ cap * E.k := Nat.mul_le_mul_right _ hnc
  have hs : setAll cur.toList (i * E.k) (E.enc x) = cur.toList.take (i * E.k) ++ E.enc x ++ cur.toList.drop (i * E.k + E.k) := by
    rw [setAll_eq _ _ _ (by rw [E.len, Array.length_toList]; omega), E.len]
  refine ⟨⟨_, h1, ?_, hcm, by simpa using hnc, ?_⟩, h2⟩
  · rw [hs]; simp [E.len]; omega
  · rw [hs, flat_set E xs i hi x, ← htake, List.length_set]
    simp only [List.take_append, List.length_append, List.length_take, Array.length_toList, E.len]
    rw [List.take_take, Nat.min_eq_right (by omega : i * E.k ≤ xs.length * E.k), List.take_take, Nat.min_eq_left (by omega : i * E.k ≤ xs.length * E.k), Nat.min_eq_left (by omega : i * E.k ≤ cur.size), List.take_of_length_le (l := E.enc x) (by rw [E.len]; omega), List.drop_take]
/-- Cells of the row written at place o on. -/
theorem Row.setRow {E : Enc α} {t : TypeId} {w : World} {g cap : Nat} {xs : List α} (h : Row E t w g cap xs) (m : Nat) (vs : List Value) (hm : m * E.k + vs.length ≤ cap * E.k) (h1 : ∀ v ∈ vs, v.oneCell' = true) (P : Program) :
    ∃ w', (storeCells ⟨g, m * E.k, none⟩ vs 0).run P w = .ok () w' ∧ Row E t w' g cap (xs.take m) ∧ w.grownBy w' (some g) ∧ ∃ cur cur', w.heap[g]? = some (.cells cur t (0, 0)) ∧ w'.heap[g]? = some (.cells cur' t (0, 0)) ∧ cur.size = cap * E.k ∧ cur'.toList = cur.toList.take (m * E.k) ++ vs ++ cur.toList.drop (m * E.k + vs.length) := by
  have ht := h.take m
  obtain ⟨cur, hg, hcs, hcm, hnc, htake⟩ := ht
  have hr := run_storeCells_at (P := P) g (m * E.k) t vs 0 cur w hg (by omega) h1
  simp only [Nat.add_zero] at hr
  refine ⟨_, hr, ⟨_, setRow_heap w g cur _ t _ hg, ?_, hcm, hnc, ?_⟩, ⟨rfl, rfl, rfl, ?_, ?_⟩, cur, _, hg, setRow_heap w g cur _ t _ hg, hcs, by simp⟩
  · simp; omega
  · have hle : (xs.take m).length * E.k ≤ m * E.k := Nat.mul_le_mul_right _ (by simp; omega)
    rw [← htake]
    simp only [List.append_assoc]
    have hl2 : (cur.toList.take (m * E.k)).length = m * E.k := by rw [List.length_take, Array.length_toList]; omega
    rw [List.take_append_of_le_length (by rw [hl2]; exact hle), List.take_take, Nat.min_eq_left hle]
  · simp [World.setRow]
  · intro k hk hne
    simp only [World.setRow]
    rw [Array.getElem?_modify, if_neg (fun e => hne (by rw [e]))]
/-- clear(s[m:]) leaves the first m. -/
theorem Row.clear {E : Enc α} {t : TypeId} {w : World} {g cap : Nat} {xs : List α} (h : Row E t w g cap xs) (m n c : Nat) {P : Program} {T : TypeId} {z : Value} (hT : P.underlying T = some (.slice t)) (hv : ∀ w, (zeroValue t).run P w = .ok z w) (hz : z.cells.size = E.k) (hz1 : ∀ v ∈ z.cells, v.oneCell' = true) (hn : 0 < n) (hm : m + n ≤ cap) :
    ∃ w', (∀ ty, (Builtin.clear_ #[T] ty #[.slice (some ⟨g, m * E.k, none⟩) n c]).run P w = .ok (.tuple #[]) w') ∧ Row E t w' g cap (xs.take m) ∧ w.grownBy w' (some g) := by
  have hlen : (Builtin.zeroCells z.cells n).toList.length = n * E.k := by simp [Builtin.zeroCells, hz]
  have hb : m * E.k + n * E.k ≤ cap * E.k := by rw [← Nat.add_mul]; exact Nat.mul_le_mul_right _ hm
  have h1 : ∀ v ∈ (Builtin.zeroCells z.cells n).toList, v.oneCell' = true := by
    intro v hv'
    simp only [Builtin.zeroCells, Array.toList_map, List.mem_map, Array.mem_toList_iff, Array.mem_range] at hv'
    obtain ⟨i, _, rfl⟩ := hv'
    have hi : i % z.cells.size < z.cells.size := Nat.mod_lt _ (by rw [hz]; exact E.pos)
    rw [getElem!_pos z.cells (i % z.cells.size) hi]
    exact hz1 _ (Array.getElem_mem hi)
  obtain ⟨w', hr, hrow, hg, _⟩ := h.setRow m (Builtin.zeroCells z.cells n).toList (by rw [hlen]; exact hb) h1 P
  refine ⟨w', fun ty => ?_, hrow, hg⟩
  obtain ⟨q, rfl⟩ : ∃ q, n = q + 1 := ⟨n - 1, by omega⟩
  simp [Builtin.clear_, run_underlying hT, hv, hr]
end Go.Proofs.Ytfhlkkjochjhoaa
