/- Joined texts of the seat: contracts and plain laws that the rows import. -/
import Derived.Test.YtgcnklnhambpjaaK2
import Derived.Test.YtgcnklnhambpjaaK1
import Derived.MapKept
import Derived.ChangeMaps4
import Derived.Maps.RangeRun
import Derived.Laws.Entries
import Derived.WideLaws
set_option linter.unusedVariables false
set_option linter.unusedSimpArgs false
/- Lists of messages in strict order: one with given members is unique; normL is that one. -/
namespace Go.Proofs.Ytgcnklnhambpjaa
open Go.RowKit
def ltM (a b : Msg) : Prop := cmpM a b < 0
theorem ltM_irr (a : Msg) : ¬ ltM a a := by simp only [ltM, cmpM_neg]; omega
theorem ltM_tr {a b c : Msg} (h1 : ltM a b) (h2 : ltM b c) : ltM a c := by simp only [ltM, cmpM_neg] at *; omega
theorem ltM_le {a b : Msg} (h : ltM a b) : leM a b = true := by
  simp only [leM, Bool.not_eq_true', decide_eq_false_iff_not]
  intro h2; exact ltM_irr a (ltM_tr h h2)
theorem leM_lt {a b : Msg} (h : leM a b = true) (hne : a ≠ b) : ltM a b := by
  by_cases hl : ltM a b
  · exact hl
  · refine absurd (leM_anti a b h ?_) hne
    simp only [leM, Bool.not_eq_true', decide_eq_false_iff_not]
    exact hl
theorem ltM_nodup {l : List Msg} (h : l.Pairwise ltM) : l.Nodup := h.imp (fun {a b} hab e => by subst e; exact ltM_irr _ hab)
theorem strict_unique {l1 l2 : List Msg} (h1 : l1.Pairwise ltM) (h2 : l2.Pairwise ltM) (hm : ∀ x, x ∈ l1 ↔ x ∈ l2) : l1 = l2 :=
  List.Perm.eq_of_pairwise (le := fun a b => leM a b = true) (fun a b _ _ h1 h2 => leM_anti a b h1 h2) (h1.imp ltM_le) (h2.imp ltM_le)
    ((List.perm_ext_iff_of_nodup (ltM_nodup h1) (ltM_nodup h2)).2 hm)
theorem compU_snoc (l : List Msg) (x : Msg) : comp (l ++ [x]) = if (comp l).getLast? = some x then comp l else comp l ++ [x] := by
  unfold comp; rw [List.foldl_append]; rfl
theorem snoc_ind {P : List Msg → Prop} (h0 : P []) (h1 : ∀ l x, P l → P (l ++ [x])) : ∀ l, P l := by
  intro l
  rw [← List.reverse_reverse l]
  induction l.reverse with
  | nil => exact h0
  | cons x r ih => rw [List.reverse_cons]; exact h1 _ _ ih
theorem compU_last : ∀ l : List Msg, (comp l).getLast? = l.getLast? := by
  refine snoc_ind rfl (fun l x ih => ?_)
  rw [compU_snoc]
  split
  · rename_i h; rw [h]; simp
  · simp
theorem comp_mem : ∀ (l : List Msg) (x : Msg), x ∈ comp l ↔ x ∈ l := by
  refine snoc_ind (fun x => by simp [comp]) (fun l y ih x => ?_)
  rw [compU_snoc]
  split
  · rename_i h
    rw [ih x, List.mem_append, List.mem_singleton]
    constructor
    · exact .inl
    · rintro (h2 | rfl)
      · exact h2
      · exact (ih x).1 (List.mem_of_getLast? h)
  · rw [List.mem_append, List.mem_append, ih x]
theorem comp_strict : ∀ l : List Msg, l.Pairwise (fun a b => leM a b = true) → (comp l).Pairwise ltM := by
  refine snoc_ind (fun _ => by simp [comp]) (fun l y ih h => ?_)
  rw [List.pairwise_append] at h
  have ihl := ih h.1
  rw [compU_snoc]
  split
  · exact ihl
  · rename_i hne
    rw [List.pairwise_append]
    refine ⟨ihl, by simp, fun a ha b hb => ?_⟩
    simp only [List.mem_singleton] at hb
    subst hb
    have hle : leM a b = true := h.2.2 a ((comp_mem l a).1 ha) b (by simp)
    refine leM_lt hle (fun e => ?_)
    subst e
    -- a is a member and every later one is not less: so it is the last
    have hal : a ∈ l := (comp_mem l a).1 ha
    obtain ⟨z, hz⟩ : ∃ z, l.getLast? = some z := by
      cases hl : l.getLast? with
      | none => rw [List.getLast?_eq_none_iff] at hl; subst hl; simp at hal
      | some z => exact ⟨z, rfl⟩
    have hza : leM z a = true := h.2.2 z (List.mem_of_getLast? hz) a (by simp)
    have haz : leM a z = true := by
      rcases List.getLast?_eq_some_iff.1 hz with ⟨r, hr⟩
      rw [hr] at hal h
      rcases List.mem_append.1 hal with hm | hm
      · exact (List.pairwise_append.1 h.1).2.2 a hm z (by simp)
      · simp only [List.mem_singleton] at hm; subst hm; exact hza
    have := leM_anti a z haz hza
    subst this
    exact hne ((compU_last l).trans hz)
theorem normL_strict (l : List Msg) : (normL l).Pairwise ltM := comp_strict _ (sort_sorted l)
theorem normL_mem (l : List Msg) (x : Msg) : x ∈ normL l ↔ x ∈ l := by unfold normL; rw [comp_mem, (List.mergeSort_perm l leM).mem_iff]
theorem normL_of {l out : List Msg} (h : out.Pairwise ltM) (hm : ∀ x, x ∈ out ↔ x ∈ l) : out = normL l := strict_unique h (normL_strict l) (fun x => (hm x).trans (normL_mem l x).symm)
end Go.Proofs.Ytgcnklnhambpjaa
/- A map in one block as a list of keys and values: made, looked up, written, opened entry by entry. -/
namespace Go.Proofs.Ytgcnklnhambpjaa
open Go.RowKit
open Go.ChangeMaps (setBlock)
variable {κ ν : Type}
/-- What the map's operations ask of the keys' type. -/
structure KeyOK (P : Program) (kt : TypeId) (kv : κ → Value) : Prop where
  chk : ∀ (em : Bool) (x : κ) (w : World), (Instr.checkKey em 10000 kt (kv x)).run P w = .ok () w
  fnd : ∀ (x : κ) (es : List MapEntry) (w : World), (∀ e ∈ es, ∃ y, e.key = kv y) →
    ((Instr.findKey kt (kv x) es).run P w = .ok none w ∧ ∀ e ∈ es, e.key ≠ kv x) ∨ ∃ j e, (Instr.findKey kt (kv x) es).run P w = .ok (some (j, e.val)) w ∧ es[j]? = some e ∧ e.key = kv x
  stays : ∀ (x : κ) (w : World), (Instr.keyThatStays (kv x) (kv x)).run P w = .ok (kv x) w
  inj : ∀ x y, kv x = kv y → x = y

/-- Block b is a map with these keys and values, each key once. -/
def IsMap (kv : κ → Value) (vv : ν → Value) (w : World) (b : Nat) (m : List (κ × ν)) : Prop :=
  ∃ es clock, w.heap[b]? = some (.map es clock) ∧ es.toList.map (fun e => (e.key, e.val)) = m.map (fun p => (kv p.1, vv p.2)) ∧ (es.toList.map (·.born)).Nodup ∧ (∀ e ∈ es.toList, e.born < clock) ∧ (m.map (·.1)).Nodup
def mget [DecidableEq κ] (m : List (κ × ν)) (x : κ) : Option ν := (m.find? (fun p => decide (p.1 = x))).map (·.2)
def mput [DecidableEq κ] (m : List (κ × ν)) (x : κ) (v : ν) : List (κ × ν) := if (mget m x).isSome then m.map (fun p => if p.1 = x then (p.1, v) else p) else m ++ [(x, v)]

theorem getObj_map {P : Program} {w : World} {b : Nat} {es : Array MapEntry} {clock : Nat} (hb : w.heap[b]? = some (.map es clock)) : (getObj b).run P w = .ok (.map es clock) w := by simp [getObj, Sem.run, hb]
theorem setObj_map {P : Program} {w : World} {b : Nat} {es : Array MapEntry} {clock : Nat} (hb : w.heap[b]? = some (.map es clock)) (o : Obj) : (setObj b o).run P w = .ok () (setBlock w b o) := by simp [setObj, Sem.run, hb, setBlock]
section
variable {kv : κ → Value} {vv : ν → Value} {w w1 : World} {b : Nat} {m : List (κ × ν)} {P : Program} {kt vt t : TypeId}
theorem IsMap.made (kv : κ → Value) (vv : ν → Value) (w : World) : IsMap kv vv (w.alloc (.map #[] 0)) w.heap.size [] :=
  ⟨#[], 0, (MapKept.heap_alloc w _).1, rfl, by simp, by simp, by simp⟩
theorem IsMap.lt (h : IsMap kv vv w b m) : b < w.heap.size := by
  obtain ⟨es, clock, hb, _⟩ := h
  exact (Array.getElem?_eq_some_iff.1 hb).1
theorem IsMap.grown {row : Option Nat} (h : IsMap kv vv w b m) (hg : w.grownBy w1 row) (hne : some b ≠ row) : IsMap kv vv w1 b m := by
  have hlt := h.lt
  obtain ⟨es, clock, hb, r⟩ := h
  exact ⟨es, clock, (hg.block b hlt hne).trans hb, r⟩
theorem IsMap.below (h : IsMap kv vv w b m) (hb : Below w.heap.size w w1) : IsMap kv vv w1 b m := h.grown (below_grown hb none) (by simp)
theorem IsMap.alloc (h : IsMap kv vv w b m) (o : Obj) : IsMap kv vv (w.alloc o) b m := h.grown (World.grownBy_alloc w o none) (by simp)
theorem IsMap.drew (h : IsMap kv vv w b m) : IsMap kv vv w.drew b m := h
theorem IsMap.drewN (h : IsMap kv vv w b m) (n : Nat) : IsMap kv vv (w.drewN n) b m := h
theorem IsMap.cells (h : IsMap kv vv w b m) (a : Addr) (u : Value) : IsMap kv vv (w.setCell a u) b m := by
  obtain ⟨es, clock, hb, r⟩ := h
  refine ⟨es, clock, ?_, r⟩
  simp only [World.setCell, Array.getElem?_modify]
  split
  · rw [hb]; rfl
  · exact hb
theorem nodup_at {α : Type} {l : List α} (hn : l.Nodup) {i j : Nat} (hi : i < l.length) (hj : j < l.length) (h : l[i] = l[j]) : i = j := by
  rcases Nat.lt_trichotomy i j with hij | hij | hij
  · exact absurd h ((List.pairwise_iff_getElem.1 hn) i j hi hj hij)
  · exact hij
  · exact absurd h.symm ((List.pairwise_iff_getElem.1 hn) j i hj hi hij)
theorem keys_of {es : List MapEntry} {m : List (κ × ν)} (h : es.map (fun e => (e.key, e.val)) = m.map (fun p => (kv p.1, vv p.2))) : ∀ e ∈ es, ∃ y, e.key = kv y := by
  intro e he
  have : (e.key, e.val) ∈ es.map (fun e => (e.key, e.val)) := List.mem_map.2 ⟨e, he, rfl⟩
  rw [h] at this
  obtain ⟨p, _, hp⟩ := List.mem_map.1 this
  exact ⟨p.1, by injection hp with h1 _; exact h1.symm⟩
theorem mget_none [DecidableEq κ] {m : List (κ × ν)} {x : κ} (h : ∀ p ∈ m, p.1 ≠ x) : mget m x = none := by
  unfold mget
  rw [List.find?_eq_none.2 (fun p hp => by simpa using h p hp)]
  rfl
theorem mget_at [DecidableEq κ] {m : List (κ × ν)} {x : κ} (hn : (m.map (·.1)).Nodup) {j : Nat} {p : κ × ν} (hj : m[j]? = some p) (hp : p.1 = x) : mget m x = some p.2 := by
  unfold mget
  have : m.find? (fun p => decide (p.1 = x)) = some p := by
    obtain ⟨hlt, rfl⟩ := List.getElem?_eq_some_iff.1 hj
    rw [List.find?_eq_some_iff_getElem]
    refine ⟨by simpa using hp, j, hlt, rfl, fun i hi => ?_⟩
    have hne := (List.pairwise_iff_getElem.1 hn) i j (by simp; omega) (by simpa using hlt) hi
    simp only [List.getElem_map] at hne
    simp only [Bool.not_eq_true', decide_eq_false_iff_not]
    rw [← hp]; exact hne
  rw [this]; rfl
/-- Looking a key up: the world stands, the search tells what the list tells. -/
theorem IsMap.find [DecidableEq κ] (K : KeyOK P kt kv) (h : IsMap kv vv w b m) (x : κ) : ∃ es clock, w.heap[b]? = some (.map es clock) ∧ es.toList.map (fun e => (e.key, e.val)) = m.map (fun p => (kv p.1, vv p.2)) ∧ (es.toList.map (·.born)).Nodup ∧ (∀ e ∈ es.toList, e.born < clock) ∧
    ((mget m x = none ∧ (Instr.findKey kt (kv x) es.toList).run P w = .ok none w ∧ ∀ e ∈ es.toList, e.key ≠ kv x) ∨ ∃ j e v, mget m x = some v ∧ (Instr.findKey kt (kv x) es.toList).run P w = .ok (some (j, vv v)) w ∧ es.toList[j]? = some e ∧ e.key = kv x ∧ e.val = vv v) := by
  obtain ⟨es, clock, hb, he, hn, hc, hm⟩ := h
  refine ⟨es, clock, hb, he, hn, hc, ?_⟩
  rcases K.fnd x es.toList w (keys_of he) with ⟨h1, h2⟩ | ⟨j, e, h1, h2, h3⟩
  · refine .inl ⟨mget_none fun p hp e => ?_, h1, h2⟩
    have : (kv p.1, vv p.2) ∈ es.toList.map (fun e => (e.key, e.val)) := by rw [he]; exact List.mem_map.2 ⟨p, hp, rfl⟩
    obtain ⟨e', he', hp'⟩ := List.mem_map.1 this
    injection hp' with hp1 _
    exact h2 e' he' (by rw [hp1, e])
  · have hj : (es.toList.map (fun e => (e.key, e.val)))[j]? = some (e.key, e.val) := by rw [List.getElem?_map, h2]; rfl
    rw [he, List.getElem?_map] at hj
    cases hp : m[j]? with
    | none => rw [hp] at hj; cases hj
    | some p =>
      rw [hp] at hj
      simp only [Option.map_some, Option.some.injEq, Prod.mk.injEq] at hj
      have hx : p.1 = x := K.inj _ _ (by rw [hj.1, h3])
      exact .inr ⟨j, e, p.2, mget_at hm hp hx, by rw [h1, hj.2], h2, h3, hj.2.symm⟩
theorem IsMap.lookup [DecidableEq κ] (K : KeyOK P kt kv) (h : IsMap kv vv w b m) (ht : P.underlying t = some (.map kt vt)) {z : Value} (hz : (zeroValue vt).run P w = .ok z w) (x : κ) :
    (Instr.lookup t (.map (some b)) (kv x) false).run P w = .ok (match mget m x with | some v => vv v | none => z) w ∧
    (Instr.lookup t (.map (some b)) (kv x) true).run P w = .ok (.tuple #[(match mget m x with | some v => vv v | none => z), .bool (mget m x).isSome]) w := by
  obtain ⟨es, clock, hb, he, _, _, hf⟩ := h.find K x
  rcases hf with ⟨h0, h1, _⟩ | ⟨j, e, v, h0, h1, _⟩
  · simp [Instr.lookup, run_underlying ht, getObj_map hb, K.chk, h1, h0, hz]
  · simp [Instr.lookup, run_underlying ht, getObj_map hb, K.chk, h1, h0]
theorem findIdx_toList {α : Type} (p : α → Bool) (xs : Array α) : xs.toList.findIdx? p = xs.findIdx? p := by
  obtain ⟨l⟩ := xs
  simp
theorem grown_setBlock (w : World) (b : Nat) (o : Obj) : w.grownBy (setBlock w b o) (some b) :=
  ⟨rfl, rfl, rfl, by simp [setBlock], fun k _ hk => by simp only [setBlock]; rw [Array.getElem?_setIfInBounds, if_neg (fun e => hk (by rw [e]))]⟩
theorem heap_setBlock (w : World) (b : Nat) (o : Obj) (h : b < w.heap.size) : (setBlock w b o).heap[b]? = some o := by
  simp [setBlock, h]
theorem born_modify {es : List MapEntry} {j : Nat} {f : MapEntry → MapEntry} (hf : ∀ e, (f e).born = e.born) : (es.modify j f).map (·.born) = es.map (·.born) := by
  apply List.ext_getElem?
  intro i
  simp only [List.getElem?_map, List.getElem?_modify]
  cases es[i]? with
  | none => rfl
  | some e => simp only [Option.map_some]; split <;> simp [hf]
theorem mput_keys [DecidableEq κ] (m : List (κ × ν)) (x : κ) (v : ν) (hn : (m.map (·.1)).Nodup) : ((mput m x v).map (·.1)).Nodup := by
  unfold mput
  split
  · rw [List.map_map]
    have : ((fun p : κ × ν => p.1) ∘ fun p => if p.1 = x then (p.1, v) else p) = fun p : κ × ν => p.1 := by
      funext p; simp only [Function.comp]; split <;> rfl
    rw [this]; exact hn
  · rename_i h
    rw [List.map_append, List.nodup_append]
    refine ⟨hn, by simp, ?_⟩
    intro a ha c hc e
    simp only [List.map_cons, List.map_nil, List.mem_singleton] at hc
    obtain ⟨p, hp, rfl⟩ := List.mem_map.1 ha
    apply h
    obtain ⟨j, hj, rfl⟩ := List.getElem_of_mem hp
    rw [mget_at hn (List.getElem?_eq_getElem hj) (e.trans hc)]
    rfl
/-- What the list of entries is behind a store at the place that the search told. -/
theorem modify_put [DecidableEq κ] {es : List MapEntry} {m : List (κ × ν)} (he : es.map (fun e => (e.key, e.val)) = m.map (fun p => (kv p.1, vv p.2))) (hn : (m.map (·.1)).Nodup) {j : Nat} {e : MapEntry} {x : κ} (hj : es[j]? = some e) (hk : e.key = kv x) (hinj : ∀ x y, kv x = kv y → x = y) (v : ν) {f : MapEntry → MapEntry} (hf : ∀ e, e.key = kv x → (f e).key = kv x ∧ (f e).val = vv v) :
    (es.modify j f).map (fun e => (e.key, e.val)) = (mput m x v).map (fun p => (kv p.1, vv p.2)) := by
  have hp : ∃ p, m[j]? = some p ∧ p.1 = x := by
    have h1 : (es.map (fun e => (e.key, e.val)))[j]? = some (e.key, e.val) := by rw [List.getElem?_map, hj]; rfl
    rw [he, List.getElem?_map] at h1
    cases hp : m[j]? with
    | none => rw [hp] at h1; cases h1
    | some p =>
      rw [hp] at h1
      simp only [Option.map_some, Option.some.injEq, Prod.mk.injEq] at h1
      exact ⟨p, rfl, hinj _ _ (by rw [h1.1, hk])⟩
  obtain ⟨p, hp, hpx⟩ := hp
  have hs : (mget m x).isSome = true := by rw [mget_at hn hp hpx]; rfl
  unfold mput
  rw [if_pos hs]
  apply List.ext_getElem?
  intro i
  have hi : (es.map (fun e => (e.key, e.val)))[i]? = (m.map (fun p => (kv p.1, vv p.2)))[i]? := by rw [he]
  simp only [List.getElem?_map, List.getElem?_modify] at hi ⊢
  by_cases hij : j = i
  · subst hij
    rw [hj, hp]
    simp only [if_true, Option.map_some]
    rw [if_pos hpx]
    obtain ⟨h1, h2⟩ := hf e hk
    simp [h1, h2, hpx]
  · cases hes : es[i]? with
    | none =>
      rw [hes] at hi
      cases hmi : m[i]? with
      | none => simp
      | some q => rw [hmi] at hi; simp at hi
    | some e' =>
      rw [hes] at hi
      cases hmi : m[i]? with
      | none => rw [hmi] at hi; simp at hi
      | some q =>
        rw [hmi] at hi
        simp only [Option.map_some, hij, if_false] at hi ⊢
        have hq : q.1 ≠ x := by
          intro e
          obtain ⟨h1, h2⟩ := List.getElem?_eq_some_iff.1 hmi
          obtain ⟨h3, h4⟩ := List.getElem?_eq_some_iff.1 hp
          exact hij (nodup_at hn (i := j) (j := i) (by simpa using h3) (by simpa using h1) (by simp [h2, h4, e, hpx]))
        rw [if_neg hq]
        exact hi
theorem IsMap.update [DecidableEq κ] (K : KeyOK P kt kv) (h : IsMap kv vv w b m) (ht : P.underlying t = some (.map kt vt)) (x : κ) (v : ν) :
    ∃ w', (Instr.mapUpdate t (.map (some b)) (kv x) (vv v)).run P w = .ok () w' ∧ IsMap kv vv w' b (mput m x v) ∧ w.grownBy w' (some b) := by
  have hlt := h.lt
  have hm := h
  obtain ⟨_, _, _, _, _, _, hnod⟩ := hm
  obtain ⟨es, clock, hb, he, hn, hc, hf⟩ := h.find K x
  rcases hf with ⟨h0, h1, h2⟩ | ⟨j, e, v0, h0, h1, hj, hk, hv⟩
  · refine ⟨setBlock w b (.map (es.push { key := kv x, val := vv v, born := clock }) (clock + 1)), ?_, ⟨_, _, heap_setBlock _ _ _ hlt, ?_, ?_, ?_, mput_keys m x v hnod⟩, grown_setBlock _ _ _⟩
    · simp [Instr.mapUpdate, run_underlying ht, getObj_map hb, K.chk, h1, setObj_map hb]
    · unfold mput; rw [h0]; simp [he]
    · rw [Array.toList_push, List.map_append, List.nodup_append]
      refine ⟨hn, by simp, fun a ha c hc' e => ?_⟩
      simp only [List.map_cons, List.map_nil, List.mem_singleton] at hc'
      obtain ⟨e', he', rfl⟩ := List.mem_map.1 ha
      have := hc e' he'
      omega
    · intro e' he'
      rw [Array.toList_push] at he'
      rcases List.mem_append.1 he' with he' | he'
      · have := hc e' he'; omega
      · simp only [List.mem_singleton] at he'; rw [he']; simp
  · have hes : es[j]? = some e := by rw [← Array.getElem?_toList]; exact hj
    refine ⟨setBlock w b (.map (es.modify j fun e => { e with key := kv x, val := vv v }) clock), ?_, ⟨_, _, heap_setBlock _ _ _ hlt, ?_, ?_, ?_, mput_keys m x v hnod⟩, grown_setBlock _ _ _⟩
    · simp [Instr.mapUpdate, run_underlying ht, getObj_map hb, K.chk, h1, hes, hk, K.stays, setObj_map hb]
    · rw [Array.toList_modify]
      exact modify_put he hnod hj hk K.inj v (fun e _ => ⟨rfl, rfl⟩)
    · rw [Array.toList_modify, born_modify (f := fun e => { e with key := kv x, val := vv v }) (fun _ => rfl)]; exact hn
    · intro e' he'
      have : e'.born ∈ (es.modify j fun e => { e with key := kv x, val := vv v }).toList.map (·.born) := List.mem_map.2 ⟨e', he', rfl⟩
      rw [Array.toList_modify, born_modify (f := fun e => { e with key := kv x, val := vv v }) (fun _ => rfl)] at this
      obtain ⟨e2, h2, h3⟩ := List.mem_map.1 this
      have := hc e2 h2
      omega
/-- 'm[k] op= v': the entry's place, then what is stored there; the look-up tells the same before and between. -/
theorem IsMap.bump [DecidableEq κ] (K : KeyOK P kt kv) (h : IsMap kv vv w b m) (ht : P.underlying t = some (.map kt vt)) {zv : ν} (hz : ∀ w, (zeroValue vt).run P w = .ok (vv zv) w) (x : κ) :
    ∃ st w2, (Instr.mapEntry t (.map (some b)) (kv x)).run P w = .ok (.tuple #[vv ((mget m x).getD zv), .int .i64 st]) w2 ∧
      (Instr.lookup t (.map (some b)) (kv x) false).run P w = .ok (vv ((mget m x).getD zv)) w ∧ (Instr.lookup t (.map (some b)) (kv x) false).run P w2 = .ok (vv ((mget m x).getD zv)) w2 ∧ w.grownBy w2 (some b) ∧
      ∀ v, ∃ w3, (Instr.entryStore t (.map (some b)) (.int .i64 st) (vv v)).run P w2 = .ok () w3 ∧ IsMap kv vv w3 b (mput m x v) ∧ w.grownBy w3 (some b) := by
  have hlt := h.lt
  have hm := h
  obtain ⟨_, _, _, _, _, _, hnod⟩ := hm
  have hl := (h.lookup K ht (hz w) x).1
  obtain ⟨es, clock, hb, he, hn, hc, hf⟩ := h.find K x
  rcases hf with ⟨h0, h1, h2⟩ | ⟨j, e, v0, h0, h1, hj, hk, hv⟩
  · have hb2 := heap_setBlock w b (.map (es.push { key := kv x, val := vv zv, born := clock }) (clock + 1)) hlt
    have hN : IsMap kv vv (setBlock w b (.map (es.push { key := kv x, val := vv zv, born := clock }) (clock + 1))) b (mput m x zv) := by
      refine ⟨_, _, hb2, ?_, ?_, ?_, mput_keys m x zv hnod⟩
      · unfold mput; rw [h0]; simp [he]
      · rw [Array.toList_push, List.map_append, List.nodup_append]
        refine ⟨hn, by simp, fun a ha c hc' e => ?_⟩
        simp only [List.map_cons, List.map_nil, List.mem_singleton] at hc'
        obtain ⟨e', he', rfl⟩ := List.mem_map.1 ha
        have := hc e' he'
        omega
      · intro e' he'
        rw [Array.toList_push] at he'
        rcases List.mem_append.1 he' with he' | he'
        · have := hc e' he'; omega
        · simp only [List.mem_singleton] at he'; rw [he']; simp
    have hg : mget (mput m x zv) x = some zv := by
      unfold mput
      rw [h0]
      have hmem : (m ++ [(x, zv)])[m.length]? = some (x, zv) := by simp
      refine mget_at ?_ hmem rfl
      have := mput_keys m x zv hnod
      unfold mput at this
      rw [h0] at this
      exact this
    have hl2 := (hN.lookup K ht (hz _) x).1
    rw [hg] at hl2
    rw [h0] at hl
    refine ⟨clock, setBlock w b (.map (es.push { key := kv x, val := vv zv, born := clock }) (clock + 1)), ?_, ?_, ?_, grown_setBlock _ _ _, fun v => ?_⟩
    · simp [Instr.mapEntry, run_underlying ht, getObj_map hb, K.chk, h1, hz, setObj_map hb, h0, goInt]
    · rw [h0]; exact hl
    · rw [h0]; exact hl2
    · have hfi : (es.push { key := kv x, val := vv zv, born := clock }).findIdx? (fun e => (e.born : Int) == (clock : Int)) = some es.size := by
        rw [← findIdx_toList, Array.toList_push, List.findIdx?_append, List.findIdx?_eq_none_iff.2]
        · simp
        · intro y hy
          have := hc y hy
          simp only [beq_eq_false_iff_ne, ne_eq, Int.natCast_inj]
          omega
      refine ⟨setBlock (setBlock w b (.map (es.push { key := kv x, val := vv zv, born := clock }) (clock + 1))) b (.map ((es.push { key := kv x, val := vv zv, born := clock }).modify es.size fun e => { e with val := vv v }) (clock + 1)), ?_, ⟨_, _, heap_setBlock _ _ _ (by simpa [setBlock] using hlt), ?_, ?_, ?_, mput_keys m x v hnod⟩, World.grownBy.trans (grown_setBlock _ _ _) (grown_setBlock _ _ _)⟩
      · simp [Instr.entryStore, getObj_map hb2, setObj_map hb2, asInt, asIntOf, hfi]
      · rw [Array.toList_modify, Array.toList_push]
        unfold mput
        rw [h0]
        simp only [Option.isSome_none, Bool.false_eq_true, if_false, List.map_append, List.map_cons, List.map_nil]
        rw [← he, List.modify_eq_take_cons_drop (by simp)]
        simp
      · rw [Array.toList_modify, born_modify (f := fun e => { e with val := vv v }) (fun _ => rfl)]
        obtain ⟨es2, c2, hb3, _, hn2, _⟩ := hN
        rw [hb2] at hb3
        injection hb3 with hb3
        injection hb3 with hb3 _
        rw [hb3]; exact hn2
      · intro e' he'
        have h5 : e'.born ∈ ((es.push { key := kv x, val := vv zv, born := clock }).modify es.size fun e => { e with val := vv v }).toList.map (·.born) := List.mem_map.2 ⟨e', he', rfl⟩
        rw [Array.toList_modify, born_modify (f := fun e => { e with val := vv v }) (fun _ => rfl)] at h5
        obtain ⟨e2, h6, h7⟩ := List.mem_map.1 h5
        rw [Array.toList_push] at h6
        rcases List.mem_append.1 h6 with h6 | h6
        · have := hc e2 h6; omega
        · simp only [List.mem_singleton] at h6; rw [h6] at h7; simp only at h7; omega
  · have hes : es[j]? = some e := by rw [← Array.getElem?_toList]; exact hj
    have hes' := List.getElem?_eq_some_iff.1 hj
    have hid : (es.modify j fun e => { e with key := kv x }) = es := by
      apply Array.ext_getElem?
      intro i
      rw [Array.getElem?_modify]
      split
      · rename_i hji
        subst hji
        rw [hes]
        simp only [Option.map_some, Option.some.injEq]
        rw [← hk]
      · rfl
    have hw2 : setBlock w b (.map es clock) = w := by
      unfold setBlock
      congr 1
      apply Array.ext_getElem?
      intro i
      rw [Array.getElem?_setIfInBounds]
      split
      · rename_i hbi; subst hbi; exact hb.symm
      · rfl
    have hfi : es.findIdx? (fun y => (y.born : Int) == (e.born : Int)) = some j := by
      rw [← findIdx_toList, List.findIdx?_eq_some_iff_getElem]
      refine ⟨hes'.1, by rw [hes'.2]; simp, fun i hi => ?_⟩
      have hne := (List.pairwise_iff_getElem.1 hn) i j (by simp; have := hes'.1; simp at this; omega) (by simpa using hes'.1) hi
      simp only [List.getElem_map] at hne
      rw [hes'.2] at hne
      simp only [Bool.not_eq_true, beq_eq_false_iff_ne, ne_eq]
      intro h9
      exact hne (by exact_mod_cast h9)
    rw [h0] at hl
    refine ⟨e.born, w, ?_, ?_, ?_, World.grownBy.refl _ _, fun v => ?_⟩
    · rw [h0]
      simp [Instr.mapEntry, run_underlying ht, getObj_map hb, K.chk, h1, hes, hk, K.stays, setObj_map hb, hid, hw2, goInt]
    · rw [h0]; exact hl
    · rw [h0]; exact hl
    · refine ⟨setBlock w b (.map (es.modify j fun e => { e with val := vv v }) clock), ?_, ⟨_, _, heap_setBlock _ _ _ hlt, ?_, ?_, ?_, mput_keys m x v hnod⟩, grown_setBlock _ _ _⟩
      · simp [Instr.entryStore, getObj_map hb, setObj_map hb, asInt, asIntOf, hfi]
      · rw [Array.toList_modify]
        exact modify_put he hnod hj hk K.inj v (fun e he => ⟨he, rfl⟩)
      · rw [Array.toList_modify, born_modify (f := fun e => { e with val := vv v }) (fun _ => rfl)]; exact hn
      · intro e' he'
        have h5 : e'.born ∈ (es.modify j fun e => { e with val := vv v }).toList.map (·.born) := List.mem_map.2 ⟨e', he', rfl⟩
        rw [Array.toList_modify, born_modify (f := fun e => { e with val := vv v }) (fun _ => rfl)] at h5
        obtain ⟨e2, h6, h7⟩ := List.mem_map.1 h5
        have := hc e2 h6
        omega
/-- Block r is an iterator over the map in block b; idx: the places of the entries that have come. -/
def IterAt (kv : κ → Value) (vv : ν → Value) (w : World) (r b : Nat) (m : List (κ × ν)) (idx : List Nat) : Prop :=
  ∃ es clock seen, w.heap[r]? = some (.mapIter (some b) clock seen clock) ∧ w.heap[b]? = some (.map es clock) ∧ es.toList.map (fun e => (e.key, e.val)) = m.map (fun p => (kv p.1, vv p.2)) ∧ (es.toList.map (·.born)).Nodup ∧ (∀ e ∈ es.toList, e.born < clock) ∧
    idx.Nodup ∧ (∀ i ∈ idx, i < m.length) ∧ seen.toList.map some = idx.map (fun i => (es[i]?).map (·.born))
theorem IterAt.lt {r : Nat} {idx : List Nat} (h : IterAt kv vv w r b m idx) : r < w.heap.size ∧ b < w.heap.size := by
  obtain ⟨es, clock, seen, hr, hb, _⟩ := h
  exact ⟨(Array.getElem?_eq_some_iff.1 hr).1, (Array.getElem?_eq_some_iff.1 hb).1⟩
theorem IterAt.grown {r : Nat} {idx : List Nat} {row : Option Nat} (h : IterAt kv vv w r b m idx) (hg : w.grownBy w1 row) (hr : some r ≠ row) (hb : some b ≠ row) : IterAt kv vv w1 r b m idx := by
  obtain ⟨h1, h2⟩ := h.lt
  obtain ⟨es, clock, seen, hr', hb', r⟩ := h
  exact ⟨es, clock, seen, (hg.block _ h1 hr).trans hr', (hg.block _ h2 hb).trans hb', r⟩
theorem IterAt.drewN {r : Nat} {idx : List Nat} (h : IterAt kv vv w r b m idx) (n : Nat) : IterAt kv vv (w.drewN n) r b m idx := h
/-- 'range': a new iterator; none of the entries has come. -/
theorem IsMap.range (h : IsMap kv vv w b m) (ht : P.underlying t = some (.map kt vt)) :
    ∃ o, (Instr.range t (.map (some b))).run P w = .ok (.pointer (some ⟨w.heap.size, 0, none⟩)) (w.alloc o) ∧ IterAt kv vv (w.alloc o) w.heap.size b m [] := by
  have hlt := h.lt
  obtain ⟨es, clock, hb, he, hn, hc, hm⟩ := h
  refine ⟨.mapIter (some b) clock #[] clock, ?_, es, clock, #[], (MapKept.heap_alloc w _).1, (Below.heap_alloc w _ b hlt).trans hb, he, hn, hc, by simp, by simp, by simp⟩

  simp [Instr.range, run_underlying ht, getObj_map hb]
theorem size_eq {es : Array MapEntry} {m : List (κ × ν)} (he : es.toList.map (fun e => (e.key, e.val)) = m.map (fun p => (kv p.1, vv p.2))) : es.size = m.length := by
  have := congrArg List.length he
  simpa using this
/-- A step of the range: nothing is left, and all have come; or one that hasn't come yet. -/
theorem IterAt.next {r : Nat} {idx : List Nat} (h : IterAt kv vv w r b m idx) (hrb : r ≠ b) :
    ((∀ ty, (Instr.next (.pointer (some ⟨r, 0, none⟩)) false ty).run P w = .ok (.tuple #[.bool false]) w) ∧ ∀ i, i < m.length → i ∈ idx) ∨
    ∃ i p w', m[i]? = some p ∧ i ∉ idx ∧ (∀ ty, (Instr.next (.pointer (some ⟨r, 0, none⟩)) false ty).run P w = .ok (.tuple #[.bool true, kv p.1, vv p.2]) w') ∧ IterAt kv vv w' r b m (idx ++ [i]) ∧ w.grownBy w' (some r) ∧
      (Instr.entry (.pointer (some ⟨r, 0, none⟩))).run P w' = .ok (.tuple #[kv p.1, vv p.2]) w' ∧ ∀ n, (Instr.entry (.pointer (some ⟨r, 0, none⟩))).run P (w'.drewN n) = .ok (.tuple #[kv p.1, vv p.2]) (w'.drewN n) := by
  obtain ⟨hr', hb'⟩ := h.lt
  obtain ⟨es, clock, seen, hr, hb, he, hn, hc, hi, hil, hs⟩ := h
  have hsz := size_eq he
  -- an entry has come just where its place stands in idx
  have hin : ∀ (i : Nat) (e : MapEntry), es[i]? = some e → (seen.contains e.born = true ↔ i ∈ idx) := by
    intro i e hie
    rw [Array.contains_iff_mem, ← Array.mem_toList_iff]
    have h1 : e.born ∈ seen.toList ↔ some e.born ∈ seen.toList.map some := by simp
    rw [h1, hs]
    constructor
    · intro h2
      obtain ⟨k, hk, h3⟩ := List.mem_map.1 h2
      have hkl := hil k hk
      rw [Array.getElem?_eq_getElem (show k < es.size by omega)] at h3
      simp only [Option.map_some, Option.some.injEq] at h3
      obtain ⟨hi1, hi2⟩ := Array.getElem?_eq_some_iff.1 hie
      have : k = i := nodup_at hn (i := k) (j := i) (by simp; omega) (by simpa using hi1) (by simp [h3, hi2])
      rwa [← this]
    · intro h2
      exact List.mem_map.2 ⟨i, h2, by rw [hie]; rfl⟩
  rcases (fun ty => run_next_at (P := P) w ty r b clock clock seen es clock hr hb hc (Nat.le_refl _)) 0 with ⟨h0, hrun⟩ | ⟨e, heL, w1, hw1, hrun⟩
  · refine .inl ⟨fun ty => hrun, fun i hi => ?_⟩
    have hes : es[i]? = some es[i] := Array.getElem?_eq_getElem (by omega)
    rcases hcc : seen.contains es[i].born with _ | _
    · exfalso
      have : es[i] ∈ leftOf es seen := by unfold leftOf; rw [Array.mem_filter]; exact ⟨Array.getElem_mem _, by rw [hcc]; rfl⟩
      rw [Array.eq_empty_of_size_eq_zero h0] at this
      simp at this
    · exact (hin i _ hes).1 hcc
  · unfold leftOf at heL
    rw [Array.mem_toList_iff, Array.mem_filter] at heL
    obtain ⟨hem, hns⟩ := heL
    obtain ⟨i, hilt, hie⟩ := Array.getElem_of_mem hem
    have hes : es[i]? = some e := by rw [Array.getElem?_eq_getElem hilt, hie]
    have hm : m[i]? = some m[i] := List.getElem?_eq_getElem (by omega)
    have hkv : e.key = kv m[i].1 ∧ e.val = vv m[i].2 := by
      have h1 : (es.toList.map (fun e => (e.key, e.val)))[i]? = some (e.key, e.val) := by rw [List.getElem?_map, Array.getElem?_toList, hes]; rfl
      rw [he, List.getElem?_map, hm] at h1
      simp only [Option.map_some, Option.some.injEq, Prod.mk.injEq] at h1
      exact ⟨h1.1.symm, h1.2.symm⟩
    have hnot : i ∉ idx := fun h => by
      have := (hin i e hes).2 h
      rw [this] at hns
      simp at hns
    have hh1 : w1.heap = w.heap := by rcases hw1 with rfl | rfl <;> rfl
    have hr2 : (setBlock w1 r (.mapIter (some b) clock (seen.push e.born) clock)).heap[r]? = some (.mapIter (some b) clock (seen.push e.born) clock) := heap_setBlock _ _ _ (by rw [hh1]; exact hr')
    have hb2 : (setBlock w1 r (.mapIter (some b) clock (seen.push e.born) clock)).heap[b]? = some (.map es clock) := by
      simp only [setBlock]
      rw [Array.getElem?_setIfInBounds, if_neg hrb, hh1]
      exact hb
    refine .inr ⟨i, m[i], setBlock w1 r (.mapIter (some b) clock (seen.push e.born) clock), hm, hnot, fun ty => ?_, ⟨es, clock, seen.push e.born, hr2, hb2, he, hn, hc, ?_, ?_, ?_⟩, ?_, ?_, fun n => ?_⟩
    · rw [← hkv.1, ← hkv.2]; exact hrun
    · rw [List.nodup_append]
      exact ⟨hi, by simp, fun a ha c hc' e' => by simp only [List.mem_singleton] at hc'; subst hc'; subst e'; exact hnot ha⟩
    · intro k hk
      rcases List.mem_append.1 hk with hk | hk
      · exact hil k hk
      · simp only [List.mem_singleton] at hk; subst hk; omega
    · rw [Array.toList_push, List.map_append, List.map_append, hs]
      simp [hes]
    · refine World.grownBy.trans (b := w1) ?_ (grown_setBlock _ _ _)
      rcases hw1 with rfl | rfl
      · exact World.grownBy.refl _ _
      · exact ⟨rfl, rfl, rfl, Nat.le_refl _, fun _ _ _ => rfl⟩
    · rw [← hkv.1, ← hkv.2]
      exact run_entry_at _ r b clock seen es clock e hr2 hb2 (by simpa using hem) hn
    · rw [← hkv.1, ← hkv.2]
      exact run_entry_at _ r b clock seen es clock e hr2 hb2 (by simpa using hem) hn
theorem nodup_le : ∀ (n : Nat) (l : List Nat), l.Nodup → (∀ x ∈ l, x < n) → l.length ≤ n
  | 0, l, _, h => by
    cases l with
    | nil => simp
    | cons x l => exact absurd (h x (by simp)) (by omega)
  | n + 1, l, hn, h => by
    have h1 := nodup_le n (l.erase n) (hn.erase n) (fun x hx => by
      have h2 := h x (List.mem_of_mem_erase hx)
      have h3 : x ≠ n := fun e => by subst e; exact (List.Nodup.not_mem_erase hn) hx
      omega)
    rw [List.length_erase] at h1
    split at h1 <;> omega
theorem IterAt.len_lt {r : Nat} {idx : List Nat} (h : IterAt kv vv w r b m idx) {i : Nat} (hi : i < m.length) (hni : i ∉ idx) : idx.length < m.length := by
  obtain ⟨es, clock, seen, _, _, _, _, _, hn, hl, _⟩ := h
  have := nodup_le m.length (i :: idx) (List.nodup_cons.2 ⟨hni, hn⟩) (fun x hx => by rcases List.mem_cons.1 hx with rfl | hx; exact hi; exact hl x hx)
  simp only [List.length_cons] at this
  omega
end
end Go.Proofs.Ytgcnklnhambpjaa
/- Whole numbers and pairs of them as keys of maps. -/
namespace Go.Proofs.Ytgcnklnhambpjaa
open Go.RowKit
theorem findNow_int (x : Int) : ∀ (es : List MapEntry) (n : Nat), (∀ e ∈ es, ∃ y : Int, e.key = .int .i64 y) →
    (Instr.findNow (.int .i64) (.int .i64 x) es n = some none ∧ ∀ e ∈ es, e.key ≠ .int .i64 x) ∨ ∃ j e, Instr.findNow (.int .i64) (.int .i64 x) es n = some (some (n + j, e.val)) ∧ es[j]? = some e ∧ e.key = .int .i64 x
  | [], n, _ => .inl ⟨rfl, by simp⟩
  | e :: es, n, h => by
    obtain ⟨y, hy⟩ := h e (by simp)
    by_cases hxy : x = y
    · subst hxy
      exact .inr ⟨0, e, by simp [Instr.findNow, Instr.sameNow, hy], rfl, hy⟩
    · rcases findNow_int x es (n + 1) (fun e' he' => h e' (by simp [he'])) with ⟨h1, h2⟩ | ⟨j, e', h1, h2, h3⟩
      · have hb : (x == y) = false := by simpa using hxy
        refine .inl ⟨by simp [Instr.findNow, Instr.sameNow, hy, hb, h1], fun e' he' => ?_⟩
        rcases List.mem_cons.1 he' with rfl | he'
        · rw [hy]; intro e; injection e with _ e; exact hxy e.symm
        · exact h2 e' he'
      · have hb : (x == y) = false := by simpa using hxy
        exact .inr ⟨j + 1, e', by simp [Instr.findNow, Instr.sameNow, hy, hb, h1]; omega, by simpa using h2, h3⟩
theorem checkKey_int {P : Program} {kt : TypeId} (hk : P.underlying kt = some (.int .i64)) (em : Bool) (n : Nat) (x : Int) (w : World) : (Instr.checkKey em (n + 1) kt (.int .i64 x)).run P w = .ok () w := by
  rw [Instr.checkKey]
  simp [run_underlying hk]
theorem keyInt {P : Program} {kt : TypeId} (hk : P.underlying kt = some (.int .i64)) : KeyOK P kt (fun x : Int => .int .i64 x) where
  chk em x w := checkKey_int hk em 9999 x w
  fnd x es w h := by
    rcases findNow_int x es 0 h with ⟨h1, h2⟩ | ⟨j, e, h1, h2, h3⟩
    · exact .inl ⟨by simp [Instr.findKey, run_underlying hk, h1], h2⟩
    · exact .inr ⟨j, e, by simp [Instr.findKey, run_underlying hk, h1], h2, h3⟩
  stays x w := by simp [Instr.keyThatStays, Instr.sameBits]
  inj x y h := by injection h
def pairV (x : Int × Int) : Value := .agg #[.int .i64 x.1, .int .i64 x.2]
theorem findAsking_pair {P : Program} {kt : TypeId} (he : ∀ (x y : Int × Int) (w : World), (Op.equal kt (pairV x) (pairV y)).run P w = .ok (decide (x = y)) w) (x : Int × Int) (w : World) : ∀ (es : List MapEntry) (n : Nat), (∀ e ∈ es, ∃ y : Int × Int, e.key = pairV y) →
    ((Instr.findAsking kt (pairV x) es n).run P w = .ok none w ∧ ∀ e ∈ es, e.key ≠ pairV x) ∨ ∃ j e, (Instr.findAsking kt (pairV x) es n).run P w = .ok (some (n + j, e.val)) w ∧ es[j]? = some e ∧ e.key = pairV x
  | [], n, _ => .inl ⟨by simp [Instr.findAsking], by simp⟩
  | e :: es, n, h => by
    obtain ⟨y, hy⟩ := h e (by simp)
    have hinj : ∀ a c : Int × Int, pairV a = pairV c → a = c := fun a c e => by
      simp only [pairV, Value.agg.injEq] at e
      injection e with e
      simp at e
      exact Prod.ext e.1 e.2
    by_cases hxy : x = y
    · subst hxy
      exact .inr ⟨0, e, by simp [Instr.findAsking, hy, he], rfl, hy⟩
    · rcases findAsking_pair he x w es (n + 1) (fun e' he' => h e' (by simp [he'])) with ⟨h1, h2⟩ | ⟨j, e', h1, h2, h3⟩
      · refine .inl ⟨by simp [Instr.findAsking, hy, he, hxy, h1], fun e' he' => ?_⟩
        rcases List.mem_cons.1 he' with rfl | he'
        · rw [hy]; intro e; exact hxy (hinj _ _ e).symm
        · exact h2 e' he'
      · exact .inr ⟨j + 1, e', by simp [Instr.findAsking, hy, he, hxy, h1]; omega, by simpa using h2, h3⟩
theorem keyPair {P : Program} {kt : TypeId} {fs : Array Field} (hk : P.underlying kt = some (.struct fs)) (hc : ∀ em x w, (Instr.checkKey em 10000 kt (pairV x)).run P w = .ok () w) (he : ∀ (x y : Int × Int) (w : World), (Op.equal kt (pairV x) (pairV y)).run P w = .ok (decide (x = y)) w) : KeyOK P kt pairV where
  chk := hc
  fnd x es w h := by
    have h0 : Instr.findNow (.struct fs) (pairV x) es 0 = none ∨ es = [] := by
      cases es with
      | nil => exact .inr rfl
      | cons e es => exact .inl (by simp [Instr.findNow, Instr.sameNow])
    rcases h0 with h0 | rfl
    · rcases findAsking_pair he x w es 0 h with ⟨h1, h2⟩ | ⟨j, e, h1, h2, h3⟩
      · exact .inl ⟨by simp [Instr.findKey, run_underlying hk, h0, h1], h2⟩
      · exact .inr ⟨j, e, by simp [Instr.findKey, run_underlying hk, h0, h1], h2, h3⟩
    · exact .inl ⟨by simp [Instr.findKey, run_underlying hk, Instr.findNow], by simp⟩
  stays x w := by simp [Instr.keyThatStays, Instr.sameBits, pairV]
  inj a c e := by
    simp only [pairV, Value.agg.injEq] at e
    injection e with e
    simp at e
    exact Prod.ext e.1 e.2
end Go.Proofs.Ytgcnklnhambpjaa
/- The keys of the counts of a movement's messages. -/
namespace Go.Proofs.Ytgcnklnhambpjaa
open Go.RowKit
theorem eqPart (d : Nat) (w : World) (x y : Int × Int) :
    (Op.equalIn (d + 2) 78 (.agg #[.int .i64 x.1, .int .i64 x.2]) (.agg #[.int .i64 y.1, .int .i64 y.2])).run Try.prog w = .ok (decide (x = y)) w := by
  have e : decide (x = y) = (x.1 == y.1 && x.2 == y.2) := by
    obtain ⟨a0, a1⟩ := x
    obtain ⟨b0, b1⟩ := y
    rw [Bool.eq_iff_iff]
    simp
  rw [e]
  refine eqAgg_of Try.underlying78 (by kernel_rfl) ?_
  refine eqFields_cons (by rfl) (by go_simp; rfl) (by go_simp; rfl) (by go_simp) ?_
  exact eqFields_last (by rfl) (by go_simp; rfl) (by go_simp; rfl) (by go_simp)
theorem checkPart (em : Bool) (x : Int × Int) (w : World) : (Instr.checkKey em 10000 78 (pairV x)).run Try.prog w = .ok () w := by
  have h := fun y => checkKey_int Try.underlying3 em 9998 y w
  unfold pairV
  show (Instr.checkKey em (9999 + 1) _ _).run _ _ = _
  rw [Instr.checkKey]
  go_simp
theorem keyPart : KeyOK Try.prog 78 pairV :=
  keyPair Try.underlying78 checkPart (fun x y w => eqPart 9998 w x y)
end Go.Proofs.Ytgcnklnhambpjaa
/- The document of a movement by different messages: what the code computes, as a fold. -/
namespace Go.Proofs.Ytgcnklnhambpjaa
open Go.RowKit
structure OfS where
  out : Doc
  cnt : List ((Int × Int) × Int)
  ended : Bool
  ans : Int
def bump (c : List ((Int × Int) × Int)) (x : Int × Int) : List ((Int × Int) × Int) := mput c x ((mget c x).getD 0 + 1)
def ofStep (mv : Int) (s : OfS) (m : Msg) : OfS :=
  if m.mv ≠ mv then s
  else if m.kd = 1 then { s with out := { s.out with st := 1, fr := m.fr, tt := m.tt, se := m.al }, cnt := bump s.cnt (m.kd, m.nu) }
  else if m.kd = 2 then { s with out := { s.out with tt := m.tt, ch := s.out.ch + 1 }, cnt := bump s.cnt (m.kd, m.nu) }
  else if m.kd = 3 then { s with out := { s.out with re := m.al }, ans := 2, cnt := bump s.cnt (m.kd, m.nu) }
  else if m.kd = 4 then { s with ans := 3, cnt := bump s.cnt (3, m.nu) }
  else if m.kd = 5 then { s with ended := true }
  else { s with cnt := bump s.cnt (m.kd, m.nu) }
def ofInit (mv : Int) : OfS := ⟨⟨mv, 0, 0, 0, 0, 0, 0⟩, [], false, 0⟩
def ofFold (mv : Int) (l : List Msg) : OfS := l.foldl (ofStep mv) (ofInit mv)
def ofEnd (mv : Int) (s : OfS) : Doc :=
  if s.out.st = 0 then ⟨mv, 0, 0, 0, 0, 0, 0⟩
  else if s.cnt.any (fun p => decide (1 < p.2)) = true then ⟨mv, 5, 0, 0, 0, 0, 0⟩
  else if s.ans = 0 then s.out
  else if s.ended = true then { s.out with st := 4 }
  else { s.out with st := s.ans }
def ofR (mv : Int) (l : List Msg) : Doc := ofEnd mv (ofFold mv l)
theorem ofFold_snoc (mv : Int) (l : List Msg) (m : Msg) : ofFold mv (l ++ [m]) = ofStep mv (ofFold mv l) m := by unfold ofFold; rw [List.foldl_append]; rfl
theorem mget_bump_le (c : List ((Int × Int) × Int)) (k : Int) (h : ∀ p ∈ c, 0 ≤ p.2 ∧ p.2 ≤ k) (hk : 0 ≤ k) (x : Int × Int) : 0 ≤ (mget c x).getD 0 ∧ (mget c x).getD 0 ≤ k := by
  unfold mget
  cases hf : c.find? (fun p => decide (p.1 = x)) with
  | none => exact ⟨Int.le_refl _, hk⟩
  | some p => exact h p (List.mem_of_find?_eq_some hf)
theorem bump_le (c : List ((Int × Int) × Int)) (k : Int) (h : ∀ p ∈ c, 0 ≤ p.2 ∧ p.2 ≤ k) (hk : 0 ≤ k) (x : Int × Int) : ∀ p ∈ bump c x, 0 ≤ p.2 ∧ p.2 ≤ k + 1 := by
  have hg := mget_bump_le c k h hk x
  intro p hp
  unfold bump mput at hp
  split at hp
  · obtain ⟨q, hq, rfl⟩ := List.mem_map.1 hp
    have := h q hq
    split
    · dsimp only; omega
    · omega
  · rcases List.mem_append.1 hp with hp | hp
    · have := h p hp; omega
    · simp only [List.mem_singleton] at hp; subst hp; dsimp only; omega
/-- Bounds on what is counted. -/
theorem ofFold_le (mv : Int) (l : List Msg) : (∀ p ∈ (ofFold mv l).cnt, 0 ≤ p.2 ∧ p.2 ≤ l.length) ∧ 0 ≤ (ofFold mv l).out.ch ∧ (ofFold mv l).out.ch ≤ l.length := by
  suffices h : ∀ n, ∀ l : List Msg, l.length = n → (∀ p ∈ (ofFold mv l).cnt, 0 ≤ p.2 ∧ p.2 ≤ l.length) ∧ 0 ≤ (ofFold mv l).out.ch ∧ (ofFold mv l).out.ch ≤ l.length from h _ l rfl
  intro n
  induction n with
  | zero => intro l h; rw [List.eq_nil_of_length_eq_zero h]; exact ⟨by simp [ofFold, ofInit], by simp [ofFold, ofInit], by simp [ofFold, ofInit]⟩
  | succ n ih =>
    intro l h
    rcases List.eq_nil_or_concat l with rfl | ⟨l', m, rfl⟩
    · simp at h
    · rw [List.concat_eq_append, ofFold_snoc]
      obtain ⟨h1, h2, h3⟩ := ih l' (by simpa using h)
      generalize ofFold mv l' = s at h1 h2 h3
      have hb := fun x => bump_le s.cnt l'.length h1 (by omega) x
      rw [List.length_append, List.length_singleton]
      have h1' : ∀ p ∈ s.cnt, 0 ≤ p.2 ∧ p.2 ≤ ((l'.length + 1 : Nat) : Int) := fun p hp => by have := h1 p hp; omega
      unfold ofStep
      repeat' split
      all_goals refine ⟨?_, ?_, ?_⟩
      all_goals first | exact h1' | exact hb _ | ((try dsimp only); omega) | (intro p hp; have := hb _ p hp; push_cast; omega)
end Go.Proofs.Ytgcnklnhambpjaa
