/- Joined texts of the seat: contracts and plain laws that the rows import. -/
import Derived.Test.YtfhlkkjochjhoaaK7
import Derived.Test.YtfhlkkjochjhoaaK10
import Derived.Test.YtfhlkkjochjhoaaK6
import Derived.Test.YtfhlkkjochjhoaaK1
import Derived.Test.YtfhlkkjochjhoaaK2
import Derived.Deep.Slices
import Derived.Deep.Fields
import Derived.ChangeSame
import Derived.ChangeArms
import Derived.WideShapes
import Derived.OpenShut
set_option linter.unusedVariables false
set_option linter.unusedSimpArgs false
/- NetworkDelivers, NetworkCounts return true. -/
namespace Go.Proofs.Ytfhlkkjochjhoaa
open Go.RowKit
theorem fewN_len {n m : Nat} (h : fewN n m = true) : n ≤ 65 ∧ m ≤ 257 := by
  have := of_decide_eq_true h
  omega
set_option maxHeartbeats 8000000 in
set_option maxRecDepth 100000 in
theorem ldelivers_any (l : List Env) (A : Option Addr) (c : Nat) (s : List Int) (B : Option Addr) (d : Nat) (nd : Int) (w : World) (hR1 : Rd EEnv w A l) (hR2 : Rd EI w B s) : Calls Try.prog 3 #[.slice A l.length c, .slice B s.length d, .int .i64 nd] w (LatPost true w) := by
  unfold LatPost
  have hle1 := hR1.le
  have hle2 := hR2.le
  have hfew := fun W => rfewN_any l.length s.length A B c d W hle1 hle2
  by_cases hf : fewN l.length s.length = true
  · rw [hf] at hfew
    obtain ⟨hn1, hn2⟩ := fewN_len hf
    have hcl := fun W (h : Below w.heap.size w W) => cloneE l A c W (hR1.below h) (by omega)
    have hcs := fun W (h : Below w.heap.size w W) => cloneI s B d W (hR2.below h) (by omega)
    unfold Made at hcl hcs
    have HCL := hid_of hcl
    have HCS := hid_of hcs
    have h1 := fun A c W (h : Rd EEnv W A l) => netCheck_any l A c W h
    have h2 := fun W (h : Below w.heap.size w W) => rnetCheck_any l A c W (hR1.below h)
    have h3 := fun A B c d W (h : Rd EEnv W A l) (h' : Rd EI W B s) => deliver_any l s nd A B c d W h h'
    have h4 := fun W (h : Below w.heap.size w W) => rdeliver_any l s nd A B c d W (hR1.below h) (hR2.below h)
    have h5 := fun A B c d W (h : Rd EEnv W A l) (h' : Rd EI W B s) => known_any l s nd A B c d W h h'
    have h6 := fun W (h : Below w.heap.size w W) => rknown_any l s nd A B c d W (hR1.below h) (hR2.below h)
    unfold R2 at h1 h2
    unfold Made2 at h3 h4 h5 h6
    generalize knownR l s nd = q3 at h5 h6
    generalize toR l s nd = q2 at h3 h4
    generalize netR l = q1 at h1 h2
    obtain ⟨p1, p2⟩ := q1
    obtain ⟨ds, e1⟩ := q2
    obtain ⟨ks, e2⟩ := q3
    dsimp only at h1 h2 h3 h4 h5 h6
    have H1 := hid_of h1
    have H2 := hid_of h2
    have H3 := hid_of h3
    have H4 := hid_of h4
    have H5 := hid_of h5
    have H6 := hid_of h6
    clear hcl hcs hf hR1 hR2 hn1 hn2 hle1 hle2 h1 h2 h3 h4 h5 h6
    go_enter Try.func3, Try.ntmps3
    go_wp2_with fail
    refine (awake_any _).mono ?_
    rintro e w1 ⟨rfl, hb⟩
    have HB := hid_of hb
    clear hb
    go_wp2_with fail
    refine (hfew _).mono ?_
    rintro e w' ⟨rfl, rfl⟩
    go_wp2_with fail
    refine (HCL.out w1 HB.out).mono ?_
    rintro e w3 ⟨v, rfl, hO, hb⟩
    obtain ⟨Aa, ca, rfl, _, hR⟩ := hO.rd
    replace HB := hid_of (below_then HB.out HB.out.size hb)
    have Ra := hid_of hR
    clear hO hR hb
    go_wp2_with fail
    refine (H1.out Aa ca w3 Ra.out).mono ?_
    rintro e w4 ⟨rfl, hb⟩
    replace Ra := hid_of (Ra.out.below hb)
    replace HB := hid_of (below_then HB.out HB.out.size hb)
    clear hb
    clear Ra
    go_wp2_with fail
    refine (H2.out w4 HB.out).mono ?_
    rintro e w5 ⟨rfl, hb⟩
    replace HB := hid_of (below_then HB.out HB.out.size hb)
    clear hb
    go_wp2_with fail
    refine (HCL.out w5 HB.out).mono ?_
    rintro e w6 ⟨v, rfl, hO, hb⟩
    obtain ⟨Aa, ca, rfl, _, hR⟩ := hO.rd
    replace HB := hid_of (below_then HB.out HB.out.size hb)
    have Ra := hid_of hR
    clear hO hR hb
    go_wp2_with fail
    refine (HCS.out w6 HB.out).mono ?_
    rintro e w7 ⟨v, rfl, hO, hb⟩
    obtain ⟨Ab, cb, rfl, _, hR⟩ := hO.rd
    replace Ra := hid_of (Ra.out.below hb)
    replace HB := hid_of (below_then HB.out HB.out.size hb)
    have Rb := hid_of hR
    clear hO hR hb
    go_wp2_with fail
    refine (H3.out Aa Ab ca cb w7 Ra.out Rb.out).mono ?_
    rintro e w8 ⟨v, rfl, hO, hb⟩
    obtain ⟨Ax, cx, rfl, _, hR⟩ := hO.rd
    replace Ra := hid_of (Ra.out.below hb)
    replace Rb := hid_of (Rb.out.below hb)
    replace HB := hid_of (below_then HB.out HB.out.size hb)
    have Rx := hid_of hR
    clear hO hR hb
    clear Ra Rb
    go_wp2_with fail
    refine (H4.out w8 HB.out).mono ?_
    rintro e w9 ⟨v, rfl, hO, hb⟩
    obtain ⟨Ay, cy, rfl, _, hR⟩ := hO.rd
    replace Rx := hid_of (Rx.out.below hb)
    replace HB := hid_of (below_then HB.out HB.out.size hb)
    have Ry := hid_of hR
    clear hO hR hb
    go_wp2_with fail
    refine (HCL.out w9 HB.out).mono ?_
    rintro e w10 ⟨v, rfl, hO, hb⟩
    obtain ⟨Aa, ca, rfl, _, hR⟩ := hO.rd
    replace Rx := hid_of (Rx.out.below hb)
    replace Ry := hid_of (Ry.out.below hb)
    replace HB := hid_of (below_then HB.out HB.out.size hb)
    have Ra := hid_of hR
    clear hO hR hb
    go_wp2_with fail
    refine (HCS.out w10 HB.out).mono ?_
    rintro e w11 ⟨v, rfl, hO, hb⟩
    obtain ⟨Ab, cb, rfl, _, hR⟩ := hO.rd
    replace Rx := hid_of (Rx.out.below hb)
    replace Ry := hid_of (Ry.out.below hb)
    replace Ra := hid_of (Ra.out.below hb)
    replace HB := hid_of (below_then HB.out HB.out.size hb)
    have Rb := hid_of hR
    clear hO hR hb
    go_wp2_with fail
    refine (H5.out Aa Ab ca cb w11 Ra.out Rb.out).mono ?_
    rintro e w12 ⟨v, rfl, hO, hb⟩
    obtain ⟨Au, cu, rfl, _, hR⟩ := hO.rd
    replace Rx := hid_of (Rx.out.below hb)
    replace Ry := hid_of (Ry.out.below hb)
    replace Ra := hid_of (Ra.out.below hb)
    replace Rb := hid_of (Rb.out.below hb)
    replace HB := hid_of (below_then HB.out HB.out.size hb)
    have Ru := hid_of hR
    clear hO hR hb
    clear Ra Rb
    go_wp2_with fail
    refine (H6.out w12 HB.out).mono ?_
    rintro e w13 ⟨v, rfl, hO, hb⟩
    obtain ⟨Av, cv, rfl, _, hR⟩ := hO.rd
    replace Rx := hid_of (Rx.out.below hb)
    replace Ry := hid_of (Ry.out.below hb)
    replace Ru := hid_of (Ru.out.below hb)
    replace HB := hid_of (below_then HB.out HB.out.size hb)
    have Rv := hid_of hR
    clear hO hR hb
    have hs1 : Calls Try.prog 20 #[.slice Ax ds.length cx, .slice Ay ds.length cy] w13 fun e w' => e = .returned (.bool true) ∧ Below w13.heap.size w13 w' := by
      have h := sameE ds ds Ax Ay cx cy w13 Rx.out Ry.out
      rwa [decide_eq_true rfl] at h
    clear Rx Ry
    go_wp2_with fail
    refine (hs1).mono ?_
    rintro e w14 ⟨rfl, hb⟩
    replace Ru := hid_of (Ru.out.below hb)
    replace Rv := hid_of (Rv.out.below hb)
    replace HB := hid_of (below_then HB.out HB.out.size hb)
    clear hb hs1
    have hs2 : Calls Try.prog 21 #[.slice Au ks.length cu, .slice Av ks.length cv] w14 fun e w' => e = .returned (.bool true) ∧ Below w14.heap.size w14 w' := by
      have h := sameM ks ks Au Av cu cv w14 Ru.out Rv.out
      rwa [decide_eq_true rfl] at h
    clear Ru Rv
    go_wp2_with fail
    refine (hs2).mono ?_
    rintro e w15 ⟨rfl, hb⟩
    replace HB := hid_of (below_then HB.out HB.out.size hb)
    clear hb hs2
    go_wp2_with fail
    go_ret
    exact ⟨rfl, HB.out⟩
  · have hf2 : fewN l.length s.length = false := by simpa using hf
    rw [hf2] at hfew
    clear hf hf2 hR1 hR2
    go_enter Try.func3, Try.ntmps3
    go_wp2_with fail
    refine (awake_any _).mono ?_
    rintro e w1 ⟨rfl, hb⟩
    have HB := hid_of hb
    clear hb
    go_wp2_with fail
    refine (hfew _).mono ?_
    rintro e w' ⟨rfl, rfl⟩
    go_wp2_with fail
    go_ret
    exact ⟨rfl, HB.out⟩
set_option maxHeartbeats 8000000 in
set_option maxRecDepth 100000 in
theorem lcounts_any (l : List Env) (A : Option Addr) (c : Nat) (s : List Int) (B : Option Addr) (d : Nat) (w : World) (hR1 : Rd EEnv w A l) (hR2 : Rd EI w B s) : Calls Try.prog 4 #[.slice A l.length c, .slice B s.length d] w (LatPost true w) := by
  unfold LatPost
  have hle1 := hR1.le
  have hle2 := hR2.le
  have hfew := fun W => rfewN_any l.length s.length A B c d W hle1 hle2
  by_cases hf : fewN l.length s.length = true
  · rw [hf] at hfew
    obtain ⟨hn1, hn2⟩ := fewN_len hf
    have hcl := fun W (h : Below w.heap.size w W) => cloneE l A c W (hR1.below h) (by omega)
    have hcs := fun W (h : Below w.heap.size w W) => cloneI s B d W (hR2.below h) (by omega)
    unfold Made at hcl hcs
    have HCL := hid_of hcl
    have HCS := hid_of hcs
    have h1 := fun A B c d W (h : Rd EEnv W A l) (h' : Rd EI W B s) => lost_any l s A B c d W h h'
    have h2 := fun W (h : Below w.heap.size w W) => rlost_any l s A B c d W (hR1.below h) (hR2.below h)
    have h3 := fun A B c d W (h : Rd EEnv W A l) (h' : Rd EI W B s) => repeated_any l s A B c d W h h'
    have h4 := fun W (h : Below w.heap.size w W) => rrepeated_any l s A B c d W (hR1.below h) (hR2.below h)
    have h5 := fun A B c d W (h : Rd EEnv W A l) (h' : Rd EI W B s) => crossed_any l s A B c d W h h'
    have h6 := fun W (h : Below w.heap.size w W) => rcrossed_any l s A B c d W (hR1.below h) (hR2.below h)
    unfold R2 at h3 h4 h5 h6
    unfold Made2 at h1 h2
    generalize lostR l s = q1 at h1 h2
    generalize repR l s = q2 at h3 h4
    generalize crR l s = q3 at h5 h6
    obtain ⟨ls, e1⟩ := q1
    obtain ⟨n2, e2⟩ := q2
    obtain ⟨n3, e3⟩ := q3
    dsimp only at h1 h2 h3 h4 h5 h6
    have H1 := hid_of h1
    have H2 := hid_of h2
    have H3 := hid_of h3
    have H4 := hid_of h4
    have H5 := hid_of h5
    have H6 := hid_of h6
    clear hcl hcs hf hR1 hR2 hn1 hn2 hle1 hle2 h1 h2 h3 h4 h5 h6
    go_enter Try.func4, Try.ntmps4
    go_wp2_with fail
    refine (awake_any _).mono ?_
    rintro e w1 ⟨rfl, hb⟩
    have HB := hid_of hb
    clear hb
    go_wp2_with fail
    refine (hfew _).mono ?_
    rintro e w' ⟨rfl, rfl⟩
    go_wp2_with fail
    refine (HCL.out w1 HB.out).mono ?_
    rintro e w3 ⟨v, rfl, hO, hb⟩
    obtain ⟨Aa, ca, rfl, _, hR⟩ := hO.rd
    replace HB := hid_of (below_then HB.out HB.out.size hb)
    have Ra := hid_of hR
    clear hO hR hb
    go_wp2_with fail
    refine (HCS.out w3 HB.out).mono ?_
    rintro e w4 ⟨v, rfl, hO, hb⟩
    obtain ⟨Ab, cb, rfl, _, hR⟩ := hO.rd
    replace Ra := hid_of (Ra.out.below hb)
    replace HB := hid_of (below_then HB.out HB.out.size hb)
    have Rb := hid_of hR
    clear hO hR hb
    go_wp2_with fail
    refine (H1.out Aa Ab ca cb w4 Ra.out Rb.out).mono ?_
    rintro e w5 ⟨v, rfl, hO, hb⟩
    obtain ⟨Ax, cx, rfl, _, hR⟩ := hO.rd
    replace Ra := hid_of (Ra.out.below hb)
    replace Rb := hid_of (Rb.out.below hb)
    replace HB := hid_of (below_then HB.out HB.out.size hb)
    have Rx := hid_of hR
    clear hO hR hb
    clear Ra Rb
    go_wp2_with fail
    refine (H2.out w5 HB.out).mono ?_
    rintro e w6 ⟨v, rfl, hO, hb⟩
    obtain ⟨Ay, cy, rfl, _, hR⟩ := hO.rd
    replace Rx := hid_of (Rx.out.below hb)
    replace HB := hid_of (below_then HB.out HB.out.size hb)
    have Ry := hid_of hR
    clear hO hR hb
    go_wp2_with fail
    refine (HCL.out w6 HB.out).mono ?_
    rintro e w7 ⟨v, rfl, hO, hb⟩
    obtain ⟨Aa, ca, rfl, _, hR⟩ := hO.rd
    replace Rx := hid_of (Rx.out.below hb)
    replace Ry := hid_of (Ry.out.below hb)
    replace HB := hid_of (below_then HB.out HB.out.size hb)
    have Ra := hid_of hR
    clear hO hR hb
    go_wp2_with fail
    refine (HCS.out w7 HB.out).mono ?_
    rintro e w8 ⟨v, rfl, hO, hb⟩
    obtain ⟨Ab, cb, rfl, _, hR⟩ := hO.rd
    replace Rx := hid_of (Rx.out.below hb)
    replace Ry := hid_of (Ry.out.below hb)
    replace Ra := hid_of (Ra.out.below hb)
    replace HB := hid_of (below_then HB.out HB.out.size hb)
    have Rb := hid_of hR
    clear hO hR hb
    go_wp2_with fail
    refine (H3.out Aa Ab ca cb w8 Ra.out Rb.out).mono ?_
    rintro e w9 ⟨rfl, hb⟩
    replace Rx := hid_of (Rx.out.below hb)
    replace Ry := hid_of (Ry.out.below hb)
    replace Ra := hid_of (Ra.out.below hb)
    replace Rb := hid_of (Rb.out.below hb)
    replace HB := hid_of (below_then HB.out HB.out.size hb)
    clear hb
    clear Ra Rb
    go_wp2_with fail
    refine (H4.out w9 HB.out).mono ?_
    rintro e w10 ⟨rfl, hb⟩
    replace Rx := hid_of (Rx.out.below hb)
    replace Ry := hid_of (Ry.out.below hb)
    replace HB := hid_of (below_then HB.out HB.out.size hb)
    clear hb
    go_wp2_with fail
    refine (HCL.out w10 HB.out).mono ?_
    rintro e w11 ⟨v, rfl, hO, hb⟩
    obtain ⟨Aa, ca, rfl, _, hR⟩ := hO.rd
    replace Rx := hid_of (Rx.out.below hb)
    replace Ry := hid_of (Ry.out.below hb)
    replace HB := hid_of (below_then HB.out HB.out.size hb)
    have Ra := hid_of hR
    clear hO hR hb
    go_wp2_with fail
    refine (HCS.out w11 HB.out).mono ?_
    rintro e w12 ⟨v, rfl, hO, hb⟩
    obtain ⟨Ab, cb, rfl, _, hR⟩ := hO.rd
    replace Rx := hid_of (Rx.out.below hb)
    replace Ry := hid_of (Ry.out.below hb)
    replace Ra := hid_of (Ra.out.below hb)
    replace HB := hid_of (below_then HB.out HB.out.size hb)
    have Rb := hid_of hR
    clear hO hR hb
    go_wp2_with fail
    refine (H5.out Aa Ab ca cb w12 Ra.out Rb.out).mono ?_
    rintro e w13 ⟨rfl, hb⟩
    replace Rx := hid_of (Rx.out.below hb)
    replace Ry := hid_of (Ry.out.below hb)
    replace Ra := hid_of (Ra.out.below hb)
    replace Rb := hid_of (Rb.out.below hb)
    replace HB := hid_of (below_then HB.out HB.out.size hb)
    clear hb
    clear Ra Rb
    go_wp2_with fail
    refine (H6.out w13 HB.out).mono ?_
    rintro e w14 ⟨rfl, hb⟩
    replace Rx := hid_of (Rx.out.below hb)
    replace Ry := hid_of (Ry.out.below hb)
    replace HB := hid_of (below_then HB.out HB.out.size hb)
    clear hb
    have hs1 : Calls Try.prog 28 #[.slice Ax ls.length cx, .slice Ay ls.length cy] w14 fun e w' => e = .returned (.bool true) ∧ Below w14.heap.size w14 w' := by
      have h := sameI ls ls Ax Ay cx cy w14 Rx.out Ry.out
      rwa [decide_eq_true rfl] at h
    clear Rx Ry
    go_wp2_with fail
    refine (hs1).mono ?_
    rintro e w15 ⟨rfl, hb⟩
    replace HB := hid_of (below_then HB.out HB.out.size hb)
    clear hb hs1
    go_wp2_with fail
    go_ret
    exact ⟨rfl, HB.out⟩
  · have hf2 : fewN l.length s.length = false := by simpa using hf
    rw [hf2] at hfew
    clear hf hf2 hR1 hR2
    go_enter Try.func4, Try.ntmps4
    go_wp2_with fail
    refine (awake_any _).mono ?_
    rintro e w1 ⟨rfl, hb⟩
    have HB := hid_of hb
    clear hb
    go_wp2_with fail
    refine (hfew _).mono ?_
    rintro e w' ⟨rfl, rfl⟩
    go_wp2_with fail
    go_ret
    exact ⟨rfl, HB.out⟩
end Go.Proofs.Ytfhlkkjochjhoaa
/- Arguments that are slices, opened as lists: whatever the element's cells. -/
namespace Go.Proofs.Ytfhlkkjochjhoaa
open Go.RowKit Go.ChangeShapes Go.WideShapes Go.Deep
section
variable {H : Type} {enc : TypeId × Value → H} {P : Program} {w : World} {base : Nat} {spare : Nat → Bool} {held : Bool}
/-- Element by element, as a list. -/
theorem rdG_of_elems {α : Type} [Inhabited α] {E : Enc α} {w : World} {a : Addr} {len : Nat} {p : α → Prop} (hl : len ≤ 9223372036854775807) (h : ∀ i, i < len → ∃ x : α, p x ∧ ∀ c v, (E.enc x)[c]? = some v → w.cell? (a.add (i * E.k + c)) = some v) : ∃ xs : List α, xs.length = len ∧ Rd E w (some a) xs ∧ ∀ x ∈ xs, p x := by
  have h' : ∀ i : Nat, ∃ x : α, i < len → p x ∧ ∀ c v, (E.enc x)[c]? = some v → w.cell? (a.add (i * E.k + c)) = some v := fun i => by
    by_cases hi : i < len
    · obtain ⟨x, hx⟩ := h i hi; exact ⟨x, fun _ => hx⟩
    · exact ⟨default, fun h => absurd h hi⟩
  obtain ⟨f, hf⟩ := Classical.axiomOfChoice h'
  have hlen : ((List.range len).map f).length = len := by simp
  refine ⟨(List.range len).map f, hlen, ⟨by rw [hlen]; exact hl, fun _ => ⟨a, rfl, fun j v hv => ?_⟩⟩, fun x hx => ?_⟩
  · have hj : j < len * E.k := by
      have := (List.getElem?_eq_some_iff.1 hv).1
      rwa [E.flat_length, hlen] at this
    have hi : j / E.k < len := Nat.div_lt_of_lt_mul (by rwa [Nat.mul_comm])
    have hm : j % E.k < E.k := Nat.mod_lt _ E.pos
    have hx : ((List.range len).map f)[j / E.k]'(by rw [hlen]; exact hi) = f (j / E.k) := by simp
    have h1 : (E.enc (((List.range len).map f)[j / E.k]'(by rw [hlen]; exact hi)))[j % E.k]? = some ((E.enc (f (j / E.k)))[j % E.k]'(by rw [E.len]; exact hm)) := by
      rw [hx]; exact List.getElem?_eq_getElem _
    have h2 := E.flat_get _ (j / E.k) (j % E.k) (by rw [hlen]; exact hi) _ h1
    have hd : j / E.k * E.k + j % E.k = j := Nat.div_add_mod' j E.k
    rw [hd, hv] at h2
    simp only [Option.some.injEq] at h2
    have h3 := (hf (j / E.k) hi).2 (j % E.k) v (by rw [h2]; exact List.getElem?_eq_getElem _)
    rwa [hd] at h3
  · obtain ⟨i, hi, rfl⟩ := List.mem_map.1 hx
    exact (hf i (List.mem_range.1 hi)).1
theorem openSl {α : Type} [Inhabited α] (E : Enc α) (p : α → Prop) {r : Reach} {b0 : Nat} {t e : TypeId} {v : Value} {d : DataW H} {pl : List MemPlace} (ht : P.underlying t = some (.slice e)) (hC : P.cellsOf e = E.k)
    (hel : ∀ n cs y, DataW.trod enc P w base spare held n e cs = some y → ∃ x : α, cs = E.enc x ∧ p x)
    (hv : Value.okWide P w r b0 t v) (h : DataW.Trod enc P w base spare held t v d pl) : ∃ (A : Option Addr) (c : Nat) (xs : List α), v = .slice A xs.length c ∧ Rd E w A xs ∧ ∀ x ∈ xs, p x := by
  obtain ⟨a, len, cap, rfl⟩ := okWide_slice ht hv
  obtain ⟨fuel, hf⟩ := h
  rcases open_slice ht hf with h0 | ⟨x, l, c, m, n, D, Pl, hcs, hb, hl, hm, hmm, hx, hi⟩
  · have h0 := h0.1
    simp [Value.cells] at h0
    obtain ⟨rfl, rfl, rfl⟩ := h0
    exact ⟨none, 0, [], rfl, Rd.nil _ _ _, by simp⟩
  · simp [Value.cells] at hcs
    obtain ⟨rfl, rfl, rfl⟩ := hcs
    obtain ⟨xs, hx, hR, hp⟩ := rdG_of_elems (E := E) (w := w) (a := x) (len := len) (p := p) (by simp only [maxLen] at hm; omega) (fun i hil => by
      have hlm : len ≤ m := by rw [hmm]; split <;> omega
      obtain ⟨cs', hc, ht'⟩ := hi i (by omega)
      obtain ⟨y, rfl, hpy⟩ := hel _ _ _ ht'
      obtain ⟨_, hcl, hat⟩ := World.cells?_some hc
      refine ⟨y, hpy, fun c v hcv => ?_⟩
      have hck : c < P.cellsOf e := by rw [hC, ← E.len y]; exact (List.getElem?_eq_some_iff.1 hcv).1
      rw [← hC, ← Go.Deep.add_add, hat c hck]
      exact hcv)
    exact ⟨some x, cap, xs, by rw [hx], hR, hp⟩
end
section
variable {H : Type} {enc : TypeId × Value → H} {w : World} {base : Nat} {spare : Nat → Bool} {held : Bool}
theorem intC {n : Nat} {cs : List Value} {y : DataW H × List MemPlace} (h : DataW.trod enc Try.prog w base spare held n 3 cs = some y) : ∃ k : Int, cs = [.int .i64 k] ∧ (Lit.int .i64 k).wf = true := by
  obtain ⟨k, hk, _, hw⟩ := DataW.trod_int Try.underlying3 h
  exact ⟨k, hk, hw⟩
theorem one_of {cs : List Value} {i : Nat} {k : Int} (hi : i < cs.length) (h : (cs.drop i).take 1 = [.int .i64 k]) : cs[i]? = some (.int .i64 k) := by
  have h2 : (cs.drop i).take 1 = [cs[i]] := by rw [List.drop_eq_getElem_cons hi]; rfl
  rw [h2] at h
  simp only [List.cons.injEq, and_true] at h
  rw [List.getElem?_eq_getElem hi, h]
set_option maxRecDepth 100000 in
theorem msgC {n : Nat} {cs : List Value} {y : DataW H × List MemPlace} (h : DataW.trod enc Try.prog w base spare held n 31 cs = some y) : ∃ x : Msg, cs = x.cells := by
  obtain ⟨ys, n', _, _, hl, hyl, hf⟩ := DataW.trod_struct Try.underlying31 h
  have hl7 : cs.length = 7 := hl.trans (by kernel_rfl)
  have g : ∀ (i : Nat) (f : Field), (i < 7) → Try.prog.cellsOf 3 = 1 → f.offset = i → f.type = 3 → DataW.trod enc Try.prog w base spare held n' f.type ((cs.drop f.offset).take (Try.prog.cellsOf f.type)) = ys[i]? → (hyi : i < ys.length) → ∃ k : Int, cs[i]? = some (.int .i64 k) := fun i f hi hC ho ht hh hyi => by
    rw [ho, ht, hC, List.getElem?_eq_getElem hyi] at hh
    obtain ⟨k, hk, _⟩ := intC hh
    exact ⟨k, one_of (by omega) hk⟩
  have hC : Try.prog.cellsOf 3 = 1 := by kernel_rfl
  have hy7 : ys.length = 7 := hyl.trans rfl
  obtain ⟨k0, h0⟩ := g 0 _ (by decide) hC rfl rfl (hf 0 _ rfl) (by omega)
  obtain ⟨k1, h1⟩ := g 1 _ (by decide) hC rfl rfl (hf 1 _ rfl) (by omega)
  obtain ⟨k2, h2⟩ := g 2 _ (by decide) hC rfl rfl (hf 2 _ rfl) (by omega)
  obtain ⟨k3, h3⟩ := g 3 _ (by decide) hC rfl rfl (hf 3 _ rfl) (by omega)
  obtain ⟨k4, h4⟩ := g 4 _ (by decide) hC rfl rfl (hf 4 _ rfl) (by omega)
  obtain ⟨k5, h5⟩ := g 5 _ (by decide) hC rfl rfl (hf 5 _ rfl) (by omega)
  obtain ⟨k6, h6⟩ := g 6 _ (by decide) hC rfl rfl (hf 6 _ rfl) (by omega)
  refine ⟨⟨k0, k1, k2, k3, k4, k5, k6⟩, ?_⟩
  match cs, hl7 with
  | [c0, c1, c2, c3, c4, c5, c6], _ =>
    simp only [List.getElem?_cons_zero, List.getElem?_cons_succ, Option.some.injEq] at h0 h1 h2 h3 h4 h5 h6
    subst h0 h1 h2 h3 h4 h5 h6
    rfl
set_option maxRecDepth 100000 in
theorem openSI {r : Reach} {b0 : Nat} {v : Value} {d : DataW H} {p : List MemPlace} (hv : Value.okWide Try.prog w r b0 23 v) (h : DataW.Trod enc Try.prog w base spare held 23 v d p) : ∃ (A : Option Addr) (c : Nat) (xs : List Int), v = .slice A xs.length c ∧ Rd EI w A xs ∧ ∀ x ∈ xs, (Lit.int .i64 x).wf = true :=
  openSl EI (fun x => (Lit.int .i64 x).wf = true) Try.underlying23 (by kernel_rfl) (fun n cs y h => intC h) hv h
end
end Go.Proofs.Ytfhlkkjochjhoaa
/- Arguments that are slices of envelopes, opened as lists. -/
namespace Go.Proofs.Ytfhlkkjochjhoaa
open Go.RowKit Go.ChangeShapes Go.WideShapes Go.Deep
section
variable {H : Type} {enc : TypeId × Value → H} {w : World} {base : Nat} {spare : Nat → Bool} {held : Bool}
set_option maxRecDepth 100000 in
theorem envC {n : Nat} {cs : List Value} {y : DataW H × List MemPlace} (h : DataW.trod enc Try.prog w base spare held n 33 cs = some y) : ∃ x : Env, cs = x.cells ∧ True := by
  obtain ⟨ys, n', _, _, hl, hyl, hf⟩ := DataW.trod_struct Try.underlying33 h
  have hl10 : cs.length = 10 := hl.trans (by kernel_rfl)
  have hC : Try.prog.cellsOf 3 = 1 := by kernel_rfl
  have hCM : Try.prog.cellsOf 31 = 7 := by kernel_rfl
  have hy4 : ys.length = 4 := hyl.trans rfl
  have g : ∀ (i : Nat) (f : Field), (i < 3) → f.offset = i → f.type = 3 → DataW.trod enc Try.prog w base spare held n' f.type ((cs.drop f.offset).take (Try.prog.cellsOf f.type)) = ys[i]? → ∃ k : Int, cs[i]? = some (.int .i64 k) := fun i f hi ho ht hh => by
    rw [ho, ht, hC, List.getElem?_eq_getElem (by omega)] at hh
    obtain ⟨k, hk, _⟩ := intC hh
    exact ⟨k, one_of (by omega) hk⟩
  have gm : ∀ (f : Field), f.offset = 3 → f.type = 31 → DataW.trod enc Try.prog w base spare held n' f.type ((cs.drop f.offset).take (Try.prog.cellsOf f.type)) = ys[3]? → ∃ m : Msg, (cs.drop 3).take 7 = m.cells := fun f ho ht hh => by
    rw [ho, ht, hCM, List.getElem?_eq_getElem (by omega)] at hh
    exact msgC hh
  obtain ⟨k0, h0⟩ := g 0 _ (by decide) rfl rfl (hf 0 _ rfl)
  obtain ⟨k1, h1⟩ := g 1 _ (by decide) rfl rfl (hf 1 _ rfl)
  obtain ⟨k2, h2⟩ := g 2 _ (by decide) rfl rfl (hf 2 _ rfl)
  obtain ⟨m, hm⟩ := gm _ rfl rfl (hf 3 _ rfl)
  refine ⟨⟨k0, k1, k2, m⟩, ?_, trivial⟩
  match cs, hl10 with
  | [c0, c1, c2, c3, c4, c5, c6, c7, c8, c9], _ =>
    simp only [List.getElem?_cons_zero, List.getElem?_cons_succ, Option.some.injEq] at h0 h1 h2
    subst h0 h1 h2
    have hm' : [c3, c4, c5, c6, c7, c8, c9] = m.cells := hm
    unfold Env.cells
    unfold Msg.cells at hm'
    simp only [List.cons.injEq, and_true] at hm'
    obtain ⟨rfl, rfl, rfl, rfl, rfl, rfl, rfl⟩ := hm'
    rfl
set_option maxRecDepth 100000 in
theorem openSEnv {r : Reach} {b0 : Nat} {v : Value} {d : DataW H} {p : List MemPlace} (hv : Value.okWide Try.prog w r b0 22 v) (h : DataW.Trod enc Try.prog w base spare held 22 v d p) : ∃ (A : Option Addr) (c : Nat) (xs : List Env), v = .slice A xs.length c ∧ Rd EEnv w A xs ∧ ∀ x ∈ xs, True :=
  openSl EEnv (fun _ => True) Try.underlying22 (by kernel_rfl) (fun n cs y h => envC h) hv h
end
end Go.Proofs.Ytfhlkkjochjhoaa
