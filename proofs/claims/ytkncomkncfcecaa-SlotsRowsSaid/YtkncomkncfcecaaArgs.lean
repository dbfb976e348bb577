/- The arguments of a law, opened into words for memory; no program in sight. -/
import Derived.Test.YtkncomkncfcecaaLib
import Derived.ProofKit
import Derived.OpenShut
import Derived.ShutString
import Derived.ChangeOld
import Derived.SizedLaws
import Derived.Deep.Matrix
import Derived.SliceStrings
set_option linter.unusedVariables false
set_option linter.unusedSimpArgs false
namespace Go.Proofs.Ytkncomkncfcecaa
open Go.ChangeShapes Go.WideShapes Go.ChangeAt Go.RowKit Go.Deep
open Go.ChangeMaps (open_string shut_string)

section
variable {H : Type} {enc : TypeId × Value → H} {P : Program} {W : World}

theorem reach_val : reachBytes = 140737488351232 := by decide

/-- bytes out of numbers -/
def toBytes (zs : List Int) : List UInt8 := zs.map fun z => UInt8.ofNat z.toNat
theorem u8_back {z : Int} (h : (Lit.int .u8 z).wf = true) : (((UInt8.ofNat z.toNat).toNat : Nat) : Int) = z := by
  have hb : 0 ≤ z ∧ z ≤ 255 := by simpa [Lit.wf, IntKind.min, IntKind.max, IntKind.signed, IntKind.bits] using h
  rw [UInt8.toNat_ofNat']
  omega

theorem weightsAll_mem {e : TypeId} {d : DataW H} : ∀ {ds : List (DataW H)}, d ∈ ds → ∀ n ∈ d.weights P e, n ∈ DataW.weightsAll P e ds
  | x :: ds, h, n, hn => by
    simp only [DataW.weightsAll, List.mem_append]
    rcases List.mem_cons.1 h with rfl | h
    · exact .inl hn
    · exact .inr (weightsAll_mem h n hn)

/-- all of a datum's sizes are within the reach -/
def Sized (P : Program) (t : TypeId) (d : DataW H) : Prop := ∀ n ∈ d.weights P t, n ≤ 140737488351232
theorem sized_arg {ts : List TypeId} {ds : List (DataW H)} (h : (DataW.weightsEach P ts ds).all (· ≤ reachBytes) = true) {j : Nat} {t : TypeId} {d : DataW H} (ht : ts[j]? = some t) (hd : ds[j]? = some d) : Sized P t d := by
  intro n hn
  have := List.all_eq_true.1 h n (DataW.weights_mem_each ht hd n hn)
  rw [reach_val] at this
  simpa using this
theorem Sized.slice {t e : TypeId} {elems spare : List (DataW H)} (hu : P.underlying t = some (.slice e)) (h : Sized P t (.slice elems spare)) :
    (elems.length + spare.length) * P.bytesOf e ≤ 140737488351232 ∧ ∀ d ∈ elems, Sized P e d := by
  refine ⟨h _ (by simp [DataW.weights, hu]), fun d hd n hn => h n ?_⟩
  simp only [DataW.weights, hu, List.mem_cons, List.mem_append]
  exact .inr (.inl (weightsAll_mem hd n hn))

/-- '[]byte' -/
theorem open_bytes {t e : TypeId} {v : Value} {d : DataW H} {p : List MemPlace} {b : Nat} {r : Reach} {h63 : Bool} (ht : P.underlying t = some (.slice e)) (he : P.underlying e = some (.int .u8)) (hc : P.cellsOf e = 1) (hby : P.bytesOf e = 1)
    (hval : Value.okWide P W r b t v) (h : DataW.Trod enc P W 0 (fun _ => true) h63 t v d p) (hs : Sized P t d) :
    ∃ A n c l, v = .slice A n c ∧ Bs W A n l ∧ n ≤ c ∧ c ≤ 140737488351232 ∧ (A = none → n = 0 ∧ c = 0) := by
  obtain ⟨A, n, c, rfl⟩ := okWide_slice ht hval
  obtain ⟨fuel, hf⟩ := h
  rcases open_ints ht he hc hf with ⟨hcs, _⟩ | ⟨x, l, c', zs, hcs, _, hl, hm, hz, hx, hcell, hwz⟩
  · simp [Value.cells] at hcs
    obtain ⟨rfl, rfl, rfl⟩ := hcs
    exact ⟨none, 0, 0, [], rfl, Bs.nil _ _, Nat.le_refl _, by omega, fun _ => ⟨rfl, rfl⟩⟩
  · simp [Value.cells] at hcs
    obtain ⟨rfl, rfl, rfl⟩ := hcs
    simp only [if_true] at hz
    simp only [Prod.mk.injEq] at hx
    rw [hx.1] at hs
    have h2 := (hs.slice ht).1
    rw [hby] at h2
    simp only [lits, List.length_map, List.length_take, List.length_drop] at h2
    refine ⟨some x, n, c, toBytes (zs.take n), rfl, ⟨by simp [bv, toBytes]; omega, fun hn => ?_⟩, hl, by omega, fun h => by cases h⟩
    have hspot : x.spot = none := World.cell?_spot (by simpa [Addr.add] using hcell 0 (by omega))
    obtain ⟨xb, xo, xs⟩ := x
    dsimp only at hspot
    subst hspot
    refine ⟨xb, xo, rfl, fun i u hu => ?_⟩
    simp only [bv, toBytes, List.getElem?_map, Option.map_map, Option.map_eq_some_iff] at hu
    obtain ⟨z, hz', rfl⟩ := hu
    have hi : i < n ∧ zs[i]? = some z := by
      rw [List.getElem?_take] at hz'
      split at hz'
      · exact ⟨by assumption, hz'⟩
      · cases hz'
    have := hcell i (by omega)
    rw [Addr.add_lit] at this
    rw [this, List.getD_eq_getElem?_getD, hi.2]
    simp only [Option.getD_some, Function.comp_apply]
    rw [u8_back (hwz z (List.mem_of_getElem? hi.2))]

/-- '[][]byte' -/
theorem open_rows {t e q : TypeId} {v : Value} {d : DataW H} {p : List MemPlace} {b : Nat} {r : Reach} {h63 : Bool} (ht : P.underlying t = some (.slice e)) (he : P.underlying e = some (.slice q)) (hq : P.underlying q = some (.int .u8)) (ce : P.cellsOf e = 1) (cq : P.cellsOf q = 1)
    (hby : P.bytesOf q = 1) (hby2 : P.bytesOf e = 24) (hval : Value.okWide P W r b t v) (h : DataW.Trod enc P W 0 (fun _ => true) h63 t v d p) (hs : Sized P t d) :
    ∃ A n c ls, v = .slice A n c ∧ Ps W A n ls ∧ n ≤ c ∧ c ≤ 140737488351232 := by
  obtain ⟨A, n, c, rfl⟩ := okWide_slice ht hval
  obtain ⟨fuel, hf⟩ := h
  rcases open_int_rows ht he hq ce cq hf with ⟨hcs, _⟩ | ⟨a, len, cap, A', L, C, Z, hcs, _, hl, hm, hx, hr⟩
  · simp [Value.cells] at hcs
    obtain ⟨rfl, rfl, rfl⟩ := hcs
    exact ⟨none, 0, 0, [], rfl, ⟨rfl, [], Vs.nil _ _, fun i hi => by simp at hi⟩, Nat.le_refl _, by omega⟩
  · simp [Value.cells] at hcs
    obtain ⟨rfl, rfl, rfl⟩ := hcs
    simp only [Prod.mk.injEq] at hx
    rw [hx.1] at hs
    have h2 := (hs.slice ht).1
    have h3 := (hs.slice ht).2
    rw [hby2] at h2
    simp only [List.length_map, List.length_range] at h2
    have hrow : ∀ i, i < n → ∃ l, Bs W (A' i) (L i) l ∧ L i ≤ C i ∧ C i ≤ 9223372036854775807 := by
      intro i hi
      obtain ⟨e1, e2, e3, e4, e5, e6, e7⟩ := hr i (by omega)
      have hsi : Sized P e (intRow .u8 (A' i) (L i) (Z i)) := h3 _ (List.mem_map.2 ⟨i, List.mem_range.2 hi, rfl⟩)
      cases hA : A' i with
      | none =>
        have := e6 hA
        exact ⟨[], by rw [show L i = 0 by omega]; exact Bs.nil _ _, e2, by omega⟩
      | some a' =>
        rw [hA] at hsi
        have h4 := (Sized.slice he hsi).1
        rw [hby] at h4
        simp only [lits, List.length_map, List.length_take, List.length_drop] at h4
        obtain ⟨_, hcell⟩ := e7 a' hA
        refine ⟨toBytes ((Z i).take (L i)), ⟨by simp [bv, toBytes]; omega, fun hn => ?_⟩, e2, by omega⟩
        have hspot : a'.spot = none := World.cell?_spot (by simpa [Addr.add] using hcell 0 (by omega))
        obtain ⟨xb, xo, xs⟩ := a'
        dsimp only at hspot
        subst hspot
        refine ⟨xb, xo, rfl, fun k u hu => ?_⟩
        simp only [bv, toBytes, List.getElem?_map, Option.map_map, Option.map_eq_some_iff] at hu
        obtain ⟨z, hz', rfl⟩ := hu
        have hi : k < L i ∧ (Z i)[k]? = some z := by
          rw [List.getElem?_take] at hz'
          split at hz'
          · exact ⟨by assumption, hz'⟩
          · cases hz'
        have := hcell k (by omega)
        rw [Addr.add_lit] at this
        rw [this, List.getD_eq_getElem?_getD, hi.2]
        simp only [Option.getD_some, Function.comp_apply]
        rw [u8_back (e5 z (List.mem_of_getElem? hi.2))]
    obtain ⟨F, hF⟩ := choose_lt hrow
    refine ⟨some a, n, c, (List.range n).map F, rfl, ⟨by simp, (List.range n).map fun i => .slice (A' i) (L i) (C i), ⟨by simp, fun hn => ?_⟩, fun i hi => ?_⟩, hl, by omega⟩
    · have hspot : a.spot = none := World.cell?_spot (by simpa [Addr.add] using (hr 0 (by omega)).1)
      obtain ⟨xb, xo, xs⟩ := a
      dsimp only at hspot
      subst hspot
      refine ⟨xb, xo, rfl, fun i u hu => ?_⟩
      simp only [List.getElem?_map, Option.map_eq_some_iff] at hu
      obtain ⟨k, hk, rfl⟩ := hu
      obtain ⟨h1, h2⟩ := List.getElem?_eq_some_iff.1 hk
      have hik : i < n := by simpa using h1
      have hki : i = k := by simpa using h2
      subst hki
      have := (hr i (by omega)).1
      rw [Addr.add_lit] at this
      exact this
    · have hin : i < n := by simpa using hi
      obtain ⟨f1, f2, f3⟩ := hF i hin
      exact ⟨A' i, L i, C i, by simp [hin], by simpa using f1, f2, f3⟩

/-- '[]int' -/
theorem open_intsI {t e : TypeId} {v : Value} {d : DataW H} {p : List MemPlace} {b : Nat} {r : Reach} {h63 : Bool} (ht : P.underlying t = some (.slice e)) (he : P.underlying e = some (.int .i64)) (hc : P.cellsOf e = 1) (hby : P.bytesOf e = 8)
    (hval : Value.okWide P W r b t v) (h : DataW.Trod enc P W 0 (fun _ => true) h63 t v d p) (hs : Sized P t d) :
    ∃ (A : Option Addr) (n c : Nat) (zs : List Int), v = .slice A n c ∧ Vs W A n (zs.map (Value.int .i64)) ∧ n ≤ c ∧ c ≤ 140737488351232 ∧ ∀ z ∈ zs, -9223372036854775808 ≤ z ∧ z ≤ 9223372036854775807 := by
  obtain ⟨A, n, c, rfl⟩ := okWide_slice ht hval
  obtain ⟨fuel, hf⟩ := h
  rcases open_ints ht he hc hf with ⟨hcs, _⟩ | ⟨x, l, c', zs, hcs, _, hl, hm, hz, hx, hcell, hwz⟩
  · simp [Value.cells] at hcs
    obtain ⟨rfl, rfl, rfl⟩ := hcs
    exact ⟨none, 0, 0, [], rfl, Vs.nil _ _, Nat.le_refl _, by omega, fun z hz => by cases hz⟩
  · simp [Value.cells] at hcs
    obtain ⟨rfl, rfl, rfl⟩ := hcs
    simp only [if_true] at hz
    simp only [Prod.mk.injEq] at hx
    rw [hx.1] at hs
    have h2 := (hs.slice ht).1
    rw [hby] at h2
    simp only [lits, List.length_map, List.length_take, List.length_drop] at h2
    refine ⟨some x, n, c, zs.take n, rfl, ⟨by simp; omega, fun hn => ?_⟩, hl, by omega, fun z hzz => ?_⟩
    · have hspot : x.spot = none := World.cell?_spot (by simpa [Addr.add] using hcell 0 (by omega))
      obtain ⟨xb, xo, xs⟩ := x
      dsimp only at hspot
      subst hspot
      refine ⟨xb, xo, rfl, fun i u hu => ?_⟩
      simp only [List.getElem?_map, Option.map_eq_some_iff] at hu
      obtain ⟨z, hz', rfl⟩ := hu
      have hi : i < n ∧ zs[i]? = some z := by
        rw [List.getElem?_take] at hz'
        split at hz'
        · exact ⟨by assumption, hz'⟩
        · cases hz'
      have := hcell i (by omega)
      rw [Addr.add_lit] at this
      rw [this, List.getD_eq_getElem?_getD, hi.2]
      rfl
    · have := hwz z (List.mem_of_mem_take hzz)
      simpa [Lit.wf, IntKind.min, IntKind.max, IntKind.signed, IntKind.bits] using this
/-- '[]string' -/
theorem open_strsS {t e : TypeId} {v : Value} {d : DataW H} {p : List MemPlace} {b : Nat} {r : Reach} {h63 : Bool} (ht : P.underlying t = some (.slice e)) (he : P.underlying e = some .string) (hc : P.cellsOf e = 1) (hby : P.bytesOf e = 16)
    (hval : Value.okWide P W r b t v) (h : DataW.Trod enc P W 0 (fun _ => true) h63 t v d p) (hs : Sized P t d) :
    ∃ (A : Option Addr) (n c : Nat) (ss : List (List UInt8)), v = .slice A n c ∧ Vs W A n (ss.map fun s => .string ⟨s.toArray⟩) ∧ n ≤ c ∧ c ≤ 140737488351232 ∧ ∀ s ∈ ss, s.length ≤ 9223372036854775807 := by
  obtain ⟨A, n, c, rfl⟩ := okWide_slice ht hval
  obtain ⟨fuel, hf⟩ := h
  rcases open_strings ht he hc hf with ⟨hcs, _⟩ | ⟨x, l, c', zs, hcs, _, hl, hm, hz, hx, hcell, hwz⟩
  · simp [Value.cells] at hcs
    obtain ⟨rfl, rfl, rfl⟩ := hcs
    exact ⟨none, 0, 0, [], rfl, Vs.nil _ _, Nat.le_refl _, by omega, fun z hz => by cases hz⟩
  · simp [Value.cells] at hcs
    obtain ⟨rfl, rfl, rfl⟩ := hcs
    simp only [if_true] at hz
    simp only [Prod.mk.injEq] at hx
    rw [hx.1] at hs
    have h2 := (hs.slice ht).1
    rw [hby] at h2
    simp only [strs, List.length_map, List.length_take, List.length_drop] at h2
    refine ⟨some x, n, c, (zs.take n).map fun s => s.data.toList, rfl, ⟨by simp; omega, fun hn => ?_⟩, hl, by omega, fun z hzz => ?_⟩
    · have hspot : x.spot = none := World.cell?_spot (by simpa [Addr.add] using hcell 0 (by omega))
      obtain ⟨xb, xo, xs⟩ := x
      dsimp only at hspot
      subst hspot
      refine ⟨xb, xo, rfl, fun i u hu => ?_⟩
      simp only [List.getElem?_map, Option.map_map, Option.map_eq_some_iff] at hu
      obtain ⟨z, hz', rfl⟩ := hu
      have hi : i < n ∧ zs[i]? = some z := by
        rw [List.getElem?_take] at hz'
        split at hz'
        · exact ⟨by assumption, hz'⟩
        · cases hz'
      have := hcell i (by omega)
      rw [Addr.add_lit] at this
      rw [this, List.getD_eq_getElem?_getD, hi.2]
      rfl
    · obtain ⟨y, hy, rfl⟩ := List.mem_map.1 hzz
      have := hwz y (List.mem_of_mem_take hy)
      rw [Array.length_toList]
      exact this
theorem str_list (s : ByteArray) : ∃ t : List UInt8, s = ⟨t.toArray⟩ := ⟨s.data.toList, by cases s; simp⟩
theorem str_len {t : List UInt8} (h : (⟨t.toArray⟩ : ByteArray).size ≤ maxLen) : t.length ≤ 9223372036854775807 := by
  simpa [ByteArray.size, maxLen] using h
theorem i64_bounds {z : Int} (h : (Lit.int .i64 z).wf = true) : -9223372036854775808 ≤ z ∧ z ≤ 9223372036854775807 := by
  simpa [Lit.wf, IntKind.min, IntKind.max, IntKind.signed, IntKind.bits] using h
theorem u8_value {z : Int} (h : (Lit.int .u8 z).wf = true) : ∃ u : UInt8, z = (u.toNat : Int) := ⟨UInt8.ofNat z.toNat, (u8_back h).symm⟩
end
end Go.Proofs.Ytkncomkncfcecaa
