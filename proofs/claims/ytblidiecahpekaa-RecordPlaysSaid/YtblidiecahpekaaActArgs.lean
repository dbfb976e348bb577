/- An argument '[]Act', opened; no program in sight but for the struct's fields. -/
import Derived.Test.YtblidiecahpekaaArgs
import Derived.Test.YtblidiecahpekaaFlashAct
import Derived.Deep.Slices
set_option linter.unusedVariables false
set_option linter.unusedSimpArgs false
namespace Go.Proofs.Ytblidiecahpekaa
open Go.ChangeShapes Go.WideShapes Go.ChangeAt Go.RowKit Go.Deep

section
variable {H : Type} {enc : TypeId × Value → H} {P : Program} {W : World}

theorem bytes_of_trod {t e : TypeId} {v : Value} {y : DataW H × List MemPlace} {n : Nat} {h63 : Bool} (ht : P.underlying t = some (.slice e)) (he : P.underlying e = some (.int .u8)) (hc : P.cellsOf e = 1)
    (hf : DataW.trod enc P W 0 (fun _ => true) h63 n t [v] = some y) : ∃ B m c l, v = .slice B m c ∧ Bs W B m l ∧ m ≤ c ∧ c ≤ 9223372036854775807 := by
  rcases open_ints ht he hc hf with ⟨hcs, _⟩ | ⟨x, l, c', zs, hcs, _, hl, hm, hz, hx, hcell, hwz⟩
  · simp at hcs
    exact ⟨none, 0, 0, [], hcs, Bs.nil _ _, Nat.le_refl _, by omega⟩
  · simp at hcs
    simp only [if_true] at hz
    refine ⟨some x, l, c', toBytes (zs.take l), hcs, ⟨by simp [bv, toBytes]; omega, fun hn => ?_⟩, hl, by simpa [maxLen] using hm⟩
    have hspot : x.spot = none := World.cell?_spot (by simpa [Addr.add] using hcell 0 (by omega))
    obtain ⟨xb, xo, xs⟩ := x
    dsimp only at hspot
    subst hspot
    refine ⟨xb, xo, rfl, fun i u hu => ?_⟩
    simp only [bv, toBytes, List.getElem?_map, Option.map_map, Option.map_eq_some_iff] at hu
    obtain ⟨z, hz', rfl⟩ := hu
    have hi : i < l ∧ zs[i]? = some z := by
      rw [List.getElem?_take] at hz'
      split at hz'
      · exact ⟨by assumption, hz'⟩
      · cases hz'
    have := hcell i (by omega)
    rw [Addr.add_lit] at this
    rw [this, List.getD_eq_getElem?_getD, hi.2]
    simp only [Option.getD_some, Function.comp_apply]
    rw [u8_back (hwz z (List.mem_of_getElem? hi.2))]

theorem open_acts {t e : TypeId} {f0 f1 f2 f3 f4 : Field} {be : TypeId} {v : Value} {d : DataW H} {p : List MemPlace} {b : Nat} {r : Reach} {h63 : Bool} (ht : P.underlying t = some (.slice e)) (he : P.underlying e = some (.struct #[f0, f1, f2, f3, f4])) (ce : P.cellsOf e = 5)
    (o0 : f0.offset = 0) (o1 : f1.offset = 1) (o2 : f2.offset = 2) (o3 : f3.offset = 3) (o4 : f4.offset = 4) (c0 : P.cellsOf f0.type = 1) (c1 : P.cellsOf f1.type = 1) (c2 : P.cellsOf f2.type = 1) (c3 : P.cellsOf f3.type = 1) (c4 : P.cellsOf f4.type = 1)
    (u0 : P.underlying f0.type = some (.int .i64)) (u1 : P.underlying f1.type = some (.int .i64)) (u2 : P.underlying f2.type = some (.int .i64)) (u3 : P.underlying f3.type = some (.int .i64)) (u4 : P.underlying f4.type = some (.slice be)) (ub : P.underlying be = some (.int .u8)) (cb : P.cellsOf be = 1)
    (hval : Value.okWide P W r b t v) (h : DataW.Trod enc P W 0 (fun _ => true) h63 t v d p) :
    ∃ A n c l, v = .slice A n c ∧ Acts W A n l ∧ n ≤ c ∧ c ≤ 9223372036854775807 := by
  obtain ⟨A, n, c, rfl⟩ := okWide_slice ht hval
  obtain ⟨fuel, hf⟩ := h
  rcases open_slice ht hf with ⟨hcs, _⟩ | ⟨a, len, cap, m, k, D, Pl, hcs, _, hl, hm, hmm, _, hx⟩
  · simp [Value.cells] at hcs
    obtain ⟨rfl, rfl, rfl⟩ := hcs
    exact ⟨none, 0, 0, [], rfl, ⟨rfl, fun h => absurd h (by omega)⟩, Nat.le_refl _, by omega⟩
  · simp [Value.cells] at hcs
    obtain ⟨rfl, rfl, rfl⟩ := hcs
    simp only [if_true] at hmm
    have hrow0 : 0 < n → a.spot = none := by
      intro hi
      obtain ⟨cs', h1, h2⟩ := hx 0 (by omega)
      rw [ce] at h1
      obtain ⟨_, hlen, hcell⟩ := World.cells?_some h1
      have e0 := hcell 0 (by omega)
      have h0 : (a.add (0 * 5)).add 0 = a := by simp [Addr.add]
      rw [h0] at e0
      rw [List.getElem?_eq_getElem (by omega)] at e0
      exact World.cell?_spot e0
    have hrow : ∀ i, i < n → ∃ x : ActV, ActAt W a.block (a.off + i * 5) x := by
      intro i hi
      have hspot := hrow0 (by omega)
      obtain ⟨cs', h1, h2⟩ := hx i (by omega)
      rw [ce] at h1
      obtain ⟨_, hlen, hcell⟩ := World.cells?_some h1
      obtain ⟨xs, k2, hk2, hxy, _, hxl, hfs⟩ := DataW.trod_struct he h2
      match xs, hxl, cs', hlen with
      | [y0, y1, y2, y3, y4], _, [v0, v1, v2, v3, v4], _ =>
        have g0 := hfs 0 f0 rfl
        have g1 := hfs 1 f1 rfl
        have g2 := hfs 2 f2 rfl
        have g3 := hfs 3 f3 rfl
        have g4 := hfs 4 f4 rfl
        simp [o0, o1, o2, o3, o4, c0, c1, c2, c3, c4] at g0 g1 g2 g3 g4
        have e0 := hcell 0 (by omega)
        have e1 := hcell 1 (by omega)
        have e2 := hcell 2 (by omega)
        have e3 := hcell 3 (by omega)
        have e4 := hcell 4 (by omega)
        obtain ⟨ab, ao, asp⟩ := a
        dsimp only at hspot
        subst hspot
        rw [Addr.add_lit, Addr.add_lit] at e0 e1 e2 e3 e4
        obtain ⟨z0, w0, _⟩ := DataW.trod_int u0 g0
        obtain ⟨z1, w1, _⟩ := DataW.trod_int u1 g1
        obtain ⟨z2, w2, _⟩ := DataW.trod_int u2 g2
        obtain ⟨z3, w3, _⟩ := DataW.trod_int u3 g3
        obtain ⟨B, mm, cc, l, w4, hB, hmc, hc9⟩ := bytes_of_trod u4 ub cb g4
        simp at w0 w1 w2 w3
        subst w0; subst w1; subst w2; subst w3; subst w4
        exact ⟨⟨z0, z1, z2, z3, l⟩, by simpa using e0, by simpa using e1, by simpa using e2, by simpa using e3, B, mm, cc, by simpa using e4, hB, hmc, hc9⟩
    haveI : Inhabited ActV := ⟨⟨0, 0, 0, 0, []⟩⟩
    obtain ⟨F, hF⟩ := choose_lt hrow
    refine ⟨some a, n, c, (List.range n).map F, rfl, ⟨by simp, fun hn => ?_⟩, hl, by simpa [maxLen] using hm⟩
    have hs := hrow0 hn
    obtain ⟨ab, ao, asp⟩ := a
    dsimp only at hs
    subst hs
    refine ⟨ab, ao, rfl, fun i x hix => ?_⟩
    simp only [List.getElem?_map, Option.map_eq_some_iff] at hix
    obtain ⟨k3, hk3, rfl⟩ := hix
    obtain ⟨h1, h2⟩ := List.getElem?_eq_some_iff.1 hk3
    have hik : i < n := by simpa using h1
    have hki : i = k3 := by simpa using h2
    subst hki
    exact hF i hik
end
end Go.Proofs.Ytblidiecahpekaa
