/- An argument '[]Act' of chapter 17, opened. -/
import Derived.Test.YtkgenkkcgegcbaaConcat
import Derived.Test.YtkgenkkcgegcbaaSesPly4
import Derived.Deep.Slices
namespace Go.Proofs.Ytkgenkkcgegcbaa
open Go.ChangeShapes Go.WideShapes Go.ChangeAt Go.RowKit Go.Deep
section
variable {H : Type} {enc : TypeId × Value → H} {P : Program} {W : World}
theorem open_acts17 {t e : TypeId} {f0 f1 f2 f3 : Field} {v : Value} {d : DataW H} {p : List MemPlace} {b : Nat} {r : Reach} {h63 : Bool} (ht : P.underlying t = some (.slice e)) (he : P.underlying e = some (.struct #[f0, f1, f2, f3])) (ce : P.cellsOf e = 40)
    (o0 : f0.offset = 0) (o1 : f1.offset = 1) (o2 : f2.offset = 2) (o3 : f3.offset = 3) (c0 : P.cellsOf f0.type = 1) (c1 : P.cellsOf f1.type = 1) (c2 : P.cellsOf f2.type = 1) (c3 : P.cellsOf f3.type = 37)
    (u0 : P.underlying f0.type = some (.int .i64)) (u1 : P.underlying f1.type = some (.int .i64)) (u2 : P.underlying f2.type = some (.int .i64))
    (hF : ∀ (cs : List Value) (y : DataW H × List MemPlace) (fuel : Nat), DataW.trod enc P W 0 (fun _ => true) h63 fuel f3.type cs = some y → ∃ (f : Frm) (D : Value), cs = frmV f D ∧ FrmM W f D)
    (hval : Value.okWide P W r b t v) (h : DataW.Trod enc P W 0 (fun _ => true) h63 t v d p) :
    ∃ A n c l, v = .slice A n c ∧ Acts17 W A n l ∧ n ≤ c ∧ c ≤ 9223372036854775807 := by
  obtain ⟨A, n, c, rfl⟩ := okWide_slice ht hval
  obtain ⟨fuel, hf⟩ := h
  rcases open_slice ht hf with ⟨hcs, _⟩ | ⟨a, len, cap, m, k, D, Pl, hcs, _, hl, hm, hmm, _, hx⟩
  · simp [Value.cells] at hcs
    obtain ⟨rfl, rfl, rfl⟩ := hcs
    exact ⟨none, 0, 0, [], rfl, ⟨rfl, fun h => absurd h (by omega)⟩, Nat.le_refl _, by omega⟩
  · simp [Value.cells] at hcs
    obtain ⟨rfl, rfl, rfl⟩ := hcs
    simp only [if_true] at hmm
    have hrow0 : 0 < n → a.spot = none := by
      intro hi
      obtain ⟨cs', h1, h2⟩ := hx 0 (by omega)
      rw [ce] at h1
      obtain ⟨_, hlen, hcell⟩ := World.cells?_some h1
      have e0 := hcell 0 (by omega)
      have h0 : (a.add (0 * 40)).add 0 = a := by simp [Addr.add]
      rw [h0] at e0
      rw [List.getElem?_eq_getElem (by omega)] at e0
      exact World.cell?_spot e0
    have hrow : ∀ i, i < n → ∃ x : Act17, ∃ D, W.rangeAt a.block (a.off + i * 40) (actV x D) ∧ FrmM W x.f D ∧ I64 x.kind ∧ I64 x.at_ ∧ I64 x.n := by
      intro i hi
      have hspot := hrow0 (by omega)
      obtain ⟨cs', h1, h2⟩ := hx i (by omega)
      rw [ce] at h1
      obtain ⟨_, hlen, hcell⟩ := World.cells?_some h1
      obtain ⟨xs, k2, hk2, hxy, _, hxl, hfs⟩ := DataW.trod_struct he h2
      match xs, hxl with
      | [y0, y1, y2, y3], _ =>
        have g0 := hfs 0 f0 rfl
        have g1 := hfs 1 f1 rfl
        have g2 := hfs 2 f2 rfl
        have g3 := hfs 3 f3 rfl
        simp only [o0, o1, o2, o3, c0, c1, c2, c3, List.getElem?_cons_zero, List.getElem?_cons_succ] at g0 g1 g2 g3
        obtain ⟨z0, w0, _, q0⟩ := DataW.trod_int u0 g0
        obtain ⟨z1, w1, _, q1⟩ := DataW.trod_int u1 g1
        obtain ⟨z2, w2, _, q2⟩ := DataW.trod_int u2 g2
        obtain ⟨f, D, w3, hM⟩ := hF _ _ _ g3
        have E4 : cs'.drop (3 + 37) = [] := List.drop_of_length_le (by omega)
        have E3 : cs'.drop 3 = frmV f D := by rw [piece_ cs' 3 37, w3, E4, List.append_nil]
        have E2 : cs'.drop 2 = .int .i64 z2 :: frmV f D := by rw [piece_ cs' 2 1, w2]; exact congrArg (fun l => [Value.int .i64 z2] ++ l) E3
        have E1 : cs'.drop 1 = .int .i64 z1 :: .int .i64 z2 :: frmV f D := by rw [piece_ cs' 1 1, w1]; exact congrArg (fun l => [Value.int .i64 z1] ++ l) E2
        have E0 : cs'.drop 0 = .int .i64 z0 :: .int .i64 z1 :: .int .i64 z2 :: frmV f D := by rw [piece_ cs' 0 1, w0]; exact congrArg (fun l => [Value.int .i64 z0] ++ l) E1
        have hcs' : cs' = actV ⟨z0, z1, z2, f⟩ D := E0
        refine ⟨⟨z0, z1, z2, f⟩, D, fun j u hu => ?_, hM, i64_bounds q0, i64_bounds q1, i64_bounds q2⟩
        obtain ⟨ab, ao, asp⟩ := a
        dsimp only at hspot
        subst hspot
        rw [← hcs'] at hu
        have hj : j < 40 := by have := (List.getElem?_eq_some_iff.1 hu).1; omega
        have e := hcell j (by omega)
        rw [Addr.add_lit, Addr.add_lit, hu] at e
        exact e
    haveI : Inhabited Act17 := ⟨⟨0, 0, 0, zeroFrm⟩⟩
    obtain ⟨F, hF'⟩ := choose_lt hrow
    refine ⟨some a, n, c, (List.range n).map F, rfl, ⟨by simp, fun hn => ?_⟩, hl, by simpa [maxLen] using hm⟩
    have hs := hrow0 hn
    obtain ⟨ab, ao, asp⟩ := a
    dsimp only at hs
    subst hs
    refine ⟨ab, ao, rfl, fun i x hix => ?_⟩
    simp only [List.getElem?_map, Option.map_eq_some_iff] at hix
    obtain ⟨k3, hk3, rfl⟩ := hix
    obtain ⟨h1, h2⟩ := List.getElem?_eq_some_iff.1 hk3
    have hik : i < n := by simpa using h1
    have hki : i = k3 := by simpa using h2
    subst hki
    exact hF' i hik
end
end Go.Proofs.Ytkgenkkcgegcbaa
