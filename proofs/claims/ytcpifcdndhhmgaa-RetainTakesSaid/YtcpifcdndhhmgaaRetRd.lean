/- Variables, fields and cells, plain and in memory. An argument '[]Sym', opened; no program in sight but for the structs' fields. A cut between two pieces of code: what stands behind the first, whatever way it took. No program in sight. A reader beside a row of one's own; a call of a method's value. -/
import Derived.Test.YtcpifcdndhhmgaaRow
import Derived.Deep.Slices
import Derived.Test.YtcpifcdndhhmgaaKn
import Derived.Test.YtcpifcdndhhmgaaKnV
set_option linter.unusedVariables false
set_option linter.unusedSimpArgs false
namespace Go.Proofs.Ytcpifcdndhhmgaa
open Go.RowKit
structure FldV where
  name : List UInt8
  kind : Int
structure TypV where
  kind : Int
  elem : Int
  n : Int
  fields : List FldV
structure SymV where
  name : List UInt8
  typ : TypV
  retain : Bool
  init : List Int
structure CellV where
  path : List UInt8
  kind : Int
  retain : Bool
  init : Int
  len : Int
  block : Int
def cellC (c : CellV) : List Value := [.string ⟨c.path.toArray⟩, .int .i64 c.kind, .bool c.retain, .int .i64 c.init, .int .i64 c.len, .int .i64 c.block]
def fldC (f : FldV) : List Value := [.string ⟨f.name.toArray⟩, .int .i64 f.kind]
theorem cellC_one (c : CellV) : ∀ u ∈ cellC c, u.oneCell' = true := by
  intro u hu
  simp only [cellC, List.mem_cons, List.not_mem_nil, or_false] at hu
  rcases hu with rfl | rfl | rfl | rfl | rfl | rfl <;> rfl
theorem fldC_one (c : FldV) : ∀ u ∈ fldC c, u.oneCell' = true := by
  intro u hu
  simp only [fldC, List.mem_cons, List.not_mem_nil, or_false] at hu
  rcases hu with rfl | rfl <;> rfl
def cellE : Enc CellV := ⟨6, cellC, fun _ => rfl, by omega, cellC_one⟩
def fldE : Enc FldV := ⟨2, fldC, fun _ => rfl, by omega, fldC_one⟩
def kepE : Enc KepS := ⟨3, kepC, fun _ => rfl, by omega, kepC_one'⟩
theorem cellC_agg (c : CellV) : (cellC c).toArray.all (·.oneCell') = true := by
  rw [List.all_toArray, List.all_eq_true]; exact cellC_one c
theorem KeS.rw_ {w : World} {A : Option Addr} {n : Nat} {l : List KepS} (h : KeS w A n l) : Rw kepE w A n l := ⟨h.len, h.at_⟩
theorem Rw.kes {w : World} {A : Option Addr} {n : Nat} {l : List KepS} (h : Rw kepE w A n l) : KeS w A n l := ⟨h.len, h.at_⟩
def cellZ : CellV := ⟨[], 0, false, 0, 0, 0⟩
def fldZ : FldV := ⟨[], 0⟩
theorem cellZero : (Try.prog.info? 63).bind (·.zero) = some (.agg (cellC cellZ).toArray) := by kernel_rfl
theorem cellSize : (Try.prog.info? 63).map (·.size) = some 6 := by kernel_rfl
theorem cellInfo3 : (Try.prog.info? 63).map (fun i => (i.zero, i.size, i.bytes)) = some (some (.agg (cellC cellZ).toArray), 6, 56) := by kernel_rfl
theorem cellInfo (k : CellV) : (Try.prog.info? 63).map (·.size) = some (cellC k).toArray.size := by rw [cellSize]; rfl
theorem cellInfoL (k : CellV) : (Try.prog.info? 63).map (·.size) = some (cellC k).length := by rw [cellSize]; rfl
theorem fldZero : (Try.prog.info? 118).bind (·.zero) = some (.agg (fldC fldZ).toArray) := by kernel_rfl
theorem fldSize : (Try.prog.info? 118).map (·.size) = some 2 := by kernel_rfl
theorem fldInfo3 : (Try.prog.info? 118).map (fun i => (i.zero, i.size, i.bytes)) = some (some (.agg (fldC fldZ).toArray), 2, 24) := by kernel_rfl
theorem cellUnder : ∃ fs, Try.prog.underlying 63 = some (.struct fs) ∧ fs.toList.mapM (fun f => (Try.prog.info? f.type).map fun i => (f.offset, i.size)) = some [(0, 1), (1, 1), (2, 1), (3, 1), (4, 1), (5, 1)] := ⟨_, Try.underlying63, by kernel_rfl⟩
theorem fldUnder : ∃ fs, Try.prog.underlying 118 = some (.struct fs) ∧ fs.toList.mapM (fun f => (Try.prog.info? f.type).map fun i => (f.offset, i.size)) = some [(0, 1), (1, 1)] := ⟨_, Try.underlying118, by kernel_rfl⟩
theorem cellBuilt2 (s : List UInt8) (q : Int) : Try.prog.built 63 [(0, .string ⟨s.toArray⟩), (1, .int .i64 q)] = some (cellC ⟨s, q, false, 0, 0, 0⟩).toArray := by
  obtain ⟨fs, hu, hp⟩ := cellUnder
  rw [built_struct cellZero hu hp]
  refine (fill_step _ [] (cellC cellZ) 0 (.string ⟨s.toArray⟩) [.string ⟨s.toArray⟩] rfl rfl (by simp [cellC]) [(1, .int .i64 q)]).trans ?_
  refine (fill_step _ [.string ⟨s.toArray⟩] (((cellC cellZ)).drop 1) 1 (.int .i64 q) [.int .i64 q] rfl rfl (by simp [cellC]) []).trans ?_
  rw [fill_nil]; rfl
theorem fldBuilt2 (s : List UInt8) (q : Int) : Try.prog.built 118 [(0, .string ⟨s.toArray⟩), (1, .int .i64 q)] = some (fldC ⟨s, q⟩).toArray := by
  obtain ⟨fs, hu, hp⟩ := fldUnder
  rw [built_struct fldZero hu hp]
  refine (fill_step _ [] (fldC fldZ) 0 (.string ⟨s.toArray⟩) [.string ⟨s.toArray⟩] rfl rfl (by simp [fldC]) [(1, .int .i64 q)]).trans ?_
  refine (fill_step _ [.string ⟨s.toArray⟩] (((fldC fldZ)).drop 1) 1 (.int .i64 q) [.int .i64 q] rfl rfl (by simp [fldC]) []).trans ?_
  rw [fill_nil]; rfl
/-- a variable and where its rows are -/
structure SymA where
  s : SymV
  FA : Option Addr
  fn : Nat
  fc : Nat
  IA : Option Addr
  im : Nat
  ic : Nat
def typC (t : TypV) (FA : Option Addr) (fn fc : Nat) : List Value := [.int .i64 t.kind, .int .i64 t.elem, .int .i64 t.n, .slice FA fn fc]
def symC (a : SymA) : List Value := [.string ⟨a.s.name.toArray⟩, .int .i64 a.s.typ.kind, .int .i64 a.s.typ.elem, .int .i64 a.s.typ.n, .slice a.FA a.fn a.fc, .bool a.s.retain, .slice a.IA a.im a.ic]
theorem symC_one (a : SymA) : ∀ u ∈ symC a, u.oneCell' = true := by
  intro u hu
  simp only [symC, List.mem_cons, List.not_mem_nil, or_false] at hu
  rcases hu with rfl | rfl | rfl | rfl | rfl | rfl | rfl <;> rfl
theorem symC_agg (c : SymA) : (symC c).toArray.all (·.oneCell') = true := by
  rw [List.all_toArray, List.all_eq_true]; exact symC_one c
def symE : Enc SymA := ⟨7, symC, fun _ => rfl, by omega, symC_one⟩
def symZ : SymA := ⟨⟨[], ⟨0, 0, 0, []⟩, false, []⟩, none, 0, 0, none, 0, 0⟩
theorem symZero : (Try.prog.info? 73).bind (·.zero) = some (.agg (symC symZ).toArray) := by kernel_rfl
theorem symSize : (Try.prog.info? 73).map (·.size) = some 7 := by kernel_rfl
theorem symInfo3 : (Try.prog.info? 73).map (fun i => (i.zero, i.size, i.bytes)) = some (some (.agg (symC symZ).toArray), 7, 96) := by kernel_rfl
theorem typSize : (Try.prog.info? 71).map (·.size) = some 4 := by kernel_rfl
/-- the fields' row and the values' row of one -/
structure TypM (w : World) (t : TypV) (FA : Option Addr) (fn fc : Nat) : Prop where
  row : Rw fldE w FA fn t.fields
  le : fn ≤ fc
  cap : fc ≤ 9223372036854775807
structure SymM (w : World) (a : SymA) : Prop where
  typ : TypM w a.s.typ a.FA a.fn a.fc
  init : Vs w a.IA a.im (a.s.init.map (Value.int .i64))
  le : a.im ≤ a.ic
  cap : a.ic ≤ 9223372036854775807
theorem TypM.keep {w w' : World} {t : TypV} {FA : Option Addr} {fn fc : Nat} (h : TypM w t FA fn fc) (hk : Keeps w w') : TypM w' t FA fn fc := ⟨h.row.keep hk, h.le, h.cap⟩
theorem SymM.keep {w w' : World} {a : SymA} (h : SymM w a) (hk : Keeps w w') : SymM w' a := ⟨h.typ.keep hk, h.init.keep hk, h.le, h.cap⟩
/-- a row of variables -/
structure Syms (w : World) (A : Option Addr) (n : Nat) (l : List SymA) : Prop where
  row : Rw symE w A n l
  mem : ∀ a ∈ l, SymM w a
theorem Syms.keep {w w' : World} {A : Option Addr} {n : Nat} {l : List SymA} (h : Syms w A n l) (hk : Keeps w w') : Syms w' A n l := ⟨h.row.keep hk, fun a ha => (h.mem a ha).keep hk⟩
end Go.Proofs.Ytcpifcdndhhmgaa
set_option linter.unusedVariables false
set_option linter.unusedSimpArgs false
namespace Go.Proofs.Ytcpifcdndhhmgaa
open Go.ChangeShapes Go.WideShapes Go.ChangeAt Go.RowKit Go.Deep
section
variable {H : Type} {enc : TypeId × Value → H} {P : Program} {W : World}
theorem rw_of_trod {α : Type} (E : Enc α) (G : α → Prop) {t e : TypeId} {v : Value} {y : DataW H × List MemPlace} {fuel : Nat} {h63 : Bool} (ht : P.underlying t = some (.slice e)) (ce : P.cellsOf e = E.size) (dflt : α)
    (hE : ∀ cs y fuel, cs.length = E.size → DataW.trod enc P W 0 (fun _ => true) h63 fuel e cs = some y → ∃ x, cs = E.cells x ∧ G x)
    (hf : DataW.trod enc P W 0 (fun _ => true) h63 fuel t [v] = some y) : ∃ A n c l, v = .slice A n c ∧ Rw E W A n l ∧ (∀ x ∈ l, G x) ∧ n ≤ c ∧ c ≤ 9223372036854775807 := by
  have hpos := E.pos
  rcases open_slice ht hf with ⟨hcs, _⟩ | ⟨a, n, c, m, k, D, Pl, hcs, _, hl, hm, hmm, _, hx⟩
  · simp at hcs
    exact ⟨none, 0, 0, [], hcs, Rw.nil _ _, by simp, Nat.le_refl _, by omega⟩
  · simp at hcs
    simp only [if_true] at hmm
    have hrow0 : 0 < n → a.spot = none := by
      intro hi
      obtain ⟨cs', h1, h2⟩ := hx 0 (by omega)
      rw [ce] at h1
      obtain ⟨_, hlen, hcell⟩ := World.cells?_some h1
      have e0 := hcell 0 (by omega)
      have h0 : (a.add (0 * E.size)).add 0 = a := by simp [Addr.add]
      rw [h0] at e0
      rw [List.getElem?_eq_getElem (by omega)] at e0
      exact World.cell?_spot e0
    have hrow : ∀ i, i < n → ∃ x : α, W.rangeAt a.block (a.off + i * E.size) (E.cells x) ∧ G x := by
      intro i hi
      have hspot := hrow0 (by omega)
      obtain ⟨cs', h1, h2⟩ := hx i (by omega)
      rw [ce] at h1
      obtain ⟨_, hlen, hcell⟩ := World.cells?_some h1
      obtain ⟨x, rfl, hg⟩ := hE cs' _ _ hlen h2
      refine ⟨x, fun j u hu => ?_, hg⟩
      obtain ⟨ab, ao, asp⟩ := a
      dsimp only at hspot
      subst hspot
      have hj : j < (E.cells x).length := (List.getElem?_eq_some_iff.1 hu).1
      rw [E.len] at hj
      have e := hcell j (by omega)
      rw [Addr.add_lit, Addr.add_lit] at e
      rw [e]; exact hu
    haveI : Inhabited α := ⟨dflt⟩
    obtain ⟨F, hF⟩ := choose_lt hrow
    refine ⟨some a, n, c, (List.range n).map F, hcs, ⟨by simp, fun hn => ?_⟩, fun k hk => ?_, hl, by simpa [maxLen] using hm⟩
    · have hs := hrow0 hn
      obtain ⟨ab, ao, asp⟩ := a
      dsimp only at hs
      subst hs
      refine ⟨ab, ao, rfl, fun i x hix => ?_⟩
      simp only [List.getElem?_map, Option.map_eq_some_iff] at hix
      obtain ⟨k3, hk3, rfl⟩ := hix
      obtain ⟨h1, h2⟩ := List.getElem?_eq_some_iff.1 hk3
      have hik : i < n := by simpa using h1
      have hki : i = k3 := by simpa using h2
      subst hki
      exact (hF i hik).1
    · obtain ⟨i, hi, rfl⟩ := List.mem_map.1 hk
      exact (hF i (List.mem_range.1 hi)).2
theorem flds_of_trod {t e : TypeId} {f0 f1 : Field} {v : Value} {y : DataW H × List MemPlace} {fuel : Nat} {h63 : Bool} (ht : P.underlying t = some (.slice e)) (he : P.underlying e = some (.struct #[f0, f1])) (ce : P.cellsOf e = 2)
    (o0 : f0.offset = 0) (o1 : f1.offset = 1) (c0 : P.cellsOf f0.type = 1) (c1 : P.cellsOf f1.type = 1) (u0 : P.underlying f0.type = some .string) (u1 : P.underlying f1.type = some (.int .i64))
    (hf : DataW.trod enc P W 0 (fun _ => true) h63 fuel t [v] = some y) : ∃ A n c l, v = .slice A n c ∧ Rw fldE W A n l ∧ (∀ x ∈ l, I64 x.kind) ∧ n ≤ c ∧ c ≤ 9223372036854775807 :=
  rw_of_trod fldE (fun x => I64 x.kind) ht ce fldZ (fun cs y fuel hlen h => by
    obtain ⟨xs, k2, hk2, hxy, _, hxl, hfs⟩ := DataW.trod_struct he h
    match xs, hxl, cs, hlen with
    | [y0, y1], _, [v0, v1], _ =>
      have g0 := hfs 0 f0 rfl
      have g1 := hfs 1 f1 rfl
      simp [o0, o1, c0, c1] at g0 g1
      obtain ⟨s0, w0, _, q0⟩ := DataW.trod_string u0 g0
      obtain ⟨z1, w1, _, q1⟩ := DataW.trod_int u1 g1
      simp at w0 w1
      obtain ⟨l0, rfl⟩ := str_list s0
      subst w0; subst w1
      exact ⟨⟨l0, z1⟩, rfl, i64_bounds q1⟩) hf
theorem ints_of_trod {t e : TypeId} {v : Value} {y : DataW H × List MemPlace} {fuel : Nat} {h63 : Bool} (ht : P.underlying t = some (.slice e)) (he : P.underlying e = some (.int .i64)) (hc : P.cellsOf e = 1)
    (hf : DataW.trod enc P W 0 (fun _ => true) h63 fuel t [v] = some y) : ∃ (A : Option Addr) (n c : Nat) (zs : List Int), v = .slice A n c ∧ Vs W A n (zs.map (Value.int .i64)) ∧ (∀ z ∈ zs, I64 z) ∧ n ≤ c ∧ c ≤ 9223372036854775807 := by
  rcases open_ints ht he hc hf with ⟨hcs, _⟩ | ⟨x, n, c, zs, hcs, _, hl, hm, hz, hx, hcell, hwz⟩
  · simp at hcs
    exact ⟨none, 0, 0, [], hcs, Vs.nil _ _, by simp, Nat.le_refl _, by omega⟩
  · simp at hcs
    simp only [if_true] at hz
    refine ⟨some x, n, c, zs.take n, hcs, ⟨by simp; omega, fun hn => ?_⟩, fun z hzz => i64_bounds (hwz z (List.mem_of_mem_take hzz)), hl, by simpa [maxLen] using hm⟩
    have hspot : x.spot = none := World.cell?_spot (by simpa [Addr.add] using hcell 0 (by omega))
    obtain ⟨xb, xo, xs⟩ := x
    dsimp only at hspot
    subst hspot
    refine ⟨xb, xo, rfl, fun i u hu => ?_⟩
    simp only [List.getElem?_map, Option.map_eq_some_iff] at hu
    obtain ⟨z, hz', rfl⟩ := hu
    have hi : i < n ∧ zs[i]? = some z := by
      rw [List.getElem?_take] at hz'
      split at hz'
      · exact ⟨by assumption, hz'⟩
      · cases hz'
    have := hcell i (by omega)
    rw [Addr.add_lit] at this
    rw [this, List.getD_eq_getElem?_getD, hi.2]
    rfl
/-- a variable that came in, each number of int's size -/
structure SymI (W : World) (a : SymA) : Prop where
  mem : SymM W a
  kind : I64 a.s.typ.kind
  elem : I64 a.s.typ.elem
  n : I64 a.s.typ.n
  fields : ∀ f ∈ a.s.typ.fields, I64 f.kind
  init : ∀ z ∈ a.s.init, I64 z
structure SymsI (W : World) (A : Option Addr) (n : Nat) (l : List SymA) : Prop where
  row : Rw symE W A n l
  mem : ∀ a ∈ l, SymI W a
theorem SymsI.syms {W : World} {A : Option Addr} {n : Nat} {l : List SymA} (h : SymsI W A n l) : Syms W A n l := ⟨h.row, fun a ha => (h.mem a ha).mem⟩
theorem open_syms {t e : TypeId} {f0 f1 f2 f3 h0 h1 h2 h3 g0 g1 : Field} {fe ie : TypeId} {v : Value} {d : DataW H} {p : List MemPlace} {b : Nat} {r : Reach} {h63 : Bool} (ht : P.underlying t = some (.slice e)) (he : P.underlying e = some (.struct #[f0, f1, f2, f3])) (ce : P.cellsOf e = 7)
    (o0 : f0.offset = 0) (o1 : f1.offset = 1) (o2 : f2.offset = 5) (o3 : f3.offset = 6) (c0 : P.cellsOf f0.type = 1) (c1 : P.cellsOf f1.type = 4) (c2 : P.cellsOf f2.type = 1) (c3 : P.cellsOf f3.type = 1)
    (u0 : P.underlying f0.type = some .string) (u1 : P.underlying f1.type = some (.struct #[h0, h1, h2, h3])) (u2 : P.underlying f2.type = some .bool) (u3 : P.underlying f3.type = some (.slice ie)) (ui : P.underlying ie = some (.int .i64)) (ci : P.cellsOf ie = 1)
    (p0 : h0.offset = 0) (p1 : h1.offset = 1) (p2 : h2.offset = 2) (p3 : h3.offset = 3) (d0 : P.cellsOf h0.type = 1) (d1 : P.cellsOf h1.type = 1) (d2 : P.cellsOf h2.type = 1) (d3 : P.cellsOf h3.type = 1)
    (w0 : P.underlying h0.type = some (.int .i64)) (w1 : P.underlying h1.type = some (.int .i64)) (w2 : P.underlying h2.type = some (.int .i64)) (w3 : P.underlying h3.type = some (.slice fe)) (uf : P.underlying fe = some (.struct #[g0, g1])) (cf : P.cellsOf fe = 2)
    (k0 : g0.offset = 0) (k1 : g1.offset = 1) (m0 : P.cellsOf g0.type = 1) (m1 : P.cellsOf g1.type = 1) (x0 : P.underlying g0.type = some .string) (x1 : P.underlying g1.type = some (.int .i64))
    (hval : Value.okWide P W r b t v) (h : DataW.Trod enc P W 0 (fun _ => true) h63 t v d p) : ∃ A n c l, v = .slice A n c ∧ SymsI W A n l ∧ n ≤ c ∧ c ≤ 9223372036854775807 := by
  obtain ⟨A, n, c, rfl⟩ := okWide_slice ht hval
  obtain ⟨fuel, hf⟩ := h
  obtain ⟨A', n', c', l, e, hr, hg, hn, hc⟩ := rw_of_trod (enc := enc) (P := P) (W := W) (h63 := h63) symE (SymI W) (fuel := fuel) ht ce symZ (fun (cs : List Value) (y : DataW H × List MemPlace) (fuel : Nat) hlen h => by
    obtain ⟨xs, k2, hk2, hxy, _, hxl, hfs⟩ := DataW.trod_struct he h
    match xs, hxl, cs, hlen with
    | [y0, y1, y2, y3], _, [v0, v1, v2, v3, v4, v5, v6], _ =>
      have q0 := hfs 0 f0 rfl
      have q1 := hfs 1 f1 rfl
      have q2 := hfs 2 f2 rfl
      have q3 := hfs 3 f3 rfl
      simp [o0, o1, o2, o3, c0, c1, c2, c3] at q0 q1 q2 q3
      obtain ⟨s0, e0, _, _⟩ := DataW.trod_string u0 q0
      obtain ⟨b2, e2, _⟩ := DataW.trod_bool u2 q2
      obtain ⟨IA, im, ic, zs, e3, hI, hzs, hi1, hi2⟩ := ints_of_trod u3 ui ci q3
      simp at e0 e2
      obtain ⟨l0, rfl⟩ := str_list s0
      subst e0; subst e2; subst e3
      obtain ⟨xs2, k3, hk3, hxy2, _, hxl2, hgs⟩ := DataW.trod_struct u1 q1
      match xs2, hxl2 with
      | [y4, y5, y6, y7], _ =>
        have r0 := hgs 0 h0 rfl
        have r1 := hgs 1 h1 rfl
        have r2 := hgs 2 h2 rfl
        have r3 := hgs 3 h3 rfl
        simp [p0, p1, p2, p3, d0, d1, d2, d3] at r0 r1 r2 r3
        obtain ⟨z0, t0, _, j0⟩ := DataW.trod_int w0 r0
        obtain ⟨z1, t1, _, j1⟩ := DataW.trod_int w1 r1
        obtain ⟨z2, t2, _, j2⟩ := DataW.trod_int w2 r2
        obtain ⟨FA, fn, fc, fl, t3, hF, hfk, hf1, hf2⟩ := flds_of_trod w3 uf cf k0 k1 m0 m1 x0 x1 r3
        simp at t0 t1 t2
        subst t0; subst t1; subst t2; subst t3
        exact ⟨⟨⟨l0, ⟨z0, z1, z2, fl⟩, b2, zs⟩, FA, fn, fc, IA, im, ic⟩, rfl, ⟨⟨hF, hf1, hf2⟩, hI, hi1, hi2⟩, i64_bounds j0, i64_bounds j1, i64_bounds j2, hfk, hzs⟩) (by simpa [Value.cells] using hf)
  exact ⟨A', n', c', l, e, ⟨hr, hg⟩, hn, hc⟩
end
end Go.Proofs.Ytcpifcdndhhmgaa
set_option linter.unusedVariables false
set_option linter.unusedSimpArgs false
namespace Go.Proofs.Ytcpifcdndhhmgaa
open Go.RowKit
section
variable {P : Program} {Q : Exit → Act → World → Prop} {n : Nat} {L : Slots} {w : World}
def MidK (I : Slots → World → Prop) (n : Nat) (a : Act) (w : World) : Prop := ∃ L, I L w ∧ Kn n L a
/-- the same where the first piece stands already alone -/
theorem kw_cutq {x y : Code} (I : Slots → World → Prop) (hx : KW P x (Exit.then (MidK I n) Q) n L w) (h : ∀ L w, I L w → KW P y Q n L w) : KW P x (Exit.then (y.wp P Q) Q) n L w := ⟨fun a k => Code.wp_mono (fun e a2 w2 hq => by
  cases e with
  | normal =>
    obtain ⟨L2, hI, k2⟩ := hq
    exact (h L2 w2 hI).h a2 k2
  | _ => exact hq) (hx.h a k)⟩
theorem kq_cut {I : Slots → World → Prop} (ts : List Nat) (hI : I (nrm L ts) w) : KQ (Exit.then (MidK I n) Q) .normal n L w := ⟨fun a k => ⟨_, hI, k.less ts⟩⟩
end
end Go.Proofs.Ytcpifcdndhhmgaa
set_option linter.unusedVariables false
set_option linter.unusedSimpArgs false
namespace Go.Proofs.Ytcpifcdndhhmgaa
open Go.RowKit
theorem tkN_i64 (t : List UInt8 × List UInt8 × Int) : I64 (tkN t) := by unfold I64 tkN wrap64; omega
/-- a reader at g, a row of one's own behind it -/
structure RdK (k : Bool) (w0 W : World) (g B : Nat) (l : List UInt8) (e : Int) (v : Value) (n : Nat) (ks : List KepS) : Prop where
  rd : RSt k W g l e
  own : W.ownsRow B 29 3 v n (flatK ks)
  gB : g < B
  BW : B ≤ W.heap.size
  ge : w0.heap.size ≤ g
  bel : Below w0.heap.size w0 W
section
variable {k : Bool} {w0 W W' : World} {g B n : Nat} {l l' : List UInt8} {e e' : Int} {v v' : Value} {ks : List KepS}
theorem RdK.ne (h : RdK k w0 W g B l e v n ks) : v.ownBlock = none ∨ v.ownBlock ≠ some g := by
  cases hv : v.ownBlock with
  | none => exact .inl rfl
  | some b => have := (h.own.lt b hv).1; have := h.gB; exact .inr (fun hh => by injection hh with hh; omega)
theorem RdK.read (h : RdK k w0 W g B l e v n ks) (hR : Rd k W W' [] g l' e') : RdK k w0 W' g B l' e' v n ks :=
  ⟨hR.rd, h.own.kept hR.grown h.ne, h.gB, Nat.le_trans h.BW hR.grown.size, h.ge, below_grown h.bel hR.grown h.bel.size h.ge⟩
theorem RdK.below (h : RdK k w0 W g B l e v n ks) (hb : Below W.heap.size W W') : RdK k w0 W' g B l e v n ks :=
  ⟨h.rd.below hb, own_below h.own hb, h.gB, Nat.le_trans h.BW hb.size, h.ge, below_then h.bel hb h.bel.size⟩
theorem RdK.other {b : Nat} (h : RdK k w0 W g B l e v n ks) (hg : W.grownBy W' (some b)) (hb : g < b) (hv : v.ownBlock ≠ some b) : RdK k w0 W' g B l e v n ks :=
  ⟨h.rd.other hg hb, h.own.kept hg (.inr hv), h.gB, Nat.le_trans h.BW hg.size, h.ge, below_grown h.bel hg h.bel.size (by have := h.ge; omega)⟩
theorem grownNone {a b : World} (h : a.grownBy b none) (r : Option Nat) : a.grownBy b r := ⟨h.os, h.tape, h.output, h.size, fun i hi _ => h.block i hi (by simp)⟩
theorem RdK.app (h : RdK k w0 W g B l e v n ks) {m : Nat} {qs : List KepS} (ho : W'.ownsRow B 29 3 v' m (flatK qs)) (hg : W.grownBy W' v.ownBlock) : RdK k w0 W' g B l e v' m qs := by
  cases hv : v.ownBlock with
  | none =>
    rw [hv] at hg
    exact ⟨h.rd.other (grownNone hg (some B)) h.gB, ho, h.gB, Nat.le_trans h.BW hg.size, h.ge, below_grown h.bel (grownNone hg (some B)) h.bel.size (by have := h.ge; have := h.gB; omega)⟩
  | some b =>
    rw [hv] at hg
    have hb := (h.own.lt b hv).1
    have := h.gB
    have := h.ge
    exact ⟨h.rd.other hg (by omega), ho, h.gB, Nat.le_trans h.BW hg.size, h.ge, below_grown h.bel hg h.bel.size (by omega)⟩
theorem RdK.fresh (h : RdK k w0 W g B l e v n ks) : v.ownBlock ≠ some W.heap.size := fun hh => by have := (h.own.lt _ hh).2; omega
end
section
variable {P : Program} {Q : Exit → Act → World → Prop} {n : Nat} {L : Slots} {w : World} {ops : Array Oper} {rest : List Oper} {o : Oper}
/-- a call of a method's value: what it is bound to comes first -/
theorem kl_callp {d t : Nat} {f : FuncId} {fn : Func} {c : Code} {xs : List Operand} {ts : Array TypeId} {pa : Array Value} (hd : o.dst = some d) (hg : o.guard = none) (ho : o.op = .call { callee := .value (.tmp t), args := xs.toArray, argTypes := ts })
    (ht : lk L t = some (.func (.func f) pa #[])) (hf : P.funcs[f]? = some fn) (hb : fn.body = some c) (hn : (fn.name == "runtime.NumGoroutine") = false) (hk : (xs.all (okx L) && Nat.blt d n) = true)
    (h : Calls P f (pa ++ (xs.map (ev L)).toArray) w fun e w' => ∃ v, e = .returned v ∧ KL P ops Q rest n ((d, v) :: L) w') : KL P ops Q (o :: rest) n L w := by
  have hk' := hk
  simp only [Bool.and_eq_true] at hk'
  have hv : ev L (.tmp t) = .func (.func f) pa #[] := by simp [ev, ht]
  refine kl_step hd hg ?_ fun K hK => ?_
  · simp only [ho, okop, Bool.and_eq_true]
    exact ⟨⟨hk'.1, by simp [okx, ht]⟩, hk'.2⟩
  · have he : execOp (ev L) o = callFunc f (pa ++ xs.toArray.map (ev L) ++ #[]) := by
      obtain ⟨dst, op, type, pos, after, guard⟩ := o
      subst ho
      simp only [execOp, resolve, hv]
      rfl
    rw [he, run_callFunc hf hb hn]
    simp only [Array.append_empty, List.map_toArray]
    refine Calls.mono h ?_
    rintro e w'' ⟨v, rfl, hv⟩
    exact ⟨v, rfl, hK _ _ hv⟩
end
theorem kq_ret3 {P : Program} {n : Nat} {L : Slots} {w : World} {fn : Func} {R : Ending → World → Prop} {t u x : Tmp} {v v' v2 : Value} (hr : fn.results = #[.tmp t, .tmp u, .tmp x]) (hv : lk L t = some v) (hv' : lk L u = some v') (hv2 : lk L x = some v2) (hR : R (.returned (.tuple #[v, v', v2])) w) : KQ (bodyPost P fn R) .ret n L w := ⟨fun a k =>
  bodyPost_ret (v := .tuple #[v, v', v2]) (by
    have h1 := k.all t v hv
    have h2 := k.all u v' hv'
    have h3 := k.all x v2 hv2
    rw [Array.getD_eq_getD_getElem?] at h1 h2 h3
    simp [results, hr, h1, h2, h3]) k.def_ hR⟩
def ParseKP (b : List UInt8) (w : World) (e : Ending) (w' : World) : Prop :=
  ∃ A n c, e = .returned (.tuple #[.int .i64 (parseK b).1, .slice A n c, .int .i64 (parseK b).2.2]) ∧ KeS w' A n (parseK b).2.1 ∧ TyK w' A ∧ n ≤ c ∧ c ≤ 9223372036854775807 ∧ Below w.heap.size w w'
theorem bodyK_many (seq : Int) (n : Nat) (l : List UInt8) (e : Int) (h : 24 < n) : bodyK seq n l e = finK seq (kepN 0 ([], l, if e = 0 then 4 else e)).1 (ended (kepN 0 ([], l, if e = 0 then 4 else e)).2.1 (kepN 0 ([], l, if e = 0 then 4 else e)).2.2) := by
  unfold bodyK; rw [if_pos h]; rfl
theorem bodyK_few (seq : Int) (n : Nat) (l : List UInt8) (e : Int) (h : ¬ 24 < n) : bodyK seq n l e = finK seq (kepN n ([], l, e)).1 (ended (kepN n ([], l, e)).2.1 (kepN n ([], l, e)).2.2) := by
  unfold bodyK; rw [if_neg h]
theorem badK_lo (seq : Int) (ks : List KepS) (h : seq < 1) : badK seq ks = true := by simp [badK, h]
theorem badK_hi (seq : Int) (ks : List KepS) (h : 1073741824 < seq) : badK seq ks = true := by simp [badK, h]
theorem badK_may (seq : Int) (ks : List KepS) (h1 : ¬ seq < 1) (h2 : ¬ 1073741824 < seq) : badK seq ks = ks.any fun k => !mayK k := by simp [badK, h1, h2]
end Go.Proofs.Ytcpifcdndhhmgaa
