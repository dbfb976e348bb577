/- Rows of structs of k cells each, in memory. No program in sight. Variables, fields and cells, plain and in memory. -/
import Derived.Test.YtcpifcdndhhmgaaRetMem
set_option linter.unusedVariables false
set_option linter.unusedSimpArgs false
namespace Go.Proofs.Ytcpifcdndhhmgaa
open Go.RowKit
section
variable {α : Type}
/-- what a struct has in memory -/
structure Enc (α : Type) where
  size : Nat
  cells : α → List Value
  len : ∀ a, (cells a).length = size
  pos : 0 < size
  one : ∀ a, ∀ u ∈ cells a, u.oneCell' = true
variable (E : Enc α)
def flatR (l : List α) : List Value := (l.map E.cells).flatten
theorem flatR_cons (p : α) (l : List α) : flatR E (p :: l) = E.cells p ++ flatR E l := rfl
theorem flatR_append (l m : List α) : flatR E (l ++ m) = flatR E l ++ flatR E m := by simp [flatR]
theorem flatR_snoc (l : List α) (p : α) : flatR E (l ++ [p]) = flatR E l ++ E.cells p := by simp [flatR]
theorem flatR_len : ∀ (l : List α), (flatR E l).length = l.length * E.size
  | [] => by simp [flatR]
  | p :: l => by rw [flatR_cons, List.length_append, E.len, flatR_len l, List.length_cons, Nat.add_mul, Nat.one_mul]; omega
theorem flatR_drop (l : List α) (k : Nat) (hk : k ≤ l.length) : (flatR E l).drop (k * E.size) = flatR E (l.drop k) := by
  have h1 : flatR E l = flatR E (l.take k) ++ flatR E (l.drop k) := by rw [← flatR_append, List.take_append_drop]
  have h2 := flatR_len E (l.take k)
  rw [List.length_take, Nat.min_eq_left hk] at h2
  rw [h1, List.drop_append_of_le_length (by omega), List.drop_of_length_le (by omega), List.nil_append]
theorem flatR_at (l : List α) (i : Nat) (p : α) (hi : l[i]? = some p) : ∀ j u, (E.cells p)[j]? = some u → (flatR E l)[i * E.size + j]? = some u := by
  intro j u hu
  have hil := (List.getElem?_eq_some_iff.1 hi).1
  have hj := (List.getElem?_eq_some_iff.1 hu).1
  have h1 := flatR_drop E l i (by omega)
  have h2 : l.drop i = p :: l.drop (i + 1) := by rw [List.drop_eq_getElem_cons hil, (List.getElem?_eq_some_iff.1 hi).2]
  rw [h2, flatR_cons] at h1
  have h3 : ((flatR E l).drop (i * E.size))[j]? = some u := by rw [h1, List.getElem?_append_left hj]; exact hu
  rwa [List.getElem?_drop] at h3
theorem flatR_one (l : List α) : ∀ u ∈ flatR E l, u.oneCell' = true := fun u hu => by
  unfold flatR at hu
  obtain ⟨cs, hcs, hu⟩ := List.mem_flatten.1 hu
  obtain ⟨p, _, rfl⟩ := List.mem_map.1 hcs
  exact E.one p u hu
/-- a row of them at A -/
structure Rw (w : World) (A : Option Addr) (n : Nat) (l : List α) : Prop where
  len : l.length = n
  at_ : 0 < n → ∃ g o, A = some ⟨g, o, none⟩ ∧ ∀ i p, l[i]? = some p → w.rangeAt g (o + i * E.size) (E.cells p)
variable {E} {w w' : World} {A : Option Addr} {n : Nat} {l : List α}
theorem Rw.nil (w : World) (A : Option Addr) : Rw E w A 0 [] := ⟨rfl, fun h => absurd h (by omega)⟩
theorem Rw.keep (h : Rw E w A n l) (hk : Keeps w w') : Rw E w' A n l :=
  ⟨h.len, fun hn => by obtain ⟨g, o, e, hc⟩ := h.at_ hn; exact ⟨g, o, e, fun i p hp j u hu => hk _ _ (hc i p hp j u hu)⟩⟩
theorem Rw.below (h : Rw E w A n l) (hb : Below w.heap.size w w') : Rw E w' A n l := h.keep (.of_below hb)
theorem Rw.grown {g : Nat} (h : Rw E w A n l) (hg : w.grownBy w' (some g)) (ha : 0 < n → Away g A) : Rw E w' A n l :=
  ⟨h.len, fun hn => by
    obtain ⟨b, o, e, hc⟩ := h.at_ hn
    refine ⟨b, o, e, fun i p hp j u hu => ?_⟩
    have hne : b ≠ g := ha hn ⟨b, o, none⟩ e
    exact hg.cell (hc i p hp j u hu) (fun hh => hne (by injection hh))⟩
theorem Rw.next {k : Nat} (h : Rw E w A n l) (hk : k < n) :
    ∃ g o p, A = some ⟨g, o, none⟩ ∧ w.rangeAt g (o + k * E.size) (E.cells p) ∧ Hid (l.take (k + 1) = l.take k ++ [p]) ∧ Hid (l[k]? = some p) := by
  obtain ⟨g, o, e, hc⟩ := h.at_ (by omega)
  have hl : k < l.length := by rw [h.len]; exact hk
  exact ⟨g, o, l[k], e, hc k _ (List.getElem?_eq_getElem hl), take_next hl, List.getElem?_eq_getElem hl⟩
theorem Rw.inQ (h : Rw E w A n l) : 0 < n → InQ (fun b => b < w.heap.size) A := fun h0 a e => by
  obtain ⟨g, o, e', hc⟩ := h.at_ h0
  rw [e'] at e
  injection e with e
  subst e
  have hl : 0 < l.length := by rw [h.len]; exact h0
  have hp : 0 < (E.cells l[0]).length := by rw [E.len]; exact E.pos
  have := World.block_lt_of_cell? w _ (hc 0 _ (List.getElem?_eq_getElem hl) 0 _ (List.getElem?_eq_getElem hp))
  exact this
/-- the flat row of its cells -/
theorem Rw.flat (h : Rw E w A n l) : Vs w A (n * E.size) (flatR E l) := by
  refine ⟨by rw [flatR_len, h.len], fun hn => ?_⟩
  have h0 : 0 < n := Nat.pos_of_ne_zero fun e => by rw [e] at hn; simp at hn
  obtain ⟨g, o, e, hc⟩ := h.at_ h0
  refine ⟨g, o, e, fun i v hv => ?_⟩
  have hi : i < n * E.size := by have := (List.getElem?_eq_some_iff.1 hv).1; rw [flatR_len, h.len] at this; exact this
  have hd : i / E.size < n := (Nat.div_lt_iff_lt_mul E.pos).2 hi
  have hm : i % E.size < E.size := Nat.mod_lt _ E.pos
  have hil : i / E.size < l.length := by rw [h.len]; exact hd
  have hj : i % E.size < (E.cells l[i / E.size]).length := by rw [E.len]; exact hm
  have e1 : i / E.size * E.size + i % E.size = i := by rw [Nat.mul_comm]; exact Nat.div_add_mod i E.size
  have h2 := flatR_at E l (i / E.size) _ (List.getElem?_eq_getElem hil) (i % E.size) _ (List.getElem?_eq_getElem hj)
  rw [e1, hv] at h2
  injection h2 with h2
  have h3 := hc (i / E.size) _ (List.getElem?_eq_getElem hil) (i % E.size) _ (List.getElem?_eq_getElem hj)
  rw [Nat.add_assoc, e1, ← h2] at h3
  exact h3
theorem own_rw {base : Nat} {e : TypeId} {v : Value} (h : w.ownsRow base e E.size v n (flatR E l)) (hl : l.length = n) : ∃ A c, v = .slice A n c ∧ Rw E w A n l ∧ n ≤ c ∧ c ≤ 9223372036854775807 ∧ (A = none → n = 0 ∧ c = 0) ∧ (∀ a, A = some a → base ≤ a.block) := by
  have ho := h
  rcases h.2 with ⟨h1, h2⟩ | ⟨g, cap, cur, h1, h6, h3, h4, h5, _⟩
  · subst h2
    exact ⟨none, 0, h1, ⟨hl, fun hn => absurd hn (by omega)⟩, by omega, by omega, fun _ => ⟨rfl, rfl⟩, fun a e => by cases e⟩
  · subst h1
    refine ⟨_, cap, rfl, ⟨hl, fun _ => ⟨g, 0, rfl, fun i p hp => ?_⟩⟩, h4, by simpa [maxLen] using h5, (fun e => by cases e), (fun a e => ?_)⟩
    · rw [Nat.zero_add]
      exact own_mid ho i _ (flatR_at E l i p hp)
    · injection e with e
      subst e
      exact h6
end
end Go.Proofs.Ytcpifcdndhhmgaa
set_option linter.unusedVariables false
set_option linter.unusedSimpArgs false
namespace Go.Proofs.Ytcpifcdndhhmgaa
open Go.RowKit
structure FldV where
  name : List UInt8
  kind : Int
structure TypV where
  kind : Int
  elem : Int
  n : Int
  fields : List FldV
structure SymV where
  name : List UInt8
  typ : TypV
  retain : Bool
  init : List Int
structure CellV where
  path : List UInt8
  kind : Int
  retain : Bool
  init : Int
  len : Int
  block : Int
def cellC (c : CellV) : List Value := [.string ⟨c.path.toArray⟩, .int .i64 c.kind, .bool c.retain, .int .i64 c.init, .int .i64 c.len, .int .i64 c.block]
def fldC (f : FldV) : List Value := [.string ⟨f.name.toArray⟩, .int .i64 f.kind]
theorem cellC_one (c : CellV) : ∀ u ∈ cellC c, u.oneCell' = true := by
  intro u hu
  simp only [cellC, List.mem_cons, List.not_mem_nil, or_false] at hu
  rcases hu with rfl | rfl | rfl | rfl | rfl | rfl <;> rfl
theorem fldC_one (c : FldV) : ∀ u ∈ fldC c, u.oneCell' = true := by
  intro u hu
  simp only [fldC, List.mem_cons, List.not_mem_nil, or_false] at hu
  rcases hu with rfl | rfl <;> rfl
def cellE : Enc CellV := ⟨6, cellC, fun _ => rfl, by omega, cellC_one⟩
def fldE : Enc FldV := ⟨2, fldC, fun _ => rfl, by omega, fldC_one⟩
def kepE : Enc KepS := ⟨3, kepC, fun _ => rfl, by omega, kepC_one'⟩
theorem cellC_agg (c : CellV) : (cellC c).toArray.all (·.oneCell') = true := by
  rw [List.all_toArray, List.all_eq_true]; exact cellC_one c
theorem KeS.rw_ {w : World} {A : Option Addr} {n : Nat} {l : List KepS} (h : KeS w A n l) : Rw kepE w A n l := ⟨h.len, h.at_⟩
theorem Rw.kes {w : World} {A : Option Addr} {n : Nat} {l : List KepS} (h : Rw kepE w A n l) : KeS w A n l := ⟨h.len, h.at_⟩
def cellZ : CellV := ⟨[], 0, false, 0, 0, 0⟩
def fldZ : FldV := ⟨[], 0⟩
theorem cellZero : (Try.prog.info? 63).bind (·.zero) = some (.agg (cellC cellZ).toArray) := by kernel_rfl
theorem cellSize : (Try.prog.info? 63).map (·.size) = some 6 := by kernel_rfl
theorem cellInfo3 : (Try.prog.info? 63).map (fun i => (i.zero, i.size, i.bytes)) = some (some (.agg (cellC cellZ).toArray), 6, 56) := by kernel_rfl
theorem cellInfo (k : CellV) : (Try.prog.info? 63).map (·.size) = some (cellC k).toArray.size := by rw [cellSize]; rfl
theorem cellInfoL (k : CellV) : (Try.prog.info? 63).map (·.size) = some (cellC k).length := by rw [cellSize]; rfl
theorem fldZero : (Try.prog.info? 118).bind (·.zero) = some (.agg (fldC fldZ).toArray) := by kernel_rfl
theorem fldInfo3 : (Try.prog.info? 118).map (fun i => (i.zero, i.size, i.bytes)) = some (some (.agg (fldC fldZ).toArray), 2, 24) := by kernel_rfl
theorem cellUnder : ∃ fs, Try.prog.underlying 63 = some (.struct fs) ∧ fs.toList.mapM (fun f => (Try.prog.info? f.type).map fun i => (f.offset, i.size)) = some [(0, 1), (1, 1), (2, 1), (3, 1), (4, 1), (5, 1)] := ⟨_, Try.underlying63, by kernel_rfl⟩
theorem fldUnder : ∃ fs, Try.prog.underlying 118 = some (.struct fs) ∧ fs.toList.mapM (fun f => (Try.prog.info? f.type).map fun i => (f.offset, i.size)) = some [(0, 1), (1, 1)] := ⟨_, Try.underlying118, by kernel_rfl⟩
theorem cellBuilt2 (s : List UInt8) (q : Int) : Try.prog.built 63 [(0, .string ⟨s.toArray⟩), (1, .int .i64 q)] = some (cellC ⟨s, q, false, 0, 0, 0⟩).toArray := by
  obtain ⟨fs, hu, hp⟩ := cellUnder
  rw [built_struct cellZero hu hp]
  refine (fill_step _ [] (cellC cellZ) 0 (.string ⟨s.toArray⟩) [.string ⟨s.toArray⟩] rfl rfl (by simp [cellC]) [(1, .int .i64 q)]).trans ?_
  refine (fill_step _ [.string ⟨s.toArray⟩] (((cellC cellZ)).drop 1) 1 (.int .i64 q) [.int .i64 q] rfl rfl (by simp [cellC]) []).trans ?_
  rw [fill_nil]; rfl
theorem fldBuilt2 (s : List UInt8) (q : Int) : Try.prog.built 118 [(0, .string ⟨s.toArray⟩), (1, .int .i64 q)] = some (fldC ⟨s, q⟩).toArray := by
  obtain ⟨fs, hu, hp⟩ := fldUnder
  rw [built_struct fldZero hu hp]
  refine (fill_step _ [] (fldC fldZ) 0 (.string ⟨s.toArray⟩) [.string ⟨s.toArray⟩] rfl rfl (by simp [fldC]) [(1, .int .i64 q)]).trans ?_
  refine (fill_step _ [.string ⟨s.toArray⟩] (((fldC fldZ)).drop 1) 1 (.int .i64 q) [.int .i64 q] rfl rfl (by simp [fldC]) []).trans ?_
  rw [fill_nil]; rfl
/-- a variable and where its rows are -/
structure SymA where
  s : SymV
  FA : Option Addr
  fn : Nat
  fc : Nat
  IA : Option Addr
  im : Nat
  ic : Nat
def typC (t : TypV) (FA : Option Addr) (fn fc : Nat) : List Value := [.int .i64 t.kind, .int .i64 t.elem, .int .i64 t.n, .slice FA fn fc]
def symC (a : SymA) : List Value := [.string ⟨a.s.name.toArray⟩, .int .i64 a.s.typ.kind, .int .i64 a.s.typ.elem, .int .i64 a.s.typ.n, .slice a.FA a.fn a.fc, .bool a.s.retain, .slice a.IA a.im a.ic]
theorem symC_one (a : SymA) : ∀ u ∈ symC a, u.oneCell' = true := by
  intro u hu
  simp only [symC, List.mem_cons, List.not_mem_nil, or_false] at hu
  rcases hu with rfl | rfl | rfl | rfl | rfl | rfl | rfl <;> rfl
def symE : Enc SymA := ⟨7, symC, fun _ => rfl, by omega, symC_one⟩
def symZ : SymA := ⟨⟨[], ⟨0, 0, 0, []⟩, false, []⟩, none, 0, 0, none, 0, 0⟩
theorem symZero : (Try.prog.info? 73).bind (·.zero) = some (.agg (symC symZ).toArray) := by kernel_rfl
theorem symSize : (Try.prog.info? 73).map (·.size) = some 7 := by kernel_rfl
theorem typSize : (Try.prog.info? 71).map (·.size) = some 4 := by kernel_rfl
/-- the fields' row and the values' row of one -/
structure TypM (w : World) (t : TypV) (FA : Option Addr) (fn fc : Nat) : Prop where
  row : Rw fldE w FA fn t.fields
  le : fn ≤ fc
  cap : fc ≤ 9223372036854775807
structure SymM (w : World) (a : SymA) : Prop where
  typ : TypM w a.s.typ a.FA a.fn a.fc
  init : Vs w a.IA a.im (a.s.init.map (Value.int .i64))
  le : a.im ≤ a.ic
  cap : a.ic ≤ 9223372036854775807
theorem TypM.keep {w w' : World} {t : TypV} {FA : Option Addr} {fn fc : Nat} (h : TypM w t FA fn fc) (hk : Keeps w w') : TypM w' t FA fn fc := ⟨h.row.keep hk, h.le, h.cap⟩
theorem SymM.keep {w w' : World} {a : SymA} (h : SymM w a) (hk : Keeps w w') : SymM w' a := ⟨h.typ.keep hk, h.init.keep hk, h.le, h.cap⟩
/-- a row of variables -/
structure Syms (w : World) (A : Option Addr) (n : Nat) (l : List SymA) : Prop where
  row : Rw symE w A n l
  mem : ∀ a ∈ l, SymM w a
theorem Syms.keep {w w' : World} {A : Option Addr} {n : Nat} {l : List SymA} (h : Syms w A n l) (hk : Keeps w w') : Syms w' A n l := ⟨h.row.keep hk, fun a ha => (h.mem a ha).keep hk⟩
end Go.Proofs.Ytcpifcdndhhmgaa
