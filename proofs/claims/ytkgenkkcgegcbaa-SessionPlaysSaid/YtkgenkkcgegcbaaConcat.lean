/- Sessions and frames: plain, and in memory. A frame of chapter 17 as an argument, opened. slices.Clone at bytes. slices.Clone, Grow, Concat at bytes. -/
import Derived.Test.YtkgenkkcgegcbaaShaSpread
import Derived.Test.YtkgenkkcgegcbaaShaSum
import Derived.Test.YtkgenkkcgegcbaaHashArgs
import Derived.Test.YtkgenkkcgegcbaaKnOps
import Derived.Lib.AppendZerosOnto
import Derived.Lib.SliceRun
import Derived.Test.YtkgenkkcgegcbaaGrow
namespace Go.Proofs.Ytkgenkkcgegcbaa
open Go.RowKit

def bls (l : List Bool) : List Value := l.map Value.bool
theorem length_bls (l : List Bool) : (bls l).length = l.length := by simp [bls]
theorem bls_get (l : List Bool) (i : Nat) (h : i < l.length) : (bls l)[i]? = some (.bool l[i]) := by simp [bls, h]
theorem bls_one (l : List Bool) : ∀ u ∈ bls l, u.oneCell' = true := by
  intro u hu; simp [bls] at hu; rcases hu with ⟨_, rfl⟩ | ⟨_, rfl⟩ <;> rfl

structure Ses where
  id : Int
  size : Int
  sum : List UInt8
  data : List UInt8
  got : List Bool
structure Frm where
  kind : Int
  id : Int
  size : Int
  at_ : Int
  sum : List UInt8
  data : List UInt8
def sesV (s : Ses) (D G : Value) : List Value := [.int .i64 s.id] ++ [.int .i64 s.size] ++ bv s.sum ++ [D] ++ [G]
def frmV (f : Frm) (D : Value) : List Value := [.int .i64 f.kind] ++ [.int .i64 f.id] ++ [.int .i64 f.size] ++ [.int .i64 f.at_] ++ bv f.sum ++ [D]
/-- a slice of these bytes, of these bools -/
def SlB (w : World) (l : List UInt8) (v : Value) : Prop := ∃ A n c, v = .slice A n c ∧ Bs w A n l ∧ n ≤ c ∧ c ≤ 9223372036854775807
def SlO (w : World) (l : List Bool) (v : Value) : Prop := ∃ A n c, v = .slice A n c ∧ Vs w A n (bls l) ∧ n ≤ c ∧ c ≤ 9223372036854775807
theorem SlB.keep {w w' : World} {l : List UInt8} {v : Value} (h : SlB w l v) (k : Keeps w w') : SlB w' l v := by obtain ⟨A, n, c, e, hb, r⟩ := h; exact ⟨A, n, c, e, hb.keep k, r⟩
theorem SlO.keep {w w' : World} {l : List Bool} {v : Value} (h : SlO w l v) (k : Keeps w w') : SlO w' l v := by obtain ⟨A, n, c, e, hb, r⟩ := h; exact ⟨A, n, c, e, hb.keep k, r⟩
theorem SlB.nil (w : World) : SlB w [] (.slice none 0 0) := ⟨none, 0, 0, rfl, Bs.nil _ _, by omega, by omega⟩
theorem SlO.nil (w : World) : SlO w [] (.slice none 0 0) := ⟨none, 0, 0, rfl, Vs.nil _ _, by omega, by omega⟩
def I64 (z : Int) : Prop := -9223372036854775808 ≤ z ∧ z ≤ 9223372036854775807
structure SesM (w : World) (s : Ses) (D G : Value) : Prop where
  id : I64 s.id
  size : I64 s.size
  sum : s.sum.length = 32
  data : SlB w s.data D
  got : SlO w s.got G
structure FrmM (w : World) (f : Frm) (D : Value) : Prop where
  kind : I64 f.kind
  id : I64 f.id
  size : I64 f.size
  at_ : I64 f.at_
  sum : f.sum.length = 32
  data : SlB w f.data D
theorem SesM.keep {w w' : World} {s : Ses} {D G : Value} (h : SesM w s D G) (k : Keeps w w') : SesM w' s D G := ⟨h.id, h.size, h.sum, h.data.keep k, h.got.keep k⟩
theorem FrmM.keep {w w' : World} {f : Frm} {D : Value} (h : FrmM w f D) (k : Keeps w w') : FrmM w' f D := ⟨h.kind, h.id, h.size, h.at_, h.sum, h.data.keep k⟩
theorem length_sesV (s : Ses) (D G : Value) (h : s.sum.length = 32) : (sesV s D G).length = 36 := by simp [sesV, length_bv, h]
theorem length_frmV (f : Frm) (D : Value) (h : f.sum.length = 32) : (frmV f D).length = 37 := by simp [frmV, length_bv, h]
def zeroSes : Ses := ⟨0, 0, z32, [], []⟩
def zeroFrm : Frm := ⟨0, 0, 0, 0, z32, []⟩

/-! ### cells of a block -/
section
variable {w : World} {g : Nat} {s : Ses} {D G : Value} {t : TypeId} {fr : Nat × Nat}
theorem ses_cell (h : w.heap[g]? = some (.cells (sesV s D G).toArray t fr)) {i : Nat} {u : Value} (hu : (sesV s D G)[i]? = some u) : w.cell? ⟨g, i, none⟩ = some u := cell_of_block h (by rw [List.getElem?_toArray]; exact hu)
theorem ses_0 (s : Ses) (D G : Value) : (sesV s D G)[0]? = some (.int .i64 s.id) := rfl
theorem ses_1 (s : Ses) (D G : Value) : (sesV s D G)[1]? = some (.int .i64 s.size) := rfl
theorem ses_34 (s : Ses) (D G : Value) (h : s.sum.length = 32) : (sesV s D G)[34]? = some D := by
  unfold sesV
  rw [List.getElem?_append_left (by simp [length_bv, h]), List.getElem?_append_right (by simp [length_bv, h])]
  simp [length_bv, h]
theorem ses_35 (s : Ses) (D G : Value) (h : s.sum.length = 32) : (sesV s D G)[35]? = some G := by
  unfold sesV
  rw [List.getElem?_append_right (by simp [length_bv, h])]
  simp [length_bv, h]
theorem ses_sum (s : Ses) (D G : Value) (j : Nat) (u : Value) (hu : (bv s.sum)[j]? = some u) : (sesV s D G)[2 + j]? = some u := by
  have hj := (List.getElem?_eq_some_iff.1 hu).1
  unfold sesV
  rw [List.append_assoc, List.getElem?_append_left (by simp; omega), List.getElem?_append_right (by simp)]
  simpa using hu
theorem ses_range (h : w.heap[g]? = some (.cells (sesV s D G).toArray t fr)) : w.rangeAt g 2 (bv s.sum) := fun j u hu => ses_cell h (ses_sum s D G j u hu)
end
section
variable {w : World} {g : Nat} {f : Frm} {D : Value} {t : TypeId} {fr : Nat × Nat}
theorem frm_cell (h : w.heap[g]? = some (.cells (frmV f D).toArray t fr)) {i : Nat} {u : Value} (hu : (frmV f D)[i]? = some u) : w.cell? ⟨g, i, none⟩ = some u := cell_of_block h (by rw [List.getElem?_toArray]; exact hu)
theorem frm_0 (f : Frm) (D : Value) : (frmV f D)[0]? = some (.int .i64 f.kind) := rfl
theorem frm_1 (f : Frm) (D : Value) : (frmV f D)[1]? = some (.int .i64 f.id) := rfl
theorem frm_2 (f : Frm) (D : Value) : (frmV f D)[2]? = some (.int .i64 f.size) := rfl
theorem frm_3 (f : Frm) (D : Value) : (frmV f D)[3]? = some (.int .i64 f.at_) := rfl
theorem frm_36 (f : Frm) (D : Value) (h : f.sum.length = 32) : (frmV f D)[36]? = some D := by
  unfold frmV
  rw [List.getElem?_append_right (by simp [length_bv, h])]
  simp [length_bv, h]
theorem frm_sum (f : Frm) (D : Value) (j : Nat) (u : Value) (hu : (bv f.sum)[j]? = some u) : (frmV f D)[4 + j]? = some u := by
  have hj := (List.getElem?_eq_some_iff.1 hu).1
  unfold frmV
  rw [List.getElem?_append_left (by simp; omega), List.getElem?_append_right (by simp)]
  simpa using hu
theorem frm_range (h : w.heap[g]? = some (.cells (frmV f D).toArray t fr)) : w.rangeAt g 4 (bv f.sum) := fun j u hu => frm_cell h (frm_sum f D j u hu)
end
theorem sesV_one (s : Ses) (D G : Value) (hD : D.oneCell' = true) (hG : G.oneCell' = true) : (sesV s D G).toArray.all (·.oneCell') = true := by
  simp only [sesV, List.all_toArray, List.all_append, List.all_cons, List.all_nil, hD, hG, Bool.and_true]
  simp [bv, Value.oneCell']
theorem SlB.one {w : World} {l : List UInt8} {v : Value} (h : SlB w l v) : v.oneCell' = true := by obtain ⟨A, n, c, rfl, _⟩ := h; rfl
theorem SlO.one {w : World} {l : List Bool} {v : Value} (h : SlO w l v) : v.oneCell' = true := by obtain ⟨A, n, c, rfl, _⟩ := h; rfl

theorem ses_set34 (s : Ses) (D G D' : Value) (h : s.sum.length = 32) : (sesV s D G).set 34 D' = sesV s D' G := by
  unfold sesV
  rw [List.set_append_left _ _ (by simp [length_bv, h]), List.set_append_right _ _ (by simp [length_bv, h])]
  simp [length_bv, h]
theorem ses_set35 (s : Ses) (D G G' : Value) (h : s.sum.length = 32) : (sesV s D G).set 35 G' = sesV s D G' := by
  unfold sesV
  rw [List.set_append_right _ _ (by simp [length_bv, h])]
  simp [length_bv, h]
theorem ses_setCell {w : World} {g : Nat} {cs : List Value} {t : TypeId} {fr : Nat × Nat} (h : w.heap[g]? = some (.cells cs.toArray t fr)) (i : Nat) (u : Value) : (w.setCell ⟨g, i, none⟩ u).heap[g]? = some (.cells (cs.set i u).toArray t fr) := by
  have := block_setCell (i := i) u h
  rw [List.setIfInBounds_toArray] at this
  exact this
/-- behind a store into a block of the call's own -/
theorem SlB.set {w : World} {l : List UInt8} {v : Value} (h : SlB w l v) {p : Addr} (hp : ∀ b o n c, v = .slice (some ⟨b, o, none⟩) n c → b ≠ p.block) (u : Value) : SlB (w.setCell p u) l v := by
  obtain ⟨A, n, c, rfl, hb, r⟩ := h
  exact ⟨A, n, c, rfl, Vs.far hb (fun b o e => hp b o n c (by rw [e])) u, r⟩
theorem SlO.set {w : World} {l : List Bool} {v : Value} (h : SlO w l v) {p : Addr} (hp : ∀ b o n c, v = .slice (some ⟨b, o, none⟩) n c → b ≠ p.block) (u : Value) : SlO (w.setCell p u) l v := by
  obtain ⟨A, n, c, rfl, hb, r⟩ := h
  exact ⟨A, n, c, rfl, Vs.far hb (fun b o e => hp b o n c (by rw [e])) u, r⟩

/-- its block is not below B -/
def Fr (B : Nat) (v : Value) : Prop := ∀ b o n c, v = .slice (some ⟨b, o, none⟩) n c → B ≤ b
theorem Fr.new {B g o n c : Nat} (h : B ≤ g) : Fr B (.slice (some ⟨g, o, none⟩) n c) := fun b o' n' c' e => by
  injection e with e _ _; injection e with e; injection e with e _; omega
theorem Fr.nil (B n c : Nat) : Fr B (.slice none n c) := fun b o n c e => by injection e with e _ _; cases e
theorem Fr.mono {B B' : Nat} {v : Value} (h : Fr B v) (hb : B' ≤ B) : Fr B' v := fun b o n c e => Nat.le_trans hb (h b o n c e)
theorem Fr.own {w : World} {base : Nat} {e : TypeId} {size : Nat} {v : Value} {n : Nat} {xs : List Value} (h : w.ownsRow base e size v n xs) : Fr base v := by
  rcases h.2 with ⟨rfl, _⟩ | ⟨g, cap, cur, rfl, hg, _⟩
  · exact Fr.nil _ _ _
  · exact Fr.new hg
theorem SlB.row {w : World} {l : List UInt8} {v : Value} (h : SlB w l v) {g : Nat} (hp : ∀ b o n c, v = .slice (some ⟨b, o, none⟩) n c → b ≠ g) (cs : Array Value) : SlB (w.setRow g cs) l v := by
  obtain ⟨A, n, c, rfl, hb, r⟩ := h
  exact ⟨A, n, c, rfl, Vs.setRow hb (fun b o e => hp b o n c (by rw [e])) cs, r⟩
theorem SlO.row {w : World} {l : List Bool} {v : Value} (h : SlO w l v) {g : Nat} (hp : ∀ b o n c, v = .slice (some ⟨b, o, none⟩) n c → b ≠ g) (cs : Array Value) : SlO (w.setRow g cs) l v := by
  obtain ⟨A, n, c, rfl, hb, r⟩ := h
  exact ⟨A, n, c, rfl, Vs.setRow hb (fun b o e => hp b o n c (by rw [e])) cs, r⟩
theorem SlB.lt {w : World} {l : List UInt8} {b o n c : Nat} (h : SlB w l (.slice (some ⟨b, o, none⟩) n c)) (hl : 0 < l.length) : b < w.heap.size := by
  obtain ⟨A, n', c', e, hb, _⟩ := h
  injection e with e1 e2 e3
  subst e1
  exact bs_lt hb (by rw [← hb.len]; exact hl)
theorem Fr.ne {B g : Nat} {v : Value} (h : Fr B v) (hg : g < B) : ∀ b o n c, v = .slice (some ⟨b, o, none⟩) n c → b ≠ g := fun b o n c e => by have := h b o n c e; omega

/-! ### the types -/
def zSes : List Value := sesV zeroSes (.slice none 0 0) (.slice none 0 0)
def zFrm : List Value := frmV zeroFrm (.slice none 0 0)
theorem sesZero : (Try.prog.info? 32).bind (·.zero) = some (.agg zSes.toArray) := by kernel_rfl
theorem frmZero : (Try.prog.info? 29).bind (·.zero) = some (.agg zFrm.toArray) := by kernel_rfl
theorem sesInfo : (Try.prog.info? 32).map (·.size) = some 36 := by kernel_rfl
theorem frmInfo : (Try.prog.info? 29).map (·.size) = some 37 := by kernel_rfl
theorem infoS (s : Ses) (D G : Value) (h : s.sum.length = 32) : (Try.prog.info? 32).map (·.size) = some (sesV s D G).toArray.size := by rw [sesInfo]; simp [length_sesV s D G h]
theorem infoF (f : Frm) (D : Value) (h : f.sum.length = 32) : (Try.prog.info? 29).map (·.size) = some (frmV f D).toArray.size := by rw [frmInfo]; simp [length_frmV f D h]
theorem sizeS (s s' : Ses) (D G D' G' : Value) (h : s.sum.length = 32) (h' : s'.sum.length = 32) : (sesV s D G).toArray.size = (sesV s' D' G').toArray.size := by simp [length_sesV, h, h']
theorem sizeZ (s' : Ses) (D' G' : Value) (h' : s'.sum.length = 32) : zSes.toArray.size = (sesV s' D' G').toArray.size := sizeS zeroSes s' _ _ _ _ z32_len h'
theorem sesUnder : ∃ fs, Try.prog.underlying 32 = some (.struct fs) ∧ fs.toList.mapM (fun f => (Try.prog.info? f.type).map fun i => (f.offset, i.size)) = some [(0, 1), (1, 1), (2, 32), (34, 1), (35, 1)] := ⟨_, Try.underlying32, by kernel_rfl⟩
theorem frmUnder : ∃ fs, Try.prog.underlying 29 = some (.struct fs) ∧ fs.toList.mapM (fun f => (Try.prog.info? f.type).map fun i => (f.offset, i.size)) = some [(0, 1), (1, 1), (2, 1), (3, 1), (4, 32), (36, 1)] := ⟨_, Try.underlying29, by kernel_rfl⟩
theorem cells_int (k : IntKind) (z : Int) : (Value.int k z).cells = [Value.int k z].toArray := rfl
theorem cells_agg (l : List Value) : (Value.agg l.toArray).cells = l.toArray := rfl
theorem SlB.cells {w : World} {l : List UInt8} {v : Value} (h : SlB w l v) : v.cells = [v].toArray := by obtain ⟨A, n, c, rfl, _⟩ := h; rfl
theorem SlO.cells {w : World} {l : List Bool} {v : Value} (h : SlO w l v) : v.cells = [v].toArray := by obtain ⟨A, n, c, rfl, _⟩ := h; rfl
/-- a session is written as a literal -/
theorem ses_built (s : Ses) (D G : Value) (h : s.sum.length = 32) (hD : D.cells = [D].toArray) (hG : G.cells = [G].toArray) :
    Try.prog.built 32 [(0, .int .i64 s.id), (1, .int .i64 s.size), (2, .agg (bv s.sum).toArray), (3, D), (4, G)] = some (sesV s D G).toArray := by
  obtain ⟨fs, hu, hp⟩ := sesUnder
  rw [built_struct sesZero hu hp]
  have hz : zSes.length = 36 := length_sesV _ _ _ z32_len
  have h1 := fill_step ([(0, 1), (1, 1), (2, 32), (34, 1), (35, 1)].toArray[·]?) [] zSes 0 _ _ (cells_int .i64 s.id) rfl (by simp [hz])
  simp only [List.nil_append] at h1
  rw [h1, fill_step _ _ _ 1 _ _ (cells_int .i64 s.size) rfl (by simp [hz]), fill_step _ _ _ 2 _ _ (cells_agg (bv s.sum)) (by simp [length_bv, h]) (by simp [hz, length_bv, h]),
    fill_step _ _ _ 3 _ _ hD (by simp [length_bv, h]) (by simp [hz, length_bv, h]), fill_step _ _ _ 4 _ _ hG (by simp [length_bv, h]) (by simp [hz, length_bv, h]), fill_nil]
  refine congrArg (fun l : List Value => some l.toArray) ?_
  rw [List.drop_drop, List.drop_drop, List.drop_drop, List.drop_drop, List.drop_of_length_le (by simp [hz, length_bv, h])]
  simp [sesV]
end Go.Proofs.Ytkgenkkcgegcbaa
namespace Go.Proofs.Ytkgenkkcgegcbaa
open Go.ChangeShapes Go.WideShapes Go.ChangeAt Go.RowKit Go.Deep
section
variable {H : Type} {enc : TypeId × Value → H} {P : Program} {W : World}
theorem hash_of_trod {t e : TypeId} {cs : List Value} {y : DataW H × List MemPlace} {fuel : Nat} {h63 : Bool} (ht : P.underlying t = some (.array 32 e)) (he : P.underlying e = some (.int .u8)) (ct : P.cellsOf t = 32) (ce : P.cellsOf e = 1)
    (hf : DataW.trod enc P W 0 (fun _ => true) h63 fuel t cs = some y) : ∃ l : List UInt8, cs = bv l ∧ l.length = 32 := by
  obtain ⟨xs, m, _, _, hlen, hxl, hx⟩ := DataW.trod_array ht hf
  rw [ct] at hlen
  have hrow : ∀ i, i < 32 → ∃ x : UInt8, cs[i]? = some (.int .u8 (x.toNat : Int)) := by
    intro i hi
    have h1 := hx i hi
    rw [ce, List.getElem?_eq_getElem (by omega), Nat.mul_one] at h1
    obtain ⟨z, hz, _, hwf⟩ := DataW.trod_int he h1
    obtain ⟨u, rfl⟩ := u8_value hwf
    refine ⟨u, ?_⟩
    have h2 := congrArg (fun l : List Value => l[0]?) hz
    simp only [List.getElem?_take, List.getElem?_drop, Nat.lt_one_iff, if_true, Nat.add_zero, List.getElem?_cons_zero] at h2
    simpa using h2
  haveI : Inhabited UInt8 := ⟨0⟩
  obtain ⟨F, hF⟩ := choose_lt hrow
  refine ⟨(List.range 32).map F, ?_, by simp⟩
  apply List.ext_getElem?
  intro i
  rcases Nat.lt_or_ge i 32 with h | h
  · rw [hF i h, bv_get _ i (by simpa using h)]
    simp
  · rw [List.getElem?_eq_none (by omega), List.getElem?_eq_none (by simp [length_bv]; omega)]
theorem slB_of_trod {t e : TypeId} {v : Value} {y : DataW H × List MemPlace} {n : Nat} {h63 : Bool} (ht : P.underlying t = some (.slice e)) (he : P.underlying e = some (.int .u8)) (hc : P.cellsOf e = 1)
    (hf : DataW.trod enc P W 0 (fun _ => true) h63 n t [v] = some y) : ∃ l, SlB W l v := by
  rcases open_ints ht he hc hf with ⟨hcs, _⟩ | ⟨x, l, c', zs, hcs, _, hl, hm, hz, hx, hcell, hwz⟩
  · simp at hcs
    exact ⟨[], none, 0, 0, hcs, Bs.nil _ _, Nat.le_refl _, by omega⟩
  · simp at hcs
    simp only [if_true] at hz
    refine ⟨toBytes (zs.take l), some x, l, c', hcs, ⟨by simp [bv, toBytes]; omega, fun hn => ?_⟩, hl, by simpa [maxLen] using hm⟩
    have hspot : x.spot = none := World.cell?_spot (by simpa [Addr.add] using hcell 0 (by omega))
    obtain ⟨xb, xo, xs⟩ := x
    dsimp only at hspot
    subst hspot
    refine ⟨xb, xo, rfl, fun i u hu => ?_⟩
    simp only [bv, toBytes, List.getElem?_map, Option.map_map, Option.map_eq_some_iff] at hu
    obtain ⟨z, hz', rfl⟩ := hu
    have hi : i < l ∧ zs[i]? = some z := by
      rw [List.getElem?_take] at hz'
      split at hz'
      · exact ⟨by assumption, hz'⟩
      · cases hz'
    have := hcell i (by omega)
    rw [Addr.add_lit] at this
    rw [this, List.getD_eq_getElem?_getD, hi.2]
    simp only [Option.getD_some, Function.comp_apply]
    rw [u8_back (hwz z (List.mem_of_getElem? hi.2))]
theorem piece_ {α : Type} (l : List α) (a b : Nat) : l.drop a = (l.drop a).take b ++ l.drop (a + b) := by rw [← List.drop_drop, List.take_append_drop]
theorem frame_of_trod {t : TypeId} {f0 f1 f2 f3 f4 f5 : Field} {he be hb : TypeId} {cs : List Value} {y : DataW H × List MemPlace} {fuel : Nat} {h63 : Bool} (ht : P.underlying t = some (.struct #[f0, f1, f2, f3, f4, f5])) (ct : P.cellsOf t = 37)
    (hoff : [f0.offset, f1.offset, f2.offset, f3.offset, f4.offset, f5.offset] = [0, 1, 2, 3, 4, 36]) (hcl : [f0, f1, f2, f3, f4, f5].map (fun f => P.cellsOf f.type) = [1, 1, 1, 1, 32, 1])
    (u0 : P.underlying f0.type = some (.int .i64)) (u1 : P.underlying f1.type = some (.int .i64)) (u2 : P.underlying f2.type = some (.int .i64)) (u3 : P.underlying f3.type = some (.int .i64)) (u4 : P.underlying f4.type = some (.array 32 he)) (uh : P.underlying he = some (.int .u8)) (ch : P.cellsOf he = 1)
    (u5 : P.underlying f5.type = some (.slice be)) (ub : P.underlying be = some (.int .u8)) (cb : P.cellsOf be = 1)
    (hf : DataW.trod enc P W 0 (fun _ => true) h63 fuel t cs = some y) : ∃ (f : Frm) (D : Value), cs = frmV f D ∧ FrmM W f D := by
  simp only [List.cons.injEq, and_true] at hoff
  obtain ⟨o0, o1, o2, o3, o4, o5⟩ := hoff
  simp only [List.map_cons, List.map_nil, List.cons.injEq, and_true] at hcl
  obtain ⟨c0, c1, c2, c3, c4, c5⟩ := hcl
  obtain ⟨xs, m, _, _, hlen, hxl, hfs⟩ := DataW.trod_struct ht hf
  rw [ct] at hlen
  match xs, hxl with
  | [y0, y1, y2, y3, y4, y5], _ =>
    have g0 := hfs 0 f0 rfl
    have g1 := hfs 1 f1 rfl
    have g2 := hfs 2 f2 rfl
    have g3 := hfs 3 f3 rfl
    have g4 := hfs 4 f4 rfl
    have g5 := hfs 5 f5 rfl
    simp only [o0, o1, o2, o3, o4, o5, c0, c1, c2, c3, c4, c5, List.getElem?_cons_zero, List.getElem?_cons_succ] at g0 g1 g2 g3 g4 g5
    obtain ⟨z0, w0, _, q0⟩ := DataW.trod_int u0 g0
    obtain ⟨z1, w1, _, q1⟩ := DataW.trod_int u1 g1
    obtain ⟨z2, w2, _, q2⟩ := DataW.trod_int u2 g2
    obtain ⟨z3, w3, _, q3⟩ := DataW.trod_int u3 g3
    obtain ⟨h, w4, hh⟩ := hash_of_trod u4 uh c4 ch g4
    obtain ⟨D, w5⟩ : ∃ D, (cs.drop 36).take 1 = [D] := by
      have h1 : ((cs.drop 36).take 1).length = 1 := by rw [List.length_take, List.length_drop]; omega
      match hq : (cs.drop 36).take 1, h1 with
      | [D], _ => exact ⟨D, rfl⟩
    rw [w5] at g5
    obtain ⟨l, hD⟩ := slB_of_trod u5 ub cb g5
    refine ⟨⟨z0, z1, z2, z3, h, l⟩, D, ?_, ⟨i64_bounds q0, i64_bounds q1, i64_bounds q2, i64_bounds q3, hh, hD⟩⟩
    have E6 : cs.drop (36 + 1) = [] := List.drop_of_length_le (by omega)
    have E5 : cs.drop 36 = [D] := by rw [piece_ cs 36 1, w5, E6]; rfl
    have E4 : cs.drop 4 = bv h ++ [D] := by rw [piece_ cs 4 32, w4]; exact congrArg _ E5
    have E3 : cs.drop 3 = .int .i64 z3 :: (bv h ++ [D]) := by rw [piece_ cs 3 1, w3]; exact congrArg (fun l => [Value.int .i64 z3] ++ l) E4
    have E2 : cs.drop 2 = .int .i64 z2 :: .int .i64 z3 :: (bv h ++ [D]) := by rw [piece_ cs 2 1, w2]; exact congrArg (fun l => [Value.int .i64 z2] ++ l) E3
    have E1 : cs.drop 1 = .int .i64 z1 :: .int .i64 z2 :: .int .i64 z3 :: (bv h ++ [D]) := by rw [piece_ cs 1 1, w1]; exact congrArg (fun l => [Value.int .i64 z1] ++ l) E2
    have E0 : cs.drop 0 = .int .i64 z0 :: .int .i64 z1 :: .int .i64 z2 :: .int .i64 z3 :: (bv h ++ [D]) := by rw [piece_ cs 0 1, w0]; exact congrArg (fun l => [Value.int .i64 z0] ++ l) E1
    exact E0
theorem open_frame {t : TypeId} {f0 f1 f2 f3 f4 f5 : Field} {he be hb : TypeId} {v : Value} {d : DataW H} {p : List MemPlace} {h63 : Bool} (ht : P.underlying t = some (.struct #[f0, f1, f2, f3, f4, f5])) (ct : P.cellsOf t = 37)
    (hoff : [f0.offset, f1.offset, f2.offset, f3.offset, f4.offset, f5.offset] = [0, 1, 2, 3, 4, 36]) (hcl : [f0, f1, f2, f3, f4, f5].map (fun f => P.cellsOf f.type) = [1, 1, 1, 1, 32, 1])
    (u0 : P.underlying f0.type = some (.int .i64)) (u1 : P.underlying f1.type = some (.int .i64)) (u2 : P.underlying f2.type = some (.int .i64)) (u3 : P.underlying f3.type = some (.int .i64)) (u4 : P.underlying f4.type = some (.array 32 he)) (uh : P.underlying he = some (.int .u8)) (ch : P.cellsOf he = 1)
    (u5 : P.underlying f5.type = some (.slice be)) (ub : P.underlying be = some (.int .u8)) (cb : P.cellsOf be = 1)
    (h : DataW.Trod enc P W 0 (fun _ => true) h63 t v d p) : ∃ (f : Frm) (D : Value), v = .agg (frmV f D).toArray ∧ FrmM W f D := by
  obtain ⟨fuel, hf⟩ := h
  obtain ⟨f, D, hcs, hM⟩ := frame_of_trod (hb := hb) ht ct hoff hcl u0 u1 u2 u3 u4 uh ch u5 ub cb hf
  refine ⟨f, D, ?_, hM⟩
  have hsz : v.cells.size = 37 := by
    have := congrArg List.length hcs
    rw [length_frmV f D hM.sum] at this
    simpa using this
  have hcs' : v.cells = (frmV f D).toArray := Array.toList_inj.1 (by simpa using hcs)
  cases v with
  | agg cs => simp only [Value.cells] at hcs'; rw [hcs']
  | _ => simp [Value.cells] at hsz
end
end Go.Proofs.Ytkgenkkcgegcbaa
namespace Go.Proofs.Ytkgenkkcgegcbaa
open Go.RowKit



theorem clone_any (A : Option Addr) (n c : Nat) (l : List UInt8) (w : World) (hA : Bs w A n l) (hn : n ≤ 140737488355328) :
    Calls Try.prog 37 #[.slice A n c] w fun e w' => ∃ v, e = .returned v ∧ w'.ownsRow w.heap.size 5 1 v n (bv l) ∧ Below w.heap.size w w' := by
  obtain ⟨i0, hi0, hz0, hz1, hz2⟩ := info_parts byteInfo
  have hnil := fun W => Lib.run_eql_slice_nil (P := Try.prog) W 22 5 A n c 0 0 Try.underlying22
  rcases A with _ | ad
  · have h0 : n = 0 := by
      rcases Nat.eq_zero_or_pos n with h | h
      · exact h
      · obtain ⟨_, _, h, _⟩ := hA.2 h; cases h
    subst h0
    have hl : l = [] := List.eq_nil_of_length_eq_zero hA.len
    subst hl
    clear hA
    go_enter Try.func37, Try.ntmps37
    go_wp2
    go_ret
    exact ⟨_, rfl, World.ownsRow_nil _ _ _ _, Below.refl _ _⟩
  · go_enter Try.func37, Try.ntmps37
    go_wp2_with (at_builtin; refine wpList_append_V _ rfl (.tmp 5) (.tmp 6) 22 rfl w.heap.size 5 i0 (.int .u8 0) 1 Try.underlying22 hi0 hz0 hz1 hz2 rfl (.slice (some ⟨w.heap.size, 0, none⟩) 0 0) 0 [] rfl (World.ownsRow_made w #[] 0 (Nat.le_refl _) (by simp [maxLen]) rfl) (some ad) n c (bv l) rfl (hA.alloc _) (bv_one l) (by omega) (by simp only [maxLen]; omega) (by simp) ?_; intro v1 w1 hown1 hg1 hat1)
    go_ret
    have hb := (Below.refl w.heap.size w).alloc (Nat.le_refl _) (.cells #[] 5)
    rw [Nat.zero_add, List.nil_append] at hown1
    exact ⟨_, rfl, hown1, hb.grown hg1 (by simp) (by simp [Value.ownBlock])⟩
end Go.Proofs.Ytkgenkkcgegcbaa
