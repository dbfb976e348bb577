/- Sessions and frames: plain, and in memory. -/
import Derived.Test.YtonjpjiphcbemaaShaWord
import Derived.Test.YtonjpjiphcbemaaShaSum
namespace Go.Proofs.Ytonjpjiphcbemaa
open Go.RowKit

def bls (l : List Bool) : List Value := l.map Value.bool
theorem length_bls (l : List Bool) : (bls l).length = l.length := by simp [bls]
theorem bls_get (l : List Bool) (i : Nat) (h : i < l.length) : (bls l)[i]? = some (.bool l[i]) := by simp [bls, h]
theorem bls_one (l : List Bool) : ∀ u ∈ bls l, u.oneCell' = true := by
  intro u hu; simp [bls] at hu; rcases hu with ⟨_, rfl⟩ | ⟨_, rfl⟩ <;> rfl

structure Ses where
  id : Int
  size : Int
  sum : List UInt8
  data : List UInt8
  got : List Bool
structure Frm where
  kind : Int
  id : Int
  size : Int
  at_ : Int
  sum : List UInt8
  data : List UInt8
def sesV (s : Ses) (D G : Value) : List Value := [.int .i64 s.id] ++ [.int .i64 s.size] ++ bv s.sum ++ [D] ++ [G]
def frmV (f : Frm) (D : Value) : List Value := [.int .i64 f.kind] ++ [.int .i64 f.id] ++ [.int .i64 f.size] ++ [.int .i64 f.at_] ++ bv f.sum ++ [D]
/-- a slice of these bytes, of these bools -/
def SlB (w : World) (l : List UInt8) (v : Value) : Prop := ∃ A n c, v = .slice A n c ∧ Bs w A n l ∧ n ≤ c ∧ c ≤ 9223372036854775807
def SlO (w : World) (l : List Bool) (v : Value) : Prop := ∃ A n c, v = .slice A n c ∧ Vs w A n (bls l) ∧ n ≤ c ∧ c ≤ 9223372036854775807
theorem SlB.keep {w w' : World} {l : List UInt8} {v : Value} (h : SlB w l v) (k : Keeps w w') : SlB w' l v := by obtain ⟨A, n, c, e, hb, r⟩ := h; exact ⟨A, n, c, e, hb.keep k, r⟩
theorem SlO.keep {w w' : World} {l : List Bool} {v : Value} (h : SlO w l v) (k : Keeps w w') : SlO w' l v := by obtain ⟨A, n, c, e, hb, r⟩ := h; exact ⟨A, n, c, e, hb.keep k, r⟩
theorem SlB.nil (w : World) : SlB w [] (.slice none 0 0) := ⟨none, 0, 0, rfl, Bs.nil _ _, by omega, by omega⟩
theorem SlO.nil (w : World) : SlO w [] (.slice none 0 0) := ⟨none, 0, 0, rfl, Vs.nil _ _, by omega, by omega⟩
def I64 (z : Int) : Prop := -9223372036854775808 ≤ z ∧ z ≤ 9223372036854775807
structure SesM (w : World) (s : Ses) (D G : Value) : Prop where
  id : I64 s.id
  size : I64 s.size
  sum : s.sum.length = 32
  data : SlB w s.data D
  got : SlO w s.got G
structure FrmM (w : World) (f : Frm) (D : Value) : Prop where
  kind : I64 f.kind
  id : I64 f.id
  size : I64 f.size
  at_ : I64 f.at_
  sum : f.sum.length = 32
  data : SlB w f.data D
theorem SesM.keep {w w' : World} {s : Ses} {D G : Value} (h : SesM w s D G) (k : Keeps w w') : SesM w' s D G := ⟨h.id, h.size, h.sum, h.data.keep k, h.got.keep k⟩
theorem FrmM.keep {w w' : World} {f : Frm} {D : Value} (h : FrmM w f D) (k : Keeps w w') : FrmM w' f D := ⟨h.kind, h.id, h.size, h.at_, h.sum, h.data.keep k⟩
theorem length_sesV (s : Ses) (D G : Value) (h : s.sum.length = 32) : (sesV s D G).length = 36 := by simp [sesV, length_bv, h]
theorem length_frmV (f : Frm) (D : Value) (h : f.sum.length = 32) : (frmV f D).length = 37 := by simp [frmV, length_bv, h]
def zeroSes : Ses := ⟨0, 0, z32, [], []⟩
def zeroFrm : Frm := ⟨0, 0, 0, 0, z32, []⟩

/-! ### cells of a block -/
section
variable {w : World} {g : Nat} {s : Ses} {D G : Value} {t : TypeId} {fr : Nat × Nat}
theorem ses_cell (h : w.heap[g]? = some (.cells (sesV s D G).toArray t fr)) {i : Nat} {u : Value} (hu : (sesV s D G)[i]? = some u) : w.cell? ⟨g, i, none⟩ = some u := cell_of_block h (by rw [List.getElem?_toArray]; exact hu)
theorem ses_0 (s : Ses) (D G : Value) : (sesV s D G)[0]? = some (.int .i64 s.id) := rfl
theorem ses_1 (s : Ses) (D G : Value) : (sesV s D G)[1]? = some (.int .i64 s.size) := rfl
theorem ses_34 (s : Ses) (D G : Value) (h : s.sum.length = 32) : (sesV s D G)[34]? = some D := by
  unfold sesV
  rw [List.getElem?_append_left (by simp [length_bv, h]), List.getElem?_append_right (by simp [length_bv, h])]
  simp [length_bv, h]
theorem ses_35 (s : Ses) (D G : Value) (h : s.sum.length = 32) : (sesV s D G)[35]? = some G := by
  unfold sesV
  rw [List.getElem?_append_right (by simp [length_bv, h])]
  simp [length_bv, h]
theorem ses_sum (s : Ses) (D G : Value) (j : Nat) (u : Value) (hu : (bv s.sum)[j]? = some u) : (sesV s D G)[2 + j]? = some u := by
  have hj := (List.getElem?_eq_some_iff.1 hu).1
  unfold sesV
  rw [List.append_assoc, List.getElem?_append_left (by simp; omega), List.getElem?_append_right (by simp)]
  simpa using hu
theorem ses_range (h : w.heap[g]? = some (.cells (sesV s D G).toArray t fr)) : w.rangeAt g 2 (bv s.sum) := fun j u hu => ses_cell h (ses_sum s D G j u hu)
end
section
variable {w : World} {g : Nat} {f : Frm} {D : Value} {t : TypeId} {fr : Nat × Nat}
theorem frm_cell (h : w.heap[g]? = some (.cells (frmV f D).toArray t fr)) {i : Nat} {u : Value} (hu : (frmV f D)[i]? = some u) : w.cell? ⟨g, i, none⟩ = some u := cell_of_block h (by rw [List.getElem?_toArray]; exact hu)
theorem frm_0 (f : Frm) (D : Value) : (frmV f D)[0]? = some (.int .i64 f.kind) := rfl
theorem frm_1 (f : Frm) (D : Value) : (frmV f D)[1]? = some (.int .i64 f.id) := rfl
theorem frm_2 (f : Frm) (D : Value) : (frmV f D)[2]? = some (.int .i64 f.size) := rfl
theorem frm_3 (f : Frm) (D : Value) : (frmV f D)[3]? = some (.int .i64 f.at_) := rfl
theorem frm_36 (f : Frm) (D : Value) (h : f.sum.length = 32) : (frmV f D)[36]? = some D := by
  unfold frmV
  rw [List.getElem?_append_right (by simp [length_bv, h])]
  simp [length_bv, h]
theorem frm_sum (f : Frm) (D : Value) (j : Nat) (u : Value) (hu : (bv f.sum)[j]? = some u) : (frmV f D)[4 + j]? = some u := by
  have hj := (List.getElem?_eq_some_iff.1 hu).1
  unfold frmV
  rw [List.getElem?_append_left (by simp; omega), List.getElem?_append_right (by simp)]
  simpa using hu
theorem frm_range (h : w.heap[g]? = some (.cells (frmV f D).toArray t fr)) : w.rangeAt g 4 (bv f.sum) := fun j u hu => frm_cell h (frm_sum f D j u hu)
end
theorem sesV_one (s : Ses) (D G : Value) (hD : D.oneCell' = true) (hG : G.oneCell' = true) : (sesV s D G).toArray.all (·.oneCell') = true := by
  simp only [sesV, List.all_toArray, List.all_append, List.all_cons, List.all_nil, hD, hG, Bool.and_true]
  simp [bv, Value.oneCell']
theorem SlB.one {w : World} {l : List UInt8} {v : Value} (h : SlB w l v) : v.oneCell' = true := by obtain ⟨A, n, c, rfl, _⟩ := h; rfl
theorem SlO.one {w : World} {l : List Bool} {v : Value} (h : SlO w l v) : v.oneCell' = true := by obtain ⟨A, n, c, rfl, _⟩ := h; rfl

theorem ses_set34 (s : Ses) (D G D' : Value) (h : s.sum.length = 32) : (sesV s D G).set 34 D' = sesV s D' G := by
  unfold sesV
  rw [List.set_append_left _ _ (by simp [length_bv, h]), List.set_append_right _ _ (by simp [length_bv, h])]
  simp [length_bv, h]
theorem ses_set35 (s : Ses) (D G G' : Value) (h : s.sum.length = 32) : (sesV s D G).set 35 G' = sesV s D G' := by
  unfold sesV
  rw [List.set_append_right _ _ (by simp [length_bv, h])]
  simp [length_bv, h]
theorem ses_setCell {w : World} {g : Nat} {cs : List Value} {t : TypeId} {fr : Nat × Nat} (h : w.heap[g]? = some (.cells cs.toArray t fr)) (i : Nat) (u : Value) : (w.setCell ⟨g, i, none⟩ u).heap[g]? = some (.cells (cs.set i u).toArray t fr) := by
  have := block_setCell (i := i) u h
  rw [List.setIfInBounds_toArray] at this
  exact this
/-- behind a store into a block of the call's own -/
theorem SlB.set {w : World} {l : List UInt8} {v : Value} (h : SlB w l v) {p : Addr} (hp : ∀ b o n c, v = .slice (some ⟨b, o, none⟩) n c → b ≠ p.block) (u : Value) : SlB (w.setCell p u) l v := by
  obtain ⟨A, n, c, rfl, hb, r⟩ := h
  exact ⟨A, n, c, rfl, Vs.far hb (fun b o e => hp b o n c (by rw [e])) u, r⟩
theorem SlO.set {w : World} {l : List Bool} {v : Value} (h : SlO w l v) {p : Addr} (hp : ∀ b o n c, v = .slice (some ⟨b, o, none⟩) n c → b ≠ p.block) (u : Value) : SlO (w.setCell p u) l v := by
  obtain ⟨A, n, c, rfl, hb, r⟩ := h
  exact ⟨A, n, c, rfl, Vs.far hb (fun b o e => hp b o n c (by rw [e])) u, r⟩

/-- its block is not below B -/
def Fr (B : Nat) (v : Value) : Prop := ∀ b o n c, v = .slice (some ⟨b, o, none⟩) n c → B ≤ b
theorem Fr.new {B g o n c : Nat} (h : B ≤ g) : Fr B (.slice (some ⟨g, o, none⟩) n c) := fun b o' n' c' e => by
  injection e with e _ _; injection e with e; injection e with e _; omega
theorem Fr.nil (B n c : Nat) : Fr B (.slice none n c) := fun b o n c e => by injection e with e _ _; cases e
theorem Fr.mono {B B' : Nat} {v : Value} (h : Fr B v) (hb : B' ≤ B) : Fr B' v := fun b o n c e => Nat.le_trans hb (h b o n c e)
theorem Fr.own {w : World} {base : Nat} {e : TypeId} {size : Nat} {v : Value} {n : Nat} {xs : List Value} (h : w.ownsRow base e size v n xs) : Fr base v := by
  rcases h.2 with ⟨rfl, _⟩ | ⟨g, cap, cur, rfl, hg, _⟩
  · exact Fr.nil _ _ _
  · exact Fr.new hg
theorem SlB.row {w : World} {l : List UInt8} {v : Value} (h : SlB w l v) {g : Nat} (hp : ∀ b o n c, v = .slice (some ⟨b, o, none⟩) n c → b ≠ g) (cs : Array Value) : SlB (w.setRow g cs) l v := by
  obtain ⟨A, n, c, rfl, hb, r⟩ := h
  exact ⟨A, n, c, rfl, Vs.setRow hb (fun b o e => hp b o n c (by rw [e])) cs, r⟩
theorem SlO.row {w : World} {l : List Bool} {v : Value} (h : SlO w l v) {g : Nat} (hp : ∀ b o n c, v = .slice (some ⟨b, o, none⟩) n c → b ≠ g) (cs : Array Value) : SlO (w.setRow g cs) l v := by
  obtain ⟨A, n, c, rfl, hb, r⟩ := h
  exact ⟨A, n, c, rfl, Vs.setRow hb (fun b o e => hp b o n c (by rw [e])) cs, r⟩
theorem SlB.lt {w : World} {l : List UInt8} {b o n c : Nat} (h : SlB w l (.slice (some ⟨b, o, none⟩) n c)) (hl : 0 < l.length) : b < w.heap.size := by
  obtain ⟨A, n', c', e, hb, _⟩ := h
  injection e with e1 e2 e3
  subst e1
  exact bs_lt hb (by rw [← hb.len]; exact hl)
theorem Fr.ne {B g : Nat} {v : Value} (h : Fr B v) (hg : g < B) : ∀ b o n c, v = .slice (some ⟨b, o, none⟩) n c → b ≠ g := fun b o n c e => by have := h b o n c e; omega

/-! ### the types -/
def zSes : List Value := sesV zeroSes (.slice none 0 0) (.slice none 0 0)
def zFrm : List Value := frmV zeroFrm (.slice none 0 0)
theorem sesZero : (Try.prog.info? 30).bind (·.zero) = some (.agg zSes.toArray) := by kernel_rfl
theorem frmZero : (Try.prog.info? 36).bind (·.zero) = some (.agg zFrm.toArray) := by kernel_rfl
theorem sesInfo : (Try.prog.info? 30).map (·.size) = some 36 := by kernel_rfl
theorem frmInfo : (Try.prog.info? 36).map (·.size) = some 37 := by kernel_rfl
theorem infoS (s : Ses) (D G : Value) (h : s.sum.length = 32) : (Try.prog.info? 30).map (·.size) = some (sesV s D G).toArray.size := by rw [sesInfo]; simp [length_sesV s D G h]
theorem infoF (f : Frm) (D : Value) (h : f.sum.length = 32) : (Try.prog.info? 36).map (·.size) = some (frmV f D).toArray.size := by rw [frmInfo]; simp [length_frmV f D h]
theorem sizeS (s s' : Ses) (D G D' G' : Value) (h : s.sum.length = 32) (h' : s'.sum.length = 32) : (sesV s D G).toArray.size = (sesV s' D' G').toArray.size := by simp [length_sesV, h, h']
theorem sizeZ (s' : Ses) (D' G' : Value) (h' : s'.sum.length = 32) : zSes.toArray.size = (sesV s' D' G').toArray.size := sizeS zeroSes s' _ _ _ _ z32_len h'
theorem sesUnder : ∃ fs, Try.prog.underlying 30 = some (.struct fs) ∧ fs.toList.mapM (fun f => (Try.prog.info? f.type).map fun i => (f.offset, i.size)) = some [(0, 1), (1, 1), (2, 32), (34, 1), (35, 1)] := ⟨_, Try.underlying30, by kernel_rfl⟩
theorem frmUnder : ∃ fs, Try.prog.underlying 36 = some (.struct fs) ∧ fs.toList.mapM (fun f => (Try.prog.info? f.type).map fun i => (f.offset, i.size)) = some [(0, 1), (1, 1), (2, 1), (3, 1), (4, 32), (36, 1)] := ⟨_, Try.underlying36, by kernel_rfl⟩
theorem cells_int (k : IntKind) (z : Int) : (Value.int k z).cells = [Value.int k z].toArray := rfl
theorem cells_agg (l : List Value) : (Value.agg l.toArray).cells = l.toArray := rfl
theorem SlB.cells {w : World} {l : List UInt8} {v : Value} (h : SlB w l v) : v.cells = [v].toArray := by obtain ⟨A, n, c, rfl, _⟩ := h; rfl
theorem SlO.cells {w : World} {l : List Bool} {v : Value} (h : SlO w l v) : v.cells = [v].toArray := by obtain ⟨A, n, c, rfl, _⟩ := h; rfl
/-- a session is written as a literal -/
theorem ses_built (s : Ses) (D G : Value) (h : s.sum.length = 32) (hD : D.cells = [D].toArray) (hG : G.cells = [G].toArray) :
    Try.prog.built 30 [(0, .int .i64 s.id), (1, .int .i64 s.size), (2, .agg (bv s.sum).toArray), (3, D), (4, G)] = some (sesV s D G).toArray := by
  obtain ⟨fs, hu, hp⟩ := sesUnder
  rw [built_struct sesZero hu hp]
  have hz : zSes.length = 36 := length_sesV _ _ _ z32_len
  have h1 := fill_step ([(0, 1), (1, 1), (2, 32), (34, 1), (35, 1)].toArray[·]?) [] zSes 0 _ _ (cells_int .i64 s.id) rfl (by simp [hz])
  simp only [List.nil_append] at h1
  rw [h1, fill_step _ _ _ 1 _ _ (cells_int .i64 s.size) rfl (by simp [hz]), fill_step _ _ _ 2 _ _ (cells_agg (bv s.sum)) (by simp [length_bv, h]) (by simp [hz, length_bv, h]),
    fill_step _ _ _ 3 _ _ hD (by simp [length_bv, h]) (by simp [hz, length_bv, h]), fill_step _ _ _ 4 _ _ hG (by simp [length_bv, h]) (by simp [hz, length_bv, h]), fill_nil]
  refine congrArg (fun l : List Value => some l.toArray) ?_
  rw [List.drop_drop, List.drop_drop, List.drop_drop, List.drop_drop, List.drop_of_length_le (by simp [hz, length_bv, h])]
  simp [sesV]
end Go.Proofs.Ytonjpjiphcbemaa
