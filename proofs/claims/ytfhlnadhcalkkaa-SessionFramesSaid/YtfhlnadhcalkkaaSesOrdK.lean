/- SessionSums: the walk. SessionOrders: the plain law. SessionOrders: pieces of the walk. -/
import Derived.Test.YtfhlnadhcalkkaaSesParE
import Derived.Test.YtfhlnadhcalkkaaLay
import Derived.Test.YtfhlnadhcalkkaaShaRef
import Derived.Test.YtfhlnadhcalkkaaCrcPlain
namespace Go.Proofs.Ytfhlnadhcalkkaa
open Go.RowKit
theorem layK_all {α : Type} (l xs : List α) (h : xs.length = l.length) : layK l 0 xs xs.length = xs := by
  unfold layK
  rw [List.take_zero, List.nil_append, List.take_length, List.drop_of_length_le (by omega), List.append_nil]
theorem slice_ne {gx g n cx : Nat} (h : gx ≠ g) (b o m c : Nat) (e : Value.slice (some ⟨gx, 0, none⟩) n cx = .slice (some ⟨b, o, none⟩) m c) : b ≠ g := by cases e; exact h
theorem LayV.far {w w' : World} {B b : Nat} : ∀ {V : Vars}, LayV w B V → (∀ p ∈ V, p.1 ≠ b) → (∀ (k : Nat) (x : Obj), k ≠ b → w.heap[k]? = some x → w'.heap[k]? = some x) → LayV w' B V
  | [], _, _, _ => trivial
  | (g, cs, t) :: V, h, hn, k => ⟨h.1, k _ _ (hn (g, cs, t) List.mem_cons_self) h.2.1, h.2.2.1, LayV.far h.2.2.2 (fun p hp => hn p (List.mem_cons_of_mem _ hp)) k⟩
/-- a store into a row of its own, none of the variables -/
theorem Lay.far {w0 w : World} {V : Vars} (h : Lay w0 w V) {b : Nat} (hb : w0.heap.size ≤ b) (hn : ∀ p ∈ V, p.1 ≠ b) (j : Nat) (u : Value) : Lay w0 (w.setCell ⟨b, j, none⟩ u) V :=
  ⟨h.below.setCell hb _, LayV.far h.vars hn fun k x hk hx => by rw [Below.heap_setCell _ _ _ _ hk]; exact hx⟩
theorem cnt_trues (n : Nat) : cnt false (List.replicate n true) = 0 := by simp [cnt]
theorem clash_falses (s : Ses) (f : Frm) (n : Nat) (h : s.got = List.replicate n false) : clash s f = false := by
  refine List.any_eq_false.2 fun i _ => ?_
  rw [h, List.getD_eq_getElem?_getD, List.getElem?_replicate]
  split <;> simp
theorem clash_sameD (s : Ses) (f : Frm) (h : f.data = s.data) (ha : f.at_ = 0) : clash s f = false := by
  refine List.any_eq_false.2 fun i _ => ?_
  rw [ha, h]
  simp
def SumsP (w : World) (e : Ending) (w' : World) : Prop := e = .returned (.bool true) ∧ Below w.heap.size w w'
def fS (n : Nat) (H : List UInt8) : Frm := ⟨1, 1, n, 0, H, []⟩
def sS (n : Nat) (H : List UInt8) : Ses := ⟨1, n, H, List.replicate n 0, List.replicate n false⟩
def cS (X : List UInt8) : Frm := ⟨2, 1, 0, 0, z32, X⟩
def tS (n : Nat) (H X : List UInt8) : Ses := ⟨1, n, H, X, List.replicate n true⟩
theorem begin_fS (n : Nat) (H : List UInt8) (h0 : 0 < n) (h1 : n ≤ 1000) : beginS (fS n H) = sS n H ∧ beginE (fS n H) = 0 := by
  have hb : ¬ badF (fS n H) := by unfold badF fS; simp only []; omega
  exact ⟨(if_neg hb).trans (by simp [fS, sS]), if_neg hb⟩
theorem argBad_no {s : Ses} {X : List UInt8} (h0 : 0 < X.length) (hs : s.size = (X.length : Int)) : ¬ argBad s (cS X) := by
  unfold argBad cS
  simp only [hs]
  omega
theorem chunk_cS (n : Nat) (H X : List UInt8) (hX : X.length = n) (h0 : 0 < n) : chunkE (sS n H) (cS X) = 0 ∧ chunkS (sS n H) (cS X) = tS n H X := by
  have hc : clash (sS n H) (cS X) = false := clash_falses _ _ n rfl
  have he : chunkE (sS n H) (cS X) = 0 := by
    unfold chunkE
    rw [if_neg (fun h => h rfl), if_neg (argBad_no (by omega) (by rw [hX]; rfl)), if_neg (by rw [hc]; simp)]
  refine ⟨he, ?_⟩
  unfold chunkS
  rw [if_pos he]
  have h1 : layK (List.replicate n (0 : UInt8)) 0 X X.length = X := layK_all _ _ (by simp [hX])
  have h2 : layK (List.replicate n false) 0 (List.replicate X.length true) X.length = List.replicate n true := by
    have := layK_all (List.replicate n false) (List.replicate X.length true) (by simp [hX])
    rw [List.length_replicate] at this
    rw [this, hX]
  show Ses.mk 1 n H (layK (List.replicate n 0) 0 X X.length) (layK (List.replicate n false) 0 (List.replicate X.length true) X.length) = _
  rw [h1, h2]
  rfl
theorem chunk_tS (n : Nat) (H X : List UInt8) (hX : X.length = n) (h0 : 0 < n) : chunkE (tS n H X) (cS X) = 0 := by
  have hc : clash (tS n H X) (cS X) = false := clash_sameD _ _ rfl rfl
  unfold chunkE
  rw [if_neg (fun h => h rfl), if_neg (argBad_no (by omega) (by rw [hX]; rfl)), if_neg (by rw [hc]; simp)]
theorem whole_tS (n : Nat) (H X : List UInt8) (h : sha X ≠ H) : wholeE (tS n H X) = 15 := by
  unfold wholeE
  rw [if_neg (by rw [show (tS n H X).got = List.replicate n true from rfl, cnt_trues]; omega), if_neg (show ¬ sha (tS n H X).data = (tS n H X).sum from h)]
theorem frm_built (a b c d : Int) (H : List UInt8) (D : Value) (hH : H.length = 32) (hD : D.cells = [D].toArray) :
    Try.prog.built 29 [(0, .int .i64 a), (1, .int .i64 b), (2, .int .i64 c), (4, .agg (bv H).toArray)] = some (frmV ⟨a, b, c, 0, H, []⟩ (.slice none 0 0)).toArray := by
  obtain ⟨fs, hu, hp⟩ := frmUnder
  rw [built_struct frmZero hu hp]
  have h1 := fill_step ([(0, 1), (1, 1), (2, 1), (3, 1), (4, 32), (36, 1)].toArray[·]?) [] zFrm 0 _ _ (cells_int .i64 a) rfl (Nat.le_of_ble_eq_true rfl)
  simp only [List.nil_append] at h1
  rw [h1, fill_step _ _ _ 1 _ _ (cells_int .i64 b) rfl (Nat.le_of_ble_eq_true rfl), fill_step _ _ _ 2 _ _ (cells_int .i64 c) rfl (Nat.le_of_ble_eq_true rfl)]
  rw [show (([Value.int .i64 a] ++ [Value.int .i64 b] ++ [Value.int .i64 c]) ++ List.drop [Value.int .i64 c].length (List.drop [Value.int .i64 b].length (List.drop [Value.int .i64 a].length zFrm)) : List Value) =
    ([Value.int .i64 a] ++ [Value.int .i64 b] ++ [Value.int .i64 c] ++ [.int .i64 0]) ++ (bv z32 ++ [.slice none 0 0]) from rfl]
  rw [fill_step _ _ _ 4 _ _ (cells_agg (bv H)) (by simp [length_bv, hH]) (by simp [length_bv, hH, z32_len]), fill_nil]
  refine congrArg (fun l : List Value => some l.toArray) ?_
  rw [List.drop_append_of_le_length (by simp [length_bv, hH, z32_len]), List.drop_of_length_le (by simp [length_bv, hH, z32_len])]
  simp [frmV]
end Go.Proofs.Ytfhlnadhcalkkaa
namespace Go.Proofs.Ytfhlnadhcalkkaa
open Go.RowKit
theorem layK_at {α : Type} (l xs : List α) (a : Nat) (ha : a ≤ l.length) (j : Nat) : (layK l a xs xs.length)[j]? = if j < a then l[j]? else if j < a + xs.length then xs[j - a]? else l[j]? := by
  unfold layK
  rw [List.take_length, List.append_assoc]
  by_cases h1 : j < a
  · rw [if_pos h1, List.getElem?_append_left (by simp; omega), List.getElem?_take_of_lt h1]
  · rw [if_neg h1, List.getElem?_append_right (by simp; omega), List.length_take, Nat.min_eq_left ha]
    by_cases h2 : j < a + xs.length
    · rw [if_pos h2, List.getElem?_append_left (by omega)]
    · rw [if_neg h2, List.getElem?_append_right (by omega), List.getElem?_drop]
      congr 1
      omega
theorem cnt_zero {l : List Bool} : cnt false l = 0 ↔ ∀ (i : Nat) (x : Bool), l[i]? = some x → x = true := by
  unfold cnt
  rw [List.length_eq_zero_iff, List.filter_eq_nil_iff]
  constructor
  · intro h i x hx
    have := h x (List.mem_of_getElem? hx)
    cases x <;> simp_all
  · intro h x hx
    obtain ⟨i, hi⟩ := List.getElem?_of_mem hx
    have := h i x hi
    subst this
    simp
theorem cnt_cons (x : Bool) (l : List Bool) : cnt false (x :: l) = (if x = false then 1 else 0) + cnt false l := by
  unfold cnt
  cases x <;> simp [Nat.add_comm]
theorem cnt_set : ∀ (l : List Bool) (k : Nat), l[k]? = some false → cnt false (l.set k true) + 1 = cnt false l := by
  intro l
  induction l with
  | nil => intro k h; simp at h
  | cons y l ih =>
    intro k h
    cases k with
    | zero =>
      have : y = false := by simpa using h
      subst this
      rw [List.set_cons_zero, cnt_cons, cnt_cons]
      simp [Nat.add_comm]
    | succ k =>
      have := ih k (by simpa using h)
      rw [List.set_cons_succ, cnt_cons, cnt_cons]
      omega
theorem set_same {l : List Bool} {k : Nat} (h : l[k]? = some true) : l.set k true = l := by
  apply List.ext_getElem?
  intro j
  rw [List.getElem?_set]
  split
  · rename_i e
    subst e
    rw [h]
    have := (List.getElem?_eq_some_iff.1 h).1
    simp [this]
  · rfl
def nPc (m size : Nat) : Nat := (m + size - 1) / size
theorem nPc_hi {m size : Nat} (hs : 0 < size) : m ≤ nPc m size * size ∧ nPc m size * size ≤ m + size - 1 := by
  have h1 := Nat.div_add_mod (m + size - 1) size
  have h2 := Nat.mod_lt (m + size - 1) hs
  have h3 : nPc m size * size = size * ((m + size - 1) / size) := Nat.mul_comm _ _
  omega
theorem pc_lt {m size k : Nat} (hs : 0 < size) (hk : k < nPc m size) : k * size < m := by
  have h1 := nPc_hi (m := m) hs
  have h2 : (k + 1) * size ≤ nPc m size * size := Nat.mul_le_mul_right _ hk
  rw [Nat.add_mul, Nat.one_mul] at h2
  omega
theorem pc_of {m size j : Nat} (hs : 0 < size) (hj : j < m) : j / size < nPc m size := by
  rw [Nat.div_lt_iff_lt_mul hs]
  have := nPc_hi (m := m) hs
  omega
theorem pc_in {size j k : Nat} (hs : 0 < size) : j / size = k ↔ k * size ≤ j ∧ j < k * size + size := by
  have h1 := Nat.div_add_mod j size
  have h2 := Nat.mod_lt j hs
  have h3 : size * (j / size) = j / size * size := Nat.mul_comm _ _
  constructor
  · intro h
    rw [h] at h3 h1
    omega
  · intro ⟨a, b⟩
    have c1 : k ≤ j / size := (Nat.le_div_iff_mul_le hs).2 a
    have c2 : j / size < k + 1 := (Nat.div_lt_iff_lt_mul hs).2 (by rw [Nat.add_mul, Nat.one_mul]; exact b)
    omega
def piece (img : List UInt8) (size k : Nat) : List UInt8 := (img.drop (k * size)).take size
def pS (img : List UInt8) (size k : Nat) : Frm := ⟨2, 1, 0, ((k * size : Nat) : Int), z32, piece img size k⟩
theorem piece_len (img : List UInt8) (size k : Nat) : (piece img size k).length = min size (img.length - k * size) := by simp [piece]
theorem piece_at (img : List UInt8) (size k i : Nat) (hi : i < size) : (piece img size k)[i]? = img[k * size + i]? := by
  unfold piece
  rw [List.getElem?_take_of_lt hi, List.getElem?_drop]
structure OrdI (img : List UInt8) (size : Nat) (s : Ses) (G : List Bool) : Prop where
  sid : s.id = 1
  ssz : s.size = (img.length : Int)
  ssm : s.sum = sha img
  dl : s.data.length = img.length
  gl : s.got.length = img.length
  Gl : G.length = nPc img.length size
  hg : ∀ j : Nat, j < img.length → s.got[j]? = G[j / size]?
  hd : ∀ j : Nat, s.got[j]? = some true → s.data[j]? = img[j]?
theorem ord_start {img : List UInt8} {size : Nat} (hs : 0 < size) : OrdI img size (sS img.length (sha img)) (List.replicate (nPc img.length size) false) := by
  refine ⟨rfl, rfl, rfl, by simp [sS], by simp [sS], by simp, fun j hj => ?_, fun j hj => ?_⟩
  · have h1 := pc_of hs hj
    rw [show (sS img.length (sha img)).got = List.replicate img.length false from rfl, List.getElem?_replicate, List.getElem?_replicate, if_pos hj, if_pos h1]
  · rw [show (sS img.length (sha img)).got = List.replicate img.length false from rfl, List.getElem?_replicate] at hj
    split at hj <;> simp at hj
theorem ord_e {img : List UInt8} {size k : Nat} {s : Ses} {G : List Bool} (hs : 0 < size) (h : OrdI img size s G) (hk : k < nPc img.length size) : chunkE s (pS img size k) = 0 := by
  have h1 := pc_lt hs hk
  have hl := piece_len img size k
  have hc : clash s (pS img size k) = false := by
    refine List.any_eq_false.2 fun i hi => ?_
    have hi : i < (piece img size k).length := List.mem_range.1 hi
    show ¬ (s.got.getD (k * size + i) false && (s.data.getD (k * size + i) 0 != (piece img size k).getD i 0)) = true
    cases hg : s.got.getD (k * size + i) false
    · simp
    · have hg' : s.got[k * size + i]? = some true := by
        rw [List.getD_eq_getElem?_getD] at hg
        cases hq : s.got[k * size + i]? with
        | none => rw [hq] at hg; simp at hg
        | some x => rw [hq] at hg; simp at hg; rw [hg]
      have hd := h.hd _ hg'
      rw [List.getD_eq_getElem?_getD, List.getD_eq_getElem?_getD, hd, piece_at _ _ _ _ (by omega)]
      simp
  unfold chunkE
  rw [if_neg (by rw [h.sid]; simp [pS]), if_neg ?_, if_neg (by rw [hc]; simp)]
  unfold argBad
  rw [h.ssz]
  show ¬ ((piece img size k).length = 0 ∨ ((k * size : Nat) : Int) < 0 ∨ (img.length : Int) < (piece img size k).length ∨ (img.length : Int) - (piece img size k).length < ((k * size : Nat) : Int))
  omega
theorem ord_step {img : List UInt8} {size k : Nat} {s : Ses} {G : List Bool} (hs : 0 < size) (h : OrdI img size s G) (hk : k < nPc img.length size) : OrdI img size (chunkS s (pS img size k)) (G.set k true) := by
  have h1 := pc_lt hs hk
  have hl := piece_len img size k
  have hS : chunkS s (pS img size k) = ⟨s.id, s.size, s.sum, layK s.data (k * size) (piece img size k) (piece img size k).length, layK s.got (k * size) (List.replicate (piece img size k).length true) (List.replicate (piece img size k).length true).length⟩ := by
    unfold chunkS
    rw [if_pos (ord_e hs h hk), List.length_replicate]
    rfl
  rw [hS]
  have hgl := h.gl
  have hdl := h.dl
  refine ⟨h.sid, h.ssz, h.ssm, ?_, ?_, by rw [List.length_set]; exact h.Gl, fun j hj => ?_, fun j hj => ?_⟩
  · show (layK _ _ _ _).length = _
    rw [length_layK _ _ _ _ (Nat.le_refl _) (by omega)]; exact h.dl
  · show (layK _ _ _ _).length = _
    rw [length_layK _ _ _ _ (Nat.le_refl _) (by simp; omega)]; exact h.gl
  · show (layK _ _ _ _)[j]? = _
    rw [layK_at _ _ _ (by omega), List.length_replicate, List.getElem?_set]
    have hin := pc_in (size := size) (j := j) (k := k) hs
    by_cases hjk : j / size = k
    · have := hin.1 hjk
      rw [if_neg (by omega), if_pos (by omega), if_pos hjk.symm, if_pos (by rw [h.Gl]; exact hk), List.getElem?_replicate, if_pos (by omega)]
    · rw [if_neg (show ¬ k = j / size from fun e => hjk e.symm)]
      have : ¬ (k * size ≤ j ∧ j < k * size + size) := fun e => hjk (hin.2 e)
      by_cases ha : j < k * size
      · rw [if_pos ha]; exact h.hg j hj
      · rw [if_neg ha, if_neg (by omega)]; exact h.hg j hj
  · replace hj : (layK s.got (k * size) (List.replicate (piece img size k).length true) (List.replicate (piece img size k).length true).length)[j]? = some true := hj
    show (layK _ _ _ _)[j]? = _
    rw [layK_at _ _ _ (by omega), List.length_replicate] at hj
    rw [layK_at _ _ _ (by omega)]
    by_cases ha : j < k * size
    · rw [if_pos ha] at hj ⊢; exact h.hd j hj
    · rw [if_neg ha] at hj ⊢
      by_cases hb : j < k * size + (piece img size k).length
      · rw [if_pos hb, piece_at _ _ _ _ (by omega)]
        congr 1
        omega
      · rw [if_neg hb] at hj ⊢; exact h.hd j hj
theorem ord_whole {img : List UInt8} {size : Nat} {s : Ses} {G : List Bool} (hs : 0 < size) (h : OrdI img size s G) : (cnt false G = 0 → s.data = img ∧ wholeE s = 0 ∧ wholeB s = img) ∧ (cnt false G ≠ 0 → wholeE s = 25 ∧ wholeB s = []) := by
  have key : cnt false s.got = 0 ↔ cnt false G = 0 := by
    rw [cnt_zero, cnt_zero]
    constructor
    · intro hh k x hx
      have hk : k < nPc img.length size := by rw [← h.Gl]; exact (List.getElem?_eq_some_iff.1 hx).1
      have h1 := pc_lt hs hk
      refine hh (k * size) x ?_
      rw [h.hg _ h1, Nat.mul_div_cancel _ hs, hx]
    · intro hh j x hx
      have hj : j < img.length := by rw [← h.gl]; exact (List.getElem?_eq_some_iff.1 hx).1
      refine hh (j / size) x ?_
      rw [← h.hg _ hj, hx]
  constructor
  · intro h0
    have hg0 := key.2 h0
    have hd : s.data = img := by
      apply List.ext_getElem?
      intro j
      by_cases hj : j < img.length
      · obtain ⟨x, hx⟩ : ∃ x, s.got[j]? = some x := ⟨_, List.getElem?_eq_getElem (by rw [h.gl]; exact hj)⟩
        have := cnt_zero.1 hg0 j x hx
        subst this
        exact h.hd j hx
      · rw [List.getElem?_eq_none (by rw [h.dl]; omega), List.getElem?_eq_none (by omega)]
    have he : wholeE s = 0 := by
      unfold wholeE
      rw [if_neg (by omega), if_pos (by rw [hd, h.ssm])]
    exact ⟨hd, he, (if_pos he).trans hd⟩
  · intro h0
    have hg0 : cnt false s.got ≠ 0 := fun e => h0 (key.1 e)
    have he : wholeE s = 25 := if_pos (by omega)
    exact ⟨he, if_neg (by rw [he]; decide)⟩
theorem cnt_all {l : List Bool} (h : ∀ k, k < l.length → l[k]? = some true) : cnt false l = 0 :=
  cnt_zero.2 fun i x hx => by
    have := h i (List.getElem?_eq_some_iff.1 hx).1
    rw [hx] at this
    injection this
theorem cnt_rep (N : Nat) : cnt false (List.replicate N false) = N := by simp [cnt]
end Go.Proofs.Ytfhlnadhcalkkaa
namespace Go.Proofs.Ytfhlnadhcalkkaa
open Go.RowKit
theorem SlB.far {w : World} {l : List UInt8} {v : Value} (h : SlB w l v) {p : Addr} (hp : ∀ b o n c, v = .slice (some ⟨b, o, none⟩) n c → b ≠ p.block) (u : Value) : SlB (w.setCell p u) l v := by
  obtain ⟨A, n, c, rfl, hb, r⟩ := h
  exact ⟨A, n, c, rfl, Vs.far hb (fun b o e => hp b o n c (by rw [e])) u, r⟩
theorem SlO.far {w : World} {l : List Bool} {v : Value} (h : SlO w l v) {p : Addr} (hp : ∀ b o n c, v = .slice (some ⟨b, o, none⟩) n c → b ≠ p.block) (u : Value) : SlO (w.setCell p u) l v := by
  obtain ⟨A, n, c, rfl, hb, r⟩ := h
  exact ⟨A, n, c, rfl, Vs.far hb (fun b o e => hp b o n c (by rw [e])) u, r⟩
/-- neither slice lies in block g -/
def Apart (g : Nat) (D G : Value) : Prop := (∀ b o n c, D = .slice (some ⟨b, o, none⟩) n c → b ≠ g) ∧ (∀ b o n c, G = .slice (some ⟨b, o, none⟩) n c → b ≠ g)
theorem SesM.far {w : World} {s : Ses} {D G : Value} (h : SesM w s D G) {g j : Nat} (ha : Apart g D G) (u : Value) : SesM (w.setCell ⟨g, j, none⟩ u) s D G := ⟨h.id, h.size, h.sum, h.data.far ha.1 u, h.got.far ha.2 u⟩
theorem SesM.farRow {w : World} {s : Ses} {D G : Value} (h : SesM w s D G) {g : Nat} (ha : Apart g D G) (cs : Array Value) : SesM (w.setRow g cs) s D G := ⟨h.id, h.size, h.sum, h.data.row ha.1 _, h.got.row ha.2 _⟩
theorem Lay.pop {w0 w : World} {p : Nat × Array Value × TypeId} {V : Vars} (h : Lay w0 w (p :: V)) : Lay w0 w V := ⟨h.below, h.vars.2.2.2⟩
theorem bls_set (G : List Bool) (k : Nat) (x : Bool) : (bls G).set k (.bool x) = bls (G.set k x) := by simp [bls, List.map_set]
theorem bls_at {G : List Bool} {k : Nat} {x : Bool} (h : G[k]? = some x) : (bls G)[k]? = some (.bool x) := by rw [bls, List.getElem?_map, h]; rfl
/-- append([]byte{}, k...), k not empty: an operation alone -/
theorem run_clone0 {W : World} {o : Oper} {ρ : Operand → Value} {x y : Tmp} {g m c : Nat} {A : Option Addr} {k : List UInt8} (ho : o.op = .call { callee := .builtin .append, args := #[.tmp x, .tmp y], argTypes := #[22, 22] })
    (hx : ρ (.tmp x) = .slice (some ⟨g, 0, none⟩) 0 0) (hy : ρ (.tmp y) = .slice A m c) (hr : Bs W A m k) (h0 : 0 < m) (hm : m ≤ 70368744177664) :
    ∃ v W', (execOp ρ o).run Try.prog W = .ok (.value v) W' ∧ W'.ownsRow W.heap.size 5 1 v m (bv k) ∧ Below W.heap.size W W' := by
  obtain ⟨i0, hi0, hz0, hz1, hz2⟩ := info_parts byteInfo
  obtain ⟨b, of, rfl, hc⟩ := hr.2 h0
  obtain ⟨v, W', hrun, hown, hgr⟩ := run_append_arg_grows (P := Try.prog) W 22 o.type 5 i0 (.int .u8 0) 1 1 Try.underlying22 hi0 hz0 hz1 hz2 rfl (by omega) ⟨g, 0, none⟩ 0 0 [] rfl (by intro j u hu; simp at hu) ⟨b, of, none⟩ m c (bv k) (by rw [hr.1, Nat.mul_one]) (fun j u hu => by rw [Addr.add_lit]; exact hc j u hu) (by omega) (by simp only [maxLen]; omega) (by omega)
  refine ⟨v, W', ?_, by simpa using hown, (Below.refl _ _).grown hgr (Nat.le_refl _) (by simp)⟩
  unfold execOp
  simp only [ho, resolve, invoke, builtin, Sem.run_bind, Sem.run_pure, Result.andThen_ok, List.map_toArray, List.map_cons, List.map_nil, hx, hy, hrun]
end Go.Proofs.Ytfhlnadhcalkkaa
