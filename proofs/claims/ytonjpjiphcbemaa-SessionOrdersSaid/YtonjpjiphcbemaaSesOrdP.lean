/- SessionOrders: the plain law. -/
import Derived.Test.YtonjpjiphcbemaaSesSumsP
namespace Go.Proofs.Ytonjpjiphcbemaa
open Go.RowKit
theorem layK_at {α : Type} (l xs : List α) (a : Nat) (ha : a ≤ l.length) (j : Nat) : (layK l a xs xs.length)[j]? = if j < a then l[j]? else if j < a + xs.length then xs[j - a]? else l[j]? := by
  unfold layK
  rw [List.take_length, List.append_assoc]
  by_cases h1 : j < a
  · rw [if_pos h1, List.getElem?_append_left (by simp; omega), List.getElem?_take_of_lt h1]
  · rw [if_neg h1, List.getElem?_append_right (by simp; omega), List.length_take, Nat.min_eq_left ha]
    by_cases h2 : j < a + xs.length
    · rw [if_pos h2, List.getElem?_append_left (by omega)]
    · rw [if_neg h2, List.getElem?_append_right (by omega), List.getElem?_drop]
      congr 1
      omega
theorem cnt_zero {l : List Bool} : cnt false l = 0 ↔ ∀ (i : Nat) (x : Bool), l[i]? = some x → x = true := by
  unfold cnt
  rw [List.length_eq_zero_iff, List.filter_eq_nil_iff]
  constructor
  · intro h i x hx
    have := h x (List.mem_of_getElem? hx)
    cases x <;> simp_all
  · intro h x hx
    obtain ⟨i, hi⟩ := List.getElem?_of_mem hx
    have := h i x hi
    subst this
    simp
theorem cnt_cons (x : Bool) (l : List Bool) : cnt false (x :: l) = (if x = false then 1 else 0) + cnt false l := by
  unfold cnt
  cases x <;> simp [Nat.add_comm]
theorem cnt_set : ∀ (l : List Bool) (k : Nat), l[k]? = some false → cnt false (l.set k true) + 1 = cnt false l := by
  intro l
  induction l with
  | nil => intro k h; simp at h
  | cons y l ih =>
    intro k h
    cases k with
    | zero =>
      have : y = false := by simpa using h
      subst this
      rw [List.set_cons_zero, cnt_cons, cnt_cons]
      simp [Nat.add_comm]
    | succ k =>
      have := ih k (by simpa using h)
      rw [List.set_cons_succ, cnt_cons, cnt_cons]
      omega
theorem set_same {l : List Bool} {k : Nat} (h : l[k]? = some true) : l.set k true = l := by
  apply List.ext_getElem?
  intro j
  rw [List.getElem?_set]
  split
  · rename_i e
    subst e
    rw [h]
    have := (List.getElem?_eq_some_iff.1 h).1
    simp [this]
  · rfl
def nPc (m size : Nat) : Nat := (m + size - 1) / size
theorem nPc_hi {m size : Nat} (hs : 0 < size) : m ≤ nPc m size * size ∧ nPc m size * size ≤ m + size - 1 := by
  have h1 := Nat.div_add_mod (m + size - 1) size
  have h2 := Nat.mod_lt (m + size - 1) hs
  have h3 : nPc m size * size = size * ((m + size - 1) / size) := Nat.mul_comm _ _
  omega
theorem pc_lt {m size k : Nat} (hs : 0 < size) (hk : k < nPc m size) : k * size < m := by
  have h1 := nPc_hi (m := m) hs
  have h2 : (k + 1) * size ≤ nPc m size * size := Nat.mul_le_mul_right _ hk
  rw [Nat.add_mul, Nat.one_mul] at h2
  omega
theorem pc_of {m size j : Nat} (hs : 0 < size) (hj : j < m) : j / size < nPc m size := by
  rw [Nat.div_lt_iff_lt_mul hs]
  have := nPc_hi (m := m) hs
  omega
theorem pc_in {size j k : Nat} (hs : 0 < size) : j / size = k ↔ k * size ≤ j ∧ j < k * size + size := by
  have h1 := Nat.div_add_mod j size
  have h2 := Nat.mod_lt j hs
  have h3 : size * (j / size) = j / size * size := Nat.mul_comm _ _
  constructor
  · intro h
    rw [h] at h3 h1
    omega
  · intro ⟨a, b⟩
    have c1 : k ≤ j / size := (Nat.le_div_iff_mul_le hs).2 a
    have c2 : j / size < k + 1 := (Nat.div_lt_iff_lt_mul hs).2 (by rw [Nat.add_mul, Nat.one_mul]; exact b)
    omega
def piece (img : List UInt8) (size k : Nat) : List UInt8 := (img.drop (k * size)).take size
def pS (img : List UInt8) (size k : Nat) : Frm := ⟨2, 1, 0, ((k * size : Nat) : Int), z32, piece img size k⟩
theorem piece_len (img : List UInt8) (size k : Nat) : (piece img size k).length = min size (img.length - k * size) := by simp [piece]
theorem piece_at (img : List UInt8) (size k i : Nat) (hi : i < size) : (piece img size k)[i]? = img[k * size + i]? := by
  unfold piece
  rw [List.getElem?_take_of_lt hi, List.getElem?_drop]
structure OrdI (img : List UInt8) (size : Nat) (s : Ses) (G : List Bool) : Prop where
  sid : s.id = 1
  ssz : s.size = (img.length : Int)
  ssm : s.sum = sha img
  dl : s.data.length = img.length
  gl : s.got.length = img.length
  Gl : G.length = nPc img.length size
  hg : ∀ j : Nat, j < img.length → s.got[j]? = G[j / size]?
  hd : ∀ j : Nat, s.got[j]? = some true → s.data[j]? = img[j]?
theorem ord_start {img : List UInt8} {size : Nat} (hs : 0 < size) : OrdI img size (sS img.length (sha img)) (List.replicate (nPc img.length size) false) := by
  refine ⟨rfl, rfl, rfl, by simp [sS], by simp [sS], by simp, fun j hj => ?_, fun j hj => ?_⟩
  · have h1 := pc_of hs hj
    rw [show (sS img.length (sha img)).got = List.replicate img.length false from rfl, List.getElem?_replicate, List.getElem?_replicate, if_pos hj, if_pos h1]
  · rw [show (sS img.length (sha img)).got = List.replicate img.length false from rfl, List.getElem?_replicate] at hj
    split at hj <;> simp at hj
theorem ord_e {img : List UInt8} {size k : Nat} {s : Ses} {G : List Bool} (hs : 0 < size) (h : OrdI img size s G) (hk : k < nPc img.length size) : chunkE s (pS img size k) = 0 := by
  have h1 := pc_lt hs hk
  have hl := piece_len img size k
  have hc : clash s (pS img size k) = false := by
    refine List.any_eq_false.2 fun i hi => ?_
    have hi : i < (piece img size k).length := List.mem_range.1 hi
    show ¬ (s.got.getD (k * size + i) false && (s.data.getD (k * size + i) 0 != (piece img size k).getD i 0)) = true
    cases hg : s.got.getD (k * size + i) false
    · simp
    · have hg' : s.got[k * size + i]? = some true := by
        rw [List.getD_eq_getElem?_getD] at hg
        cases hq : s.got[k * size + i]? with
        | none => rw [hq] at hg; simp at hg
        | some x => rw [hq] at hg; simp at hg; rw [hg]
      have hd := h.hd _ hg'
      rw [List.getD_eq_getElem?_getD, List.getD_eq_getElem?_getD, hd, piece_at _ _ _ _ (by omega)]
      simp
  unfold chunkE
  rw [if_neg (by rw [h.sid]; simp [pS]), if_neg ?_, if_neg (by rw [hc]; simp)]
  unfold argBad
  rw [h.ssz]
  show ¬ ((piece img size k).length = 0 ∨ ((k * size : Nat) : Int) < 0 ∨ (img.length : Int) < (piece img size k).length ∨ (img.length : Int) - (piece img size k).length < ((k * size : Nat) : Int))
  omega
theorem ord_step {img : List UInt8} {size k : Nat} {s : Ses} {G : List Bool} (hs : 0 < size) (h : OrdI img size s G) (hk : k < nPc img.length size) : OrdI img size (chunkS s (pS img size k)) (G.set k true) := by
  have h1 := pc_lt hs hk
  have hl := piece_len img size k
  have hS : chunkS s (pS img size k) = ⟨s.id, s.size, s.sum, layK s.data (k * size) (piece img size k) (piece img size k).length, layK s.got (k * size) (List.replicate (piece img size k).length true) (List.replicate (piece img size k).length true).length⟩ := by
    unfold chunkS
    rw [if_pos (ord_e hs h hk), List.length_replicate]
    rfl
  rw [hS]
  have hgl := h.gl
  have hdl := h.dl
  refine ⟨h.sid, h.ssz, h.ssm, ?_, ?_, by rw [List.length_set]; exact h.Gl, fun j hj => ?_, fun j hj => ?_⟩
  · show (layK _ _ _ _).length = _
    rw [length_layK _ _ _ _ (Nat.le_refl _) (by omega)]; exact h.dl
  · show (layK _ _ _ _).length = _
    rw [length_layK _ _ _ _ (Nat.le_refl _) (by simp; omega)]; exact h.gl
  · show (layK _ _ _ _)[j]? = _
    rw [layK_at _ _ _ (by omega), List.length_replicate, List.getElem?_set]
    have hin := pc_in (size := size) (j := j) (k := k) hs
    by_cases hjk : j / size = k
    · have := hin.1 hjk
      rw [if_neg (by omega), if_pos (by omega), if_pos hjk.symm, if_pos (by rw [h.Gl]; exact hk), List.getElem?_replicate, if_pos (by omega)]
    · rw [if_neg (show ¬ k = j / size from fun e => hjk e.symm)]
      have : ¬ (k * size ≤ j ∧ j < k * size + size) := fun e => hjk (hin.2 e)
      by_cases ha : j < k * size
      · rw [if_pos ha]; exact h.hg j hj
      · rw [if_neg ha, if_neg (by omega)]; exact h.hg j hj
  · replace hj : (layK s.got (k * size) (List.replicate (piece img size k).length true) (List.replicate (piece img size k).length true).length)[j]? = some true := hj
    show (layK _ _ _ _)[j]? = _
    rw [layK_at _ _ _ (by omega), List.length_replicate] at hj
    rw [layK_at _ _ _ (by omega)]
    by_cases ha : j < k * size
    · rw [if_pos ha] at hj ⊢; exact h.hd j hj
    · rw [if_neg ha] at hj ⊢
      by_cases hb : j < k * size + (piece img size k).length
      · rw [if_pos hb, piece_at _ _ _ _ (by omega)]
        congr 1
        omega
      · rw [if_neg hb] at hj ⊢; exact h.hd j hj
theorem ord_whole {img : List UInt8} {size : Nat} {s : Ses} {G : List Bool} (hs : 0 < size) (h : OrdI img size s G) : (cnt false G = 0 → s.data = img ∧ wholeE s = 0 ∧ wholeB s = img) ∧ (cnt false G ≠ 0 → wholeE s = 25 ∧ wholeB s = []) := by
  have key : cnt false s.got = 0 ↔ cnt false G = 0 := by
    rw [cnt_zero, cnt_zero]
    constructor
    · intro hh k x hx
      have hk : k < nPc img.length size := by rw [← h.Gl]; exact (List.getElem?_eq_some_iff.1 hx).1
      have h1 := pc_lt hs hk
      refine hh (k * size) x ?_
      rw [h.hg _ h1, Nat.mul_div_cancel _ hs, hx]
    · intro hh j x hx
      have hj : j < img.length := by rw [← h.gl]; exact (List.getElem?_eq_some_iff.1 hx).1
      refine hh (j / size) x ?_
      rw [← h.hg _ hj, hx]
  constructor
  · intro h0
    have hg0 := key.2 h0
    have hd : s.data = img := by
      apply List.ext_getElem?
      intro j
      by_cases hj : j < img.length
      · obtain ⟨x, hx⟩ : ∃ x, s.got[j]? = some x := ⟨_, List.getElem?_eq_getElem (by rw [h.gl]; exact hj)⟩
        have := cnt_zero.1 hg0 j x hx
        subst this
        exact h.hd j hx
      · rw [List.getElem?_eq_none (by rw [h.dl]; omega), List.getElem?_eq_none (by omega)]
    have he : wholeE s = 0 := by
      unfold wholeE
      rw [if_neg (by omega), if_pos (by rw [hd, h.ssm])]
    exact ⟨hd, he, (if_pos he).trans hd⟩
  · intro h0
    have hg0 : cnt false s.got ≠ 0 := fun e => h0 (key.1 e)
    have he : wholeE s = 25 := if_pos (by omega)
    exact ⟨he, if_neg (by rw [he]; decide)⟩
theorem cnt_all {l : List Bool} (h : ∀ k, k < l.length → l[k]? = some true) : cnt false l = 0 :=
  cnt_zero.2 fun i x hx => by
    have := h i (List.getElem?_eq_some_iff.1 hx).1
    rw [hx] at this
    injection this
theorem cnt_rep (N : Nat) : cnt false (List.replicate N false) = N := by simp [cnt]
end Go.Proofs.Ytonjpjiphcbemaa
