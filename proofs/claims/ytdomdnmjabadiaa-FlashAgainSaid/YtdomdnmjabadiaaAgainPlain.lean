/- FlashAgain, plain: a page programmed again and again with bits cleared alone. -/
import Derived.Test.YtdomdnmjabadiaaFlashKnown
namespace Go.Proofs.Ytdomdnmjabadiaa
open Go.RowKit

/-- what all programs leave, with one more -/
def andL (L b : List UInt8) : List UInt8 := List.zipWith (fun x y => x &&& y) L (pad b)
theorem length_andL (L b : List UInt8) (hL : L.length = 16) (hb : b.length ≤ 16) : (andL L b).length = 16 := by
  unfold andL
  rw [List.length_zipWith, hL, length_pad b hb]
  rfl
theorem andL_at (L b : List UInt8) (hL : L.length = 16) (hb : b.length ≤ 16) (j : Nat) (hj : j < 16) : (andL L b).getD j 0 = L.getD j 0 &&& (pad b).getD j 0 := by
  have h1 : j < L.length := by omega
  have h2 : j < (pad b).length := by rw [length_pad b hb]; exact hj
  unfold andL
  simp only [List.getD_eq_getElem?_getD, List.getElem?_zipWith, List.getElem?_eq_getElem h1, List.getElem?_eq_getElem h2]
  rfl
theorem set_mid (X L : List UInt8) (j : Nat) (h : X.length = L.length) (hj : j < X.length) : (X.take j ++ L.drop j).set j (X.getD j 0) = X.take (j + 1) ++ L.drop (j + 1) := by
  have hl : (X.take j).length = j := by rw [List.length_take]; omega
  rw [List.set_append_right _ _ (by rw [hl]; exact Nat.le_refl _), hl, Nat.sub_self, List.drop_eq_getElem_cons (show j < L.length by omega), List.set_cons_zero, List.take_succ_eq_append_getElem hj, List.append_assoc]
  congr 2
  rw [List.getD_eq_getElem?_getD, List.getElem?_eq_getElem hj]
  rfl
theorem and_not_and (x y : UInt8) : (x &&& y) &&& ~~~x = 0 := by
  apply UInt8.toBitVec_inj.1
  apply BitVec.eq_of_getLsbD_eq
  intro i hi
  simp only [UInt8.toBitVec_and, UInt8.toBitVec_not, BitVec.getLsbD_and, BitVec.getLsbD_not]
  cases x.toBitVec.getLsbD i <;> cases y.toBitVec.getLsbD i <;> simp
theorem pad_full (b : List UInt8) (h : b.length = 16) : pad b = b := by unfold pad; rw [h]; simp
structure AInv (L : List UInt8) (i : Nat) (f : FlashSt) : Prop where
  dead : f.dead = false
  left : f.left = 0
  done : f.done = (i : Int)
  len : f.S.length = 6144
  row : L.length = 16
  same : ∀ k, k < 16 → f.S.getD (2 * 1024 + 9 * 16 + k) 0 = L.getD k 0
theorem ainv_start : AInv (List.replicate 16 255) 0 newF := by
  refine ⟨rfl, rfl, rfl, newF_len, by rw [List.length_replicate], fun k hk => ?_⟩
  rw [newF_at _ (by omega), List.getD_eq_getElem?_getD, List.getElem?_replicate, if_pos hk]
  rfl
theorem ainv_step {L : List UInt8} {i : Nat} {f : FlashSt} (h : AInv L i f) (hi : i < 20) (b : List UInt8) (hb : b.length ≤ 16) :
    ∃ f', progF f 2 9 (andL L b) = (0, f') ∧ AInv (andL L b) (i + 1) f' ∧ ∀ k, k < 16 → (readF f' 2)[144 + k]? = some ((andL L b).getD k 0) := by
  have hal := length_andL L b h.row hb
  have hsame : ∀ k, k < 16 → (doneP f (2 * 1024 + 9 * 16) (andL L b)).S.getD (2 * 1024 + 9 * 16 + k) 0 = (andL L b).getD k 0 := fun k hk => by
    rw [doneP_at _ _ _ _ (by rw [h.len]; omega), if_pos (by omega), Nat.add_sub_cancel_left, pad_full _ hal]
  refine ⟨_, prog_ok f 2 9 (andL L b) h.dead h.left (by omega) (by omega) (by omega) ?_, ⟨rfl, rfl, ?_, by rw [doneP_len, h.len], hal, hsame⟩, fun k hk => ?_⟩
  · rw [fits_iff]
    intro k hk
    rw [pad_full _ hal, h.same k hk, andL_at L b h.row hb k hk]
    exact and_not_and _ _
  · show wrap64 (f.done + 1) = _
    rw [h.done]
    unfold wrap64
    omega
  · have := read_at (doneP f (2 * 1024 + 9 * 16) (andL L b)) 2 (by omega) (by rw [doneP_len, h.len]) (144 + k) (by omega)
    rw [show 2 * 1024 + (144 + k) = 2 * 1024 + 9 * 16 + k by omega, hsame k hk] at this
    exact this
end Go.Proofs.Ytdomdnmjabadiaa
