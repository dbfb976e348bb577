/- FlashErase, plain: marks at pages' beginnings, sector by sector. -/
import Derived.Test.YtdomdnmjabadiaaFlashKnown
namespace Go.Proofs.Ytdomdnmjabadiaa
open Go.RowKit

def hit (zs : List Int) (x : Nat) : Bool := zs.any fun z => within z 64 * 16 == x
def mark (s : Nat) (zs : List Int) (x : Nat) : UInt8 := if hit zs x = true then UInt8.ofNat s else 255
theorem hit_snoc (zs : List Int) (z : Int) (x : Nat) : hit (zs ++ [z]) x = (hit zs x || (within z 64 * 16 == x)) := by simp [hit]
theorem hit_off (zs : List Int) (q j : Nat) (hj : 0 < j) (hj2 : j < 16) : hit zs (q * 16 + j) = false := by
  unfold hit
  rw [List.any_eq_false]
  intro z _
  simp only [beq_iff_eq]
  omega
/-- sectors before k bear all marks, sector k the first i of them -/
def EInv (zs : List Int) (k i : Nat) (f : FlashSt) : Prop :=
  f.dead = false ∧ f.left = 0 ∧ f.S.length = 6144 ∧ ∀ s x, s < 6 → x < 1024 → f.S.getD (s * 1024 + x) 0 = if s < k then mark s zs x else if s = k then mark s (zs.take i) x else 255
theorem einv_start (zs : List Int) : EInv zs 0 0 newF := by
  refine ⟨rfl, rfl, newF_len, fun s x hs hx => ?_⟩
  rw [newF_at _ (by omega), if_neg (by omega)]
  by_cases h : s = 0
  · rw [if_pos h]; rfl
  · rw [if_neg h]
theorem einv_next {zs : List Int} {k : Nat} {f : FlashSt} (h : EInv zs k zs.length f) : EInv zs (k + 1) 0 f := by
  obtain ⟨h1, h2, h3, h4⟩ := h
  refine ⟨h1, h2, h3, fun s x hs hx => ?_⟩
  rw [h4 s x hs hx]
  by_cases a : s < k
  · rw [if_pos a, if_pos (by omega)]
  · rw [if_neg a]
    by_cases b : s = k
    · rw [if_pos b, if_pos (by omega), List.take_length]
    · rw [if_neg b, if_neg (by omega)]
      by_cases c : s = k + 1
      · rw [if_pos c]; rfl
      · rw [if_neg c]
theorem u8_and_not (x : UInt8) : x &&& ~~~x = 0 := by
  apply UInt8.toBitVec_inj.1
  simp [UInt8.toBitVec_and, UInt8.toBitVec_not]
theorem einv_step {zs : List Int} {k i : Nat} {f : FlashSt} {z : Int} (h : EInv zs k i f) (hz : zs[i]? = some z) (hk : k < 6) :
    ∃ f', progF f k (within z 64) [UInt8.ofNat k] = (0, f') ∧ EInv zs k (i + 1) f' := by
  obtain ⟨h1, h2, h3, h4⟩ := h
  have hq := within_lt z 64 (by omega)
  have ht : zs.take (i + 1) = zs.take i ++ [z] := by rw [List.take_add_one, hz]; rfl
  have hp0 : ∀ j, j < 16 → (pad [UInt8.ofNat k]).getD j 0 = if j = 0 then UInt8.ofNat k else 255 := fun j hj => by
    rw [pad_at _ _ hj (by simp)]
    by_cases h : j = 0
    · subst h; rfl
    · rw [if_neg h, if_neg (by simp; omega)]
  refine ⟨_, prog_ok f k (within z 64) _ h1 h2 hk hq (by simp) ?_, rfl, rfl, by rw [doneP_len, h3], fun s x hs hx => ?_⟩
  · rw [fits_iff]
    intro j hj
    rw [hp0 j hj, show k * 1024 + within z 64 * 16 + j = k * 1024 + (within z 64 * 16 + j) by omega, h4 k _ hk (by omega), if_neg (Nat.lt_irrefl k), if_pos (Eq.refl k)]
    by_cases hj0 : j = 0
    · rw [if_pos hj0]
      unfold mark
      split
      · exact u8_and_not _
      · rw [show (~~~(255 : UInt8)) = 0 by decide, UInt8.and_zero]
    · rw [if_neg hj0]
      unfold mark
      rw [hit_off _ _ j (by omega) hj, if_neg (by simp)]
      exact u8_and_not _
  · rw [doneP_at _ _ _ _ (by rw [h3]; omega), h4 s x hs hx, ht]
    by_cases hin : k * 1024 + within z 64 * 16 ≤ s * 1024 + x ∧ s * 1024 + x < k * 1024 + within z 64 * 16 + 16
    · have hsk : s = k := by omega
      subst hsk
      obtain ⟨j, hj⟩ : ∃ j, x = within z 64 * 16 + j := ⟨x - within z 64 * 16, by omega⟩
      have hj16 : j < 16 := by omega
      rw [if_pos hin, if_neg (by omega), if_pos rfl, hj, show s * 1024 + (within z 64 * 16 + j) - (s * 1024 + within z 64 * 16) = j by omega, hp0 j hj16]
      unfold mark
      rw [hit_snoc]
      by_cases hj0 : j = 0
      · subst hj0
        rw [if_pos rfl, Nat.add_zero, beq_self_eq_true, Bool.or_true, if_pos rfl]
      · rw [if_neg hj0, hit_off _ _ j (by omega) hj16, beq_eq_false_iff_ne.2 (by omega), Bool.or_false, if_neg (by simp)]
    · rw [if_neg hin]
      by_cases a : s < k
      · rw [if_pos a, if_pos a]
      · rw [if_neg a, if_neg a]
        by_cases b : s = k
        · rw [if_pos b, if_pos b]
          unfold mark
          rw [hit_snoc, beq_eq_false_iff_ne.2 (by omega), Bool.or_false]
        · rw [if_neg b, if_neg b]
/-- behind the erasure -/
def ZInv (zs : List Int) (t : Nat) (f : FlashSt) : Prop :=
  f.dead = false ∧ f.left = 0 ∧ f.S.length = 6144 ∧ ∀ s x, s < 6 → x < 1024 → f.S.getD (s * 1024 + x) 0 = if s = t then 255 else mark s zs x
theorem einv_erase {zs : List Int} {f : FlashSt} {t : Nat} (h : EInv zs 6 0 f) (ht : t < 6) : ∃ f', eraseF f t = (0, f') ∧ ZInv zs t f' := by
  obtain ⟨h1, h2, h3, h4⟩ := h
  refine ⟨_, erase_ok f t h1 h2 ht, rfl, rfl, by rw [doneE_len, h3], fun s x hs hx => ?_⟩
  rw [doneE_at _ _ _ (by rw [h3]; omega), h4 s x hs hx]
  by_cases a : s = t
  · rw [if_pos (by omega), if_pos a]
  · rw [if_neg (by omega), if_neg a, if_pos hs]
theorem zinv_read {zs : List Int} {f : FlashSt} {t s x : Nat} (h : ZInv zs t f) (hs : s < 6) (hx : x < 1024) : (readF f s)[x]? = some (if s = t then 255 else mark s zs x) := by
  obtain ⟨h1, h2, h3, h4⟩ := h
  rw [read_at f s hs h3 x hx, h4 s x hs hx]
theorem zinv_len {zs : List Int} {f : FlashSt} {t s : Nat} (h : ZInv zs t f) (hs : s < 6) : (readF f s).length = 1024 := read_len f s hs h.2.2.1
theorem zinv_last {zs : List Int} {f : FlashSt} {t : Nat} (h : ZInv zs t f) (ht : t < 6) : ∃ f', progF f t 0 [77] = (0, f') ∧ (readF f' t)[0]? = some 77 ∧ (readF f' t).length = 1024 := by
  obtain ⟨h1, h2, h3, h4⟩ := h
  refine ⟨_, prog_ok f t 0 [77] h1 h2 ht (by omega) (by simp) (fits_blank _ _ _ fun j hj => ?_), ?_, read_len _ t ht (by rw [doneP_len, h3])⟩
  · rw [show t * 1024 + 0 * 16 + j = t * 1024 + j by omega, h4 t j ht (by omega), if_pos rfl]
  · rw [read_at _ t ht (by rw [doneP_len, h3]) 0 (by omega), doneP_at _ _ _ _ (by rw [h3]; omega), if_pos (by omega), show t * 1024 + 0 - (t * 1024 + 0 * 16) = 0 by omega, pad_at _ _ (by omega) (by simp)]
    rfl
end Go.Proofs.Ytdomdnmjabadiaa
