/- The flash memory, plain: a program and an erasure while the power stays. -/
import Derived.Test.YtblidiecahpekaaFlashPlain
set_option linter.unusedVariables false
set_option linter.unusedSimpArgs false
namespace Go.Proofs.Ytblidiecahpekaa
open Go.RowKit

theorem spend_live (f : FlashSt) (hl : f.left = 0) : spendF f = { f with done := wrap64 (f.done + 1) } := by unfold spendF; rw [if_neg (by omega)]
theorem lay_whole (mask tb : List UInt8) (off n : Nat) (S : List UInt8) (i : Nat) (hi : i < S.length) :
    (layS true mask tb off n S).getD i 0 = if off ≤ i ∧ i < off + n then tb.getD (i - off) 0 else S.getD i 0 := by
  rw [layS_getD _ _ _ _ _ _ _ hi]
  have : mByte true mask (i - off) = 255 := rfl
  rw [this, layB_all]
theorem fits_iff (b : List UInt8) (off : Nat) (S : List UInt8) (n : Nat) : fits b off S n = true ↔ ∀ k, k < n → (pad b).getD k 0 &&& ~~~(S.getD (off + k) 0) = 0 := by
  induction n with
  | zero => exact ⟨fun _ k hk => absurd hk (by omega), fun _ => rfl⟩
  | succ n ih =>
    simp only [fits, Bool.and_eq_true, beq_iff_eq, ih]
    constructor
    · rintro ⟨h1, h2⟩ k hk
      by_cases he : k = n
      · rw [he]; exact h2
      · exact h1 k (by omega)
    · intro h
      exact ⟨fun k hk => h k (by omega), h n (by omega)⟩
/-- the state behind a program that is done whole -/
def doneP (f : FlashSt) (off : Nat) (b : List UInt8) : FlashSt := ⟨0, wrap64 (f.done + 1), f.mask, false, layS true f.mask (pad b) off 16 f.S⟩
def doneE (f : FlashSt) (k : Nat) : FlashSt := ⟨0, wrap64 (f.done + 1), f.mask, false, layS true f.mask (List.replicate 1024 255) (k * 1024) 1024 f.S⟩
theorem prog_ok (f : FlashSt) (k q : Nat) (b : List UInt8) (hd : f.dead = false) (hl : f.left = 0) (hk : k < 6) (hq : q < 64) (hb : b.length ≤ 16) (hf : fits b (k * 1024 + q * 16) f.S 16 = true) :
    progF f k q b = (0, doneP f (k * 1024 + q * 16) b) := by
  unfold progF
  rw [hd, if_neg (by simp), if_neg (by omega), if_neg (by omega), Int.toNat_natCast, Int.toNat_natCast, hf, if_neg (by simp), spend_live f hl]
  dsimp only
  rw [hd, hl, if_neg (by simp)]
  rfl
theorem prog_set (f : FlashSt) (k q : Nat) (b : List UInt8) (hd : f.dead = false) (hk : k < 6) (hq : q < 64) (hb : b.length ≤ 16) (hf : fits b (k * 1024 + q * 16) f.S 16 = false) : progF f k q b = (13, f) := by
  unfold progF
  rw [hd, if_neg (by simp), if_neg (by omega), if_neg (by omega), Int.toNat_natCast, Int.toNat_natCast, hf, if_pos rfl]
theorem prog_addr (f : FlashSt) (s p : Int) (b : List UInt8) (hd : f.dead = false) (h : s < 0 ∨ 6 ≤ s ∨ p < 0 ∨ 64 ≤ p) : progF f s p b = (12, f) := by
  unfold progF; rw [hd, if_neg (by simp), if_pos h]
theorem prog_long (f : FlashSt) (s p : Int) (b : List UInt8) (hd : f.dead = false) (h : ¬ (s < 0 ∨ 6 ≤ s ∨ p < 0 ∨ 64 ≤ p)) (hb : 16 < b.length) : progF f s p b = (5, f) := by
  unfold progF; rw [hd, if_neg (by simp), if_neg h, if_pos hb]
theorem prog_dead (f : FlashSt) (s p : Int) (b : List UInt8) (hd : f.dead = true) : progF f s p b = (14, f) := by unfold progF; rw [if_pos hd]
theorem erase_ok (f : FlashSt) (k : Nat) (hd : f.dead = false) (hl : f.left = 0) (hk : k < 6) : eraseF f k = (0, doneE f k) := by
  unfold eraseF
  rw [hd, if_neg (by simp), if_neg (by omega), Int.toNat_natCast, spend_live f hl]
  dsimp only
  rw [hd, hl, if_neg (by simp)]
  rfl
theorem erase_addr (f : FlashSt) (s : Int) (hd : f.dead = false) (h : s < 0 ∨ 6 ≤ s) : eraseF f s = (12, f) := by
  unfold eraseF; rw [hd, if_neg (by simp), if_pos h]
theorem erase_dead (f : FlashSt) (s : Int) (hd : f.dead = true) : eraseF f s = (14, f) := by unfold eraseF; rw [if_pos hd]
theorem doneP_at (f : FlashSt) (off : Nat) (b : List UInt8) (i : Nat) (hi : i < f.S.length) : (doneP f off b).S.getD i 0 = if off ≤ i ∧ i < off + 16 then (pad b).getD (i - off) 0 else f.S.getD i 0 := lay_whole _ _ _ _ _ _ hi
theorem doneE_at (f : FlashSt) (k : Nat) (i : Nat) (hi : i < f.S.length) : (doneE f k).S.getD i 0 = if k * 1024 ≤ i ∧ i < k * 1024 + 1024 then 255 else f.S.getD i 0 := by
  have := lay_whole f.mask (List.replicate 1024 255) (k * 1024) 1024 f.S i hi
  unfold doneE
  dsimp only
  rw [this]
  by_cases h : k * 1024 ≤ i ∧ i < k * 1024 + 1024
  · rw [if_pos h, if_pos h, List.getD_eq_getElem?_getD, List.getElem?_replicate, if_pos (by omega)]; rfl
  · rw [if_neg h, if_neg h]
theorem doneP_len (f : FlashSt) (off : Nat) (b : List UInt8) : (doneP f off b).S.length = f.S.length := by unfold doneP; dsimp only; rw [length_layS]
theorem doneE_len (f : FlashSt) (k : Nat) : (doneE f k).S.length = f.S.length := by unfold doneE; dsimp only; rw [length_layS]
theorem newF_len : newF.S.length = 6144 := by
  show (List.replicate 6144 (255 : UInt8)).length = 6144
  rw [List.length_replicate]
theorem newF_at (i : Nat) (hi : i < 6144) : newF.S.getD i 0 = 255 := by
  unfold newF
  dsimp only
  rw [List.getD_eq_getElem?_getD, List.getElem?_replicate, if_pos hi]
  rfl
theorem read_len (f : FlashSt) (k : Nat) (hk : k < 6) (hS : f.S.length = 6144) : (readF f k).length = 1024 := by
  unfold readF; rw [if_neg (by omega), List.length_take, List.length_drop, hS, Int.toNat_natCast]; omega
theorem read_at (f : FlashSt) (k : Nat) (hk : k < 6) (hS : f.S.length = 6144) (i : Nat) (hi : i < 1024) : (readF f k)[i]? = some (f.S.getD (k * 1024 + i) 0) := by
  unfold readF
  rw [if_neg (by omega), Int.toNat_natCast, List.getElem?_take, if_pos hi, List.getElem?_drop, List.getElem?_eq_getElem (by omega), List.getD_eq_getElem?_getD, List.getElem?_eq_getElem (by omega)]
  rfl
theorem pad_at (b : List UInt8) (k : Nat) (hk : k < 16) (hb : b.length ≤ 16) : (pad b).getD k 0 = if k < b.length then b.getD k 0 else 255 := by
  unfold pad
  rw [List.getD_eq_getElem?_getD]
  by_cases h : k < b.length
  · rw [if_pos h, List.getElem?_append_left h, List.getD_eq_getElem?_getD]
  · rw [if_neg h, List.getElem?_append_right (by omega), List.getElem?_replicate, if_pos (by omega)]; rfl
theorem fits_blank (b : List UInt8) (off : Nat) (S : List UInt8) (h : ∀ k, k < 16 → S.getD (off + k) 0 = 255) : fits b off S 16 = true := by
  rw [fits_iff]
  intro k hk
  rw [h k hk, show (~~~(255 : UInt8)) = 0 by decide, UInt8.and_zero]
end Go.Proofs.Ytblidiecahpekaa
