/- FlashTorn, plain: what a torn program and a torn erasure leave. -/
import Derived.Test.YtdomdnmjabadiaaFlashKnown
namespace Go.Proofs.Ytdomdnmjabadiaa
open Go.RowKit

theorem layB_zero_all (m : UInt8) : layB m 0 255 = m := by
  unfold layB
  rw [UInt8.zero_and, UInt8.zero_or]
  exact (UInt8.and_comm _ _).trans (u8_and_255 m)
theorem u8_ext {x y : UInt8} (h : ∀ i, x.toBitVec.getLsbD i = y.toBitVec.getLsbD i) : x = y := UInt8.toBitVec_inj.1 (BitVec.eq_of_getLsbD_eq fun i _ => h i)
theorem layB_blank (m x : UInt8) : layB m 255 x = x ||| ~~~m := by
  unfold layB
  rw [show (255 : UInt8) &&& ~~~m = ~~~m from (UInt8.and_comm _ _).trans (u8_and_255 _)]
  apply UInt8.toBitVec_inj.1
  apply BitVec.eq_of_getLsbD_eq
  intro i hi
  simp only [UInt8.toBitVec_or, UInt8.toBitVec_and, UInt8.toBitVec_not, BitVec.getLsbD_or, BitVec.getLsbD_and, BitVec.getLsbD_not]
  have : decide (i < 8) = true := by simpa using hi
  rw [this]
  cases x.toBitVec.getLsbD i <;> cases m.toBitVec.getLsbD i <;> rfl
theorem or_not_self (m : UInt8) : (255 : UInt8) ||| ~~~m = 255 := by
  apply UInt8.toBitVec_inj.1
  apply BitVec.eq_of_getLsbD_eq
  intro i hi
  simp only [UInt8.toBitVec_or, UInt8.toBitVec_not, BitVec.getLsbD_or, BitVec.getLsbD_not]
  have h255 : (255 : UInt8).toBitVec.getLsbD i = true := by
    match i, hi with
    | 0, _ => rfl
    | 1, _ => rfl
    | 2, _ => rfl
    | 3, _ => rfl
    | 4, _ => rfl
    | 5, _ => rfl
    | 6, _ => rfl
    | 7, _ => rfl
  rw [h255]
  rfl
/-- the power goes at this operation -/
theorem spend_last (f : FlashSt) (hl : f.left = 1) : (spendF f).dead = true ∧ (spendF f).mask = f.mask := by
  unfold spendF
  rw [if_pos (by omega)]
  dsimp only
  rw [hl]
  exact ⟨by decide, rfl⟩
theorem torn_prog (f : FlashSt) (k q : Nat) (b : List UInt8) (hd : f.dead = false) (hl : f.left = 1) (hk : k < 6) (hq : q < 64) (hb : b.length ≤ 16) (hS : f.S.length = 6144) (hf : ∀ j, j < 16 → f.S.getD (k * 1024 + q * 16 + j) 0 = 255) :
    ∃ f', progF f k q b = (14, f') ∧ f'.dead = true ∧ f'.S.length = 6144 ∧ ∀ i, i < 6144 → f'.S.getD i 0 = if k * 1024 + q * 16 ≤ i ∧ i < k * 1024 + q * 16 + 16 then (pad b).getD (i - (k * 1024 + q * 16)) 0 ||| ~~~(mByte false f.mask (i - (k * 1024 + q * 16))) else f.S.getD i 0 := by
  obtain ⟨h1, h2⟩ := spend_last f hl
  refine ⟨_, by unfold progF; rw [hd, if_neg (by simp), if_neg (by omega), if_neg (by omega), Int.toNat_natCast, Int.toNat_natCast, fits_blank b _ _ hf, if_neg (by simp), h1, if_pos rfl], ?_, ?_, fun i hi => ?_⟩
  · exact h1
  · show (layS _ _ _ _ _ _).length = 6144
    rw [length_layS, hS]
  · show (layS false f.mask (pad b) (k * 1024 + q * 16) 16 f.S).getD i 0 = _
    rw [layS_getD _ _ _ _ _ _ _ (by rw [hS]; exact hi)]
    by_cases hin : k * 1024 + q * 16 ≤ i ∧ i < k * 1024 + q * 16 + 16
    · have := hf (i - (k * 1024 + q * 16)) (by omega)
      rw [show k * 1024 + q * 16 + (i - (k * 1024 + q * 16)) = i by omega] at this
      rw [if_pos hin, if_pos hin, this, layB_blank]
    · rw [if_neg hin, if_neg hin]
theorem torn_erase (f : FlashSt) (k : Nat) (hd : f.dead = false) (hl : f.left = 1) (hk : k < 6) (hS : f.S.length = 6144) :
    ∃ f', eraseF f k = (14, f') ∧ f'.dead = true ∧ f'.S.length = 6144 ∧ ∀ i, i < 6144 → f'.S.getD i 0 = if k * 1024 ≤ i ∧ i < k * 1024 + 1024 then layB (mByte false f.mask (i - k * 1024)) (f.S.getD i 0) 255 else f.S.getD i 0 := by
  obtain ⟨h1, h2⟩ := spend_last f hl
  have e : eraseF f k = (14, { spendF f with S := layS (!(spendF f).dead) f.mask (List.replicate 1024 255) (k * 1024) 1024 f.S }) := by
    unfold eraseF; rw [hd, if_neg (by simp), if_neg (by omega), Int.toNat_natCast, h1, if_pos rfl]
  have hlen : (layS (!(spendF f).dead) f.mask (List.replicate 1024 255) (k * 1024) 1024 f.S).length = 6144 := by rw [length_layS, hS]
  have hL : ∀ i, i < 6144 → (layS (!(spendF f).dead) f.mask (List.replicate 1024 255) (k * 1024) 1024 f.S).getD i 0 = if k * 1024 ≤ i ∧ i < k * 1024 + 1024 then layB (mByte false f.mask (i - k * 1024)) (f.S.getD i 0) 255 else f.S.getD i 0 := fun i hi => by
    rw [h1, layS_getD _ _ _ _ _ _ _ (by rw [hS]; exact hi)]
    by_cases hin : k * 1024 ≤ i ∧ i < k * 1024 + 1024
    · rw [if_pos hin, if_pos hin, List.getD_eq_getElem?_getD (l := List.replicate 1024 255), List.getElem?_replicate, if_pos (by omega)]
      rfl
    · rw [if_neg hin, if_neg hin]
  generalize layS (!(spendF f).dead) f.mask (List.replicate 1024 255) (k * 1024) 1024 f.S = S' at e hL hlen
  exact ⟨_, e, h1, hlen, hL⟩
/-- what the law wants of byte i of the page -/
def wantT (er : Bool) (b mask : List UInt8) (i : Nat) : UInt8 :=
  if er = true then (if i < 3 then mByte false mask (48 + i) else 255) else (if i < b.length then b.getD i 0 ||| ~~~(mByte false mask i) else 255)

/-- all of FlashTorn's operations -/
structure Torn (er : Bool) (b mask : List UInt8) (f1 f3 f5 : FlashSt) : Prop where
  p1 : progF newF 1 3 [0, 0, 0] = (0, f1)
  p2 : (if er = true then eraseF (stopF f1 1 mask) 1 else progF (stopF f1 1 mask) 1 5 b) = (14, f3)
  dead : f3.dead = true
  len : (readF f3 1).length = 1024
  read : ∀ i, i < 16 → (readF f3 1)[(if er = true then 48 else 80) + i]? = some (wantT er b mask i)
  again : eraseF (startF f3) 1 = (0, f5)
  last : (readF f5 1)[48]? = some 255
  len5 : (readF f5 1).length = 1024
theorem torn_ex (er : Bool) (b mask : List UInt8) (hb : b.length ≤ 16) : ∃ f1 f3 f5, Torn er b mask f1 f3 f5 := by
  have hp1 : progF newF 1 3 [0, 0, 0] = (0, doneP newF (1 * 1024 + 3 * 16) [0, 0, 0]) := prog_ok newF 1 3 [0, 0, 0] rfl rfl (by omega) (by omega) (by simp) (fits_blank _ _ _ fun j hj => newF_at _ (by omega))
  have hl1 : (doneP newF (1 * 1024 + 3 * 16) [0, 0, 0]).S.length = 6144 := by rw [doneP_len, newF_len]
  have hs1 : ∀ i, i < 6144 → (doneP newF (1 * 1024 + 3 * 16) [0, 0, 0]).S.getD i 0 = if 1072 ≤ i ∧ i < 1075 then 0 else 255 := fun i hi => by
    rw [doneP_at _ _ _ _ (by rw [newF_len]; exact hi), newF_at _ hi]
    by_cases h : 1 * 1024 + 3 * 16 ≤ i ∧ i < 1 * 1024 + 3 * 16 + 16
    · rw [if_pos h, pad_at _ _ (by omega) (by simp)]
      by_cases h2 : i < 1075
      · rw [if_pos (by simp; omega), if_pos (by omega)]
        have : i - (1 * 1024 + 3 * 16) = 0 ∨ i - (1 * 1024 + 3 * 16) = 1 ∨ i - (1 * 1024 + 3 * 16) = 2 := by omega
        rcases this with e | e | e <;> rw [e] <;> rfl
      · rw [if_neg (by simp; omega), if_neg (by omega)]
    · rw [if_neg h, if_neg (by omega)]
  have hd1 : (doneP newF (1 * 1024 + 3 * 16) [0, 0, 0]).dead = false := rfl
  generalize doneP newF (1 * 1024 + 3 * 16) [0, 0, 0] = f1 at hp1 hl1 hs1 hd1
  have key : ∀ f3 : FlashSt, f3.S.length = 6144 → ∃ f5, eraseF (startF f3) 1 = (0, f5) ∧ (readF f5 1)[48]? = some 255 ∧ (readF f5 1).length = 1024 := fun f3 h3 => by
    refine ⟨_, erase_ok (startF f3) 1 rfl rfl (by omega), ?_, read_len _ 1 (by omega) (by rw [doneE_len]; exact h3)⟩
    have := read_at (doneE (startF f3) 1) 1 (by omega) (by rw [doneE_len]; exact h3) 48 (by omega)
    rw [doneE_at _ _ _ (by show _ < f3.S.length; rw [h3]; omega), if_pos (by omega)] at this
    exact this
  cases er
  · obtain ⟨f3, e1, e2, e3, e4⟩ := torn_prog (stopF f1 1 mask) 1 5 b hd1 (show max (1 : Int) 0 = 1 by decide) (by omega) (by omega) hb hl1 (fun j hj => by
      show f1.S.getD _ 0 = 255
      rw [hs1 _ (by omega), if_neg (by omega)])
    obtain ⟨f5, k1, k2, k3⟩ := key f3 e3
    refine ⟨f1, f3, f5, hp1, by rw [if_neg (by simp)]; exact e1, e2, read_len f3 1 (by omega) e3, fun i hi => ?_, k1, k2, k3⟩
    have := read_at f3 1 (by omega) e3 (80 + i) (by omega)
    rw [if_neg (by simp)]
    rw [e4 _ (by omega), if_pos (by omega), show 1 * 1024 + (80 + i) - (1 * 1024 + 5 * 16) = i by omega, pad_at _ _ hi hb] at this
    refine this.trans ?_
    unfold wantT
    rw [if_neg (show ¬ (false = true) by simp)]
    by_cases h : i < b.length
    · rw [if_pos h, if_pos h]; rfl
    · rw [if_neg h, if_neg h, or_not_self]
  · obtain ⟨f3, e1, e2, e3, e4⟩ := torn_erase (stopF f1 1 mask) 1 hd1 (show max (1 : Int) 0 = 1 by decide) (by omega) hl1
    obtain ⟨f5, k1, k2, k3⟩ := key f3 e3
    refine ⟨f1, f3, f5, hp1, by rw [if_pos rfl]; exact e1, e2, read_len f3 1 (by omega) e3, fun i hi => ?_, k1, k2, k3⟩
    have := read_at f3 1 (by omega) e3 (48 + i) (by omega)
    rw [if_pos rfl]
    rw [e4 _ (by omega), if_pos (by omega), show 1 * 1024 + (48 + i) - 1 * 1024 = 48 + i by omega] at this
    refine this.trans ?_
    have hs : (stopF f1 1 mask).S.getD (1 * 1024 + (48 + i)) 0 = if i < 3 then 0 else 255 := by
      show f1.S.getD _ 0 = _
      rw [hs1 _ (by omega)]
      by_cases h : i < 3
      · rw [if_pos (by omega), if_pos h]
      · rw [if_neg (by omega), if_neg h]
    rw [hs]
    unfold wantT
    rw [if_pos (show true = true from rfl)]
    by_cases h : i < 3
    · rw [if_pos h, if_pos h, layB_zero_all]; rfl
    · rw [if_neg h, if_neg h, layB_blank, or_not_self]
end Go.Proofs.Ytdomdnmjabadiaa
