/- Records, plain: a sector whose one record is spoilt: what stands ahead is told, nothing behind. No program in sight. FlashTorn, plain: what a torn program and a torn erasure leave. -/
import Derived.Test.YtcpifcdndhhmgaaRecLaws
import Derived.Test.YtcpifcdndhhmgaaSealPlain
set_option linter.unusedVariables false
set_option linter.unusedSimpArgs false
namespace Go.Proofs.Ytcpifcdndhhmgaa
open Go.RowKit

/-- the page of a record with one byte of it another -/
def spoilP (l : List UInt8) (j : Nat) (y : UInt8) : List UInt8 := (recP l).set j y
def recN (n : Nat) : List (List UInt8) := (List.range n).map fun k => [255, u8n k, 255]
def recK (t : Nat) : List UInt8 := [255, u8n t, 255]
end Go.Proofs.Ytcpifcdndhhmgaa
set_option linter.unusedVariables false
set_option linter.unusedSimpArgs false
namespace Go.Proofs.Ytcpifcdndhhmgaa
open Go.RowKit

theorem layB_blank (m x : UInt8) : layB m 255 x = x ||| ~~~m := by
  unfold layB
  rw [show (255 : UInt8) &&& ~~~m = ~~~m from (UInt8.and_comm _ _).trans (u8_and_255 _)]
  apply UInt8.toBitVec_inj.1
  apply BitVec.eq_of_getLsbD_eq
  intro i hi
  simp only [UInt8.toBitVec_or, UInt8.toBitVec_and, UInt8.toBitVec_not, BitVec.getLsbD_or, BitVec.getLsbD_and, BitVec.getLsbD_not]
  have : decide (i < 8) = true := by simpa using hi
  rw [this]
  cases x.toBitVec.getLsbD i <;> cases m.toBitVec.getLsbD i <;> rfl
/-- the power goes at this operation -/
theorem spend_last (f : FlashSt) (hl : f.left = 1) : (spendF f).dead = true ∧ (spendF f).mask = f.mask := by
  unfold spendF
  rw [if_pos (by omega)]
  dsimp only
  rw [hl]
  exact ⟨by decide, rfl⟩
theorem torn_prog (f : FlashSt) (k q : Nat) (b : List UInt8) (hd : f.dead = false) (hl : f.left = 1) (hk : k < 6) (hq : q < 64) (hb : b.length ≤ 16) (hS : f.S.length = 6144) (hf : ∀ j, j < 16 → f.S.getD (k * 1024 + q * 16 + j) 0 = 255) :
    ∃ f', progF f k q b = (14, f') ∧ f'.dead = true ∧ f'.S.length = 6144 ∧ ∀ i, i < 6144 → f'.S.getD i 0 = if k * 1024 + q * 16 ≤ i ∧ i < k * 1024 + q * 16 + 16 then (pad b).getD (i - (k * 1024 + q * 16)) 0 ||| ~~~(mByte false f.mask (i - (k * 1024 + q * 16))) else f.S.getD i 0 := by
  obtain ⟨h1, h2⟩ := spend_last f hl
  refine ⟨_, by unfold progF; rw [hd, if_neg (by simp), if_neg (by omega), if_neg (by omega), Int.toNat_natCast, Int.toNat_natCast, fits_blank b _ _ hf, if_neg (by simp), h1, if_pos rfl], ?_, ?_, fun i hi => ?_⟩
  · exact h1
  · show (layS _ _ _ _ _ _).length = 6144
    rw [length_layS, hS]
  · show (layS false f.mask (pad b) (k * 1024 + q * 16) 16 f.S).getD i 0 = _
    rw [layS_getD _ _ _ _ _ _ _ (by rw [hS]; exact hi)]
    by_cases hin : k * 1024 + q * 16 ≤ i ∧ i < k * 1024 + q * 16 + 16
    · have := hf (i - (k * 1024 + q * 16)) (by omega)
      rw [show k * 1024 + q * 16 + (i - (k * 1024 + q * 16)) = i by omega] at this
      rw [if_pos hin, if_pos hin, this, layB_blank]
    · rw [if_neg hin, if_neg hin]
theorem torn_erase (f : FlashSt) (k : Nat) (hd : f.dead = false) (hl : f.left = 1) (hk : k < 6) (hS : f.S.length = 6144) :
    ∃ f', eraseF f k = (14, f') ∧ f'.dead = true ∧ f'.S.length = 6144 ∧ ∀ i, i < 6144 → f'.S.getD i 0 = if k * 1024 ≤ i ∧ i < k * 1024 + 1024 then layB (mByte false f.mask (i - k * 1024)) (f.S.getD i 0) 255 else f.S.getD i 0 := by
  obtain ⟨h1, h2⟩ := spend_last f hl
  have e : eraseF f k = (14, { spendF f with S := layS (!(spendF f).dead) f.mask (List.replicate 1024 255) (k * 1024) 1024 f.S }) := by
    unfold eraseF; rw [hd, if_neg (by simp), if_neg (by omega), Int.toNat_natCast, h1, if_pos rfl]
  have hlen : (layS (!(spendF f).dead) f.mask (List.replicate 1024 255) (k * 1024) 1024 f.S).length = 6144 := by rw [length_layS, hS]
  have hL : ∀ i, i < 6144 → (layS (!(spendF f).dead) f.mask (List.replicate 1024 255) (k * 1024) 1024 f.S).getD i 0 = if k * 1024 ≤ i ∧ i < k * 1024 + 1024 then layB (mByte false f.mask (i - k * 1024)) (f.S.getD i 0) 255 else f.S.getD i 0 := fun i hi => by
    rw [h1, layS_getD _ _ _ _ _ _ _ (by rw [hS]; exact hi)]
    by_cases hin : k * 1024 ≤ i ∧ i < k * 1024 + 1024
    · rw [if_pos hin, if_pos hin, List.getD_eq_getElem?_getD (l := List.replicate 1024 255), List.getElem?_replicate, if_pos (by omega)]
      rfl
    · rw [if_neg hin, if_neg hin]
  generalize layS (!(spendF f).dead) f.mask (List.replicate 1024 255) (k * 1024) 1024 f.S = S' at e hL hlen
  exact ⟨_, e, h1, hlen, hL⟩
end Go.Proofs.Ytcpifcdndhhmgaa
