/- The flash memory, plain: what each of its operations makes of its bytes; no program in sight. The flash memory, plain: a program and an erasure while the power stays. The check sum as plain mathematics: its step is linear and loses nothing. No program in sight. -/
import Derived.Test.YtkncomkncfcecaaLib
set_option linter.unusedVariables false
set_option linter.unusedSimpArgs false
namespace Go.Proofs.Ytkncomkncfcecaa
open Go.RowKit

/-- a memory's state: operations till the power goes (0: it will not), operations done, what is done of that one, whether the power is gone, the sectors' bytes -/
structure FlashSt where
  left : Int
  done : Int
  mask : List UInt8
  dead : Bool
  S : List UInt8

def spendF (f : FlashSt) : FlashSt :=
  if 0 < f.left then { f with done := wrap64 (f.done + 1), left := f.left - 1, dead := f.left - 1 == 0 } else { f with done := wrap64 (f.done + 1) }
theorem spendF_S (f : FlashSt) : (spendF f).S = f.S := by unfold spendF; split <;> rfl
theorem spendF_mask (f : FlashSt) : (spendF f).mask = f.mask := by unfold spendF; split <;> rfl

/-- which bits are done of byte i -/
def mByte (whole : Bool) (mask : List UInt8) (i : Nat) : UInt8 := if whole = true then 255 else if mask.length = 0 then 0 else mask.getD (i % mask.length) 0
def layB (m old to : UInt8) : UInt8 := (old &&& ~~~m) ||| (to &&& m)
/-- n bytes are laid on what stands at 'off' -/
def layS (whole : Bool) (mask to : List UInt8) (off : Nat) : Nat → List UInt8 → List UInt8
  | 0, S => S
  | k + 1, S => (layS whole mask to off k S).set (off + k) (layB (mByte whole mask k) ((layS whole mask to off k S).getD (off + k) 0) (to.getD k 0))
theorem length_layS (whole : Bool) (mask to : List UInt8) (off n : Nat) (S : List UInt8) : (layS whole mask to off n S).length = S.length := by
  induction n with
  | zero => rfl
  | succ k ih => simp [layS, ih]
theorem layS_at (whole : Bool) (mask to : List UInt8) (off n : Nat) (S : List UInt8) (i : Nat) (hi : i < S.length) :
    (layS whole mask to off n S)[i]? = some (if off ≤ i ∧ i < off + n then layB (mByte whole mask (i - off)) (S.getD i 0) (to.getD (i - off) 0) else S.getD i 0) := by
  induction n with
  | zero => rw [if_neg (by omega)]; simp [layS, hi]
  | succ k ih =>
    simp only [layS]
    by_cases he : off + k = i
    · subst he
      rw [List.getElem?_set_self (by rw [length_layS]; exact hi), if_pos (by omega), show off + k - off = k by omega]
      have h2 : (layS whole mask to off k S).getD (off + k) 0 = S.getD (off + k) 0 := by
        rw [List.getD_eq_getElem?_getD, ih, if_neg (by omega)]; rfl
      rw [h2]
    · rw [List.getElem?_set_ne he, ih]
      congr 1
      by_cases h1 : off ≤ i ∧ i < off + k
      · rw [if_pos h1, if_pos (by omega)]
      · rw [if_neg h1, if_neg (by omega)]
theorem layS_getD (whole : Bool) (mask to : List UInt8) (off n : Nat) (S : List UInt8) (i : Nat) (hi : i < S.length) :
    (layS whole mask to off n S).getD i 0 = if off ≤ i ∧ i < off + n then layB (mByte whole mask (i - off)) (S.getD i 0) (to.getD (i - off) 0) else S.getD i 0 := by
  rw [List.getD_eq_getElem?_getD, layS_at _ _ _ _ _ _ _ hi]; rfl
theorem u8_and_255 (x : UInt8) : x &&& 255 = x := by
  apply UInt8.toNat_inj.1
  rw [UInt8.toNat_and]
  exact Nat.and_two_pow_sub_one_of_lt_two_pow (n := 8) (byte_lt x)
theorem layB_all (old to : UInt8) : layB 255 old to = to := by
  unfold layB
  have h1 : (~~~(255 : UInt8)) = 0 := by decide
  rw [h1, UInt8.and_zero, UInt8.zero_or]
  exact u8_and_255 to
theorem layB_none (old to : UInt8) : layB 0 old to = old := by
  unfold layB
  have h1 : (~~~(0 : UInt8)) = 255 := by decide
  rw [h1, UInt8.and_zero, UInt8.or_zero]
  exact u8_and_255 old

/-! ### a program and an erasure -/
/-- bytes, filled with blanks up to a page -/
def pad (b : List UInt8) : List UInt8 := b ++ List.replicate (16 - b.length) 255
theorem length_pad (b : List UInt8) (h : b.length ≤ 16) : (pad b).length = 16 := by simp [pad]; omega
/-- whether a page's bytes can be set -/
def fits (b : List UInt8) (off : Nat) (S : List UInt8) : Nat → Bool
  | 0 => true
  | k + 1 => fits b off S k && (((pad b).getD k 0 &&& ~~~(S.getD (off + k) 0)) == 0)
theorem fits_mono (b : List UInt8) (off : Nat) (S : List UInt8) {k m : Nat} (hk : k ≤ m) (h : fits b off S k = false) : fits b off S m = false := by
  induction m with
  | zero => rw [show k = 0 by omega] at h; exact h
  | succ m ih =>
    by_cases he : k = m + 1
    · rw [← he]; exact h
    · unfold fits; rw [ih (by omega)]; rfl
def progF (f : FlashSt) (s p : Int) (b : List UInt8) : Int × FlashSt :=
  if f.dead = true then (14, f)
  else if s < 0 ∨ 6 ≤ s ∨ p < 0 ∨ 64 ≤ p then (12, f)
  else if 16 < b.length then (5, f)
  else if fits b (s.toNat * 1024 + p.toNat * 16) f.S 16 = false then (13, f)
  else (if (spendF f).dead = true then 14 else 0, { spendF f with S := layS (!(spendF f).dead) f.mask (pad b) (s.toNat * 1024 + p.toNat * 16) 16 f.S })
def eraseF (f : FlashSt) (s : Int) : Int × FlashSt :=
  if f.dead = true then (14, f)
  else if s < 0 ∨ 6 ≤ s then (12, f)
  else (if (spendF f).dead = true then 14 else 0, { spendF f with S := layS (!(spendF f).dead) f.mask (List.replicate 1024 255) (s.toNat * 1024) 1024 f.S })
def readF (f : FlashSt) (s : Int) : List UInt8 := if s < 0 ∨ 6 ≤ s then [] else (f.S.drop (s.toNat * 1024)).take 1024
def newF : FlashSt := ⟨0, 0, [], false, List.replicate 6144 255⟩
def stopF (f : FlashSt) (n : Int) (m : List UInt8) : FlashSt := { f with left := max n 0, mask := m }
def startF (f : FlashSt) : FlashSt := { f with left := 0, mask := [], dead := false }

/-! ### bytes' operations -/
theorem u8n_and (a b : UInt8) : bits .and .u8 (a.toNat : Int) (b.toNat : Int) = ((a &&& b).toNat : Int) := by
  rw [u8_and_nat _ _ (byte_lt a) (byte_lt b), UInt8.toNat_and]
theorem u8n_or (a b : UInt8) : bits .or .u8 (a.toNat : Int) (b.toNat : Int) = ((a ||| b).toNat : Int) := by
  rw [u8_or_nat _ _ (byte_lt a) (byte_lt b), UInt8.toNat_or]
theorem u8n_andNot (a b : UInt8) : bits .andNot .u8 (a.toNat : Int) (b.toNat : Int) = ((a &&& ~~~b).toNat : Int) := by
  rw [u8_andNot_nat _ _ (byte_lt a) (byte_lt b), UInt8.toNat_and]
  congr 2
  rw [UInt8.toNat_not]
  rfl
theorem u8_zero (x : UInt8) : ((x.toNat : Int) != 0) = !(x == 0) := by
  by_cases h : x = 0
  · subst h; rfl
  · have : x.toNat ≠ 0 := fun e => h (UInt8.toNat_inj.1 e)
    rw [beq_eq_false_iff_ne.2 h]
    simp only [Bool.not_false, bne_iff_ne, ne_eq]
    omega
end Go.Proofs.Ytkncomkncfcecaa
set_option linter.unusedVariables false
set_option linter.unusedSimpArgs false
namespace Go.Proofs.Ytkncomkncfcecaa
open Go.RowKit

theorem spend_live (f : FlashSt) (hl : f.left = 0) : spendF f = { f with done := wrap64 (f.done + 1) } := by unfold spendF; rw [if_neg (by omega)]
theorem lay_whole (mask tb : List UInt8) (off n : Nat) (S : List UInt8) (i : Nat) (hi : i < S.length) :
    (layS true mask tb off n S).getD i 0 = if off ≤ i ∧ i < off + n then tb.getD (i - off) 0 else S.getD i 0 := by
  rw [layS_getD _ _ _ _ _ _ _ hi]
  have : mByte true mask (i - off) = 255 := rfl
  rw [this, layB_all]
theorem fits_iff (b : List UInt8) (off : Nat) (S : List UInt8) (n : Nat) : fits b off S n = true ↔ ∀ k, k < n → (pad b).getD k 0 &&& ~~~(S.getD (off + k) 0) = 0 := by
  induction n with
  | zero => exact ⟨fun _ k hk => absurd hk (by omega), fun _ => rfl⟩
  | succ n ih =>
    simp only [fits, Bool.and_eq_true, beq_iff_eq, ih]
    constructor
    · rintro ⟨h1, h2⟩ k hk
      by_cases he : k = n
      · rw [he]; exact h2
      · exact h1 k (by omega)
    · intro h
      exact ⟨fun k hk => h k (by omega), h n (by omega)⟩
/-- the state behind a program that is done whole -/
def doneP (f : FlashSt) (off : Nat) (b : List UInt8) : FlashSt := ⟨0, wrap64 (f.done + 1), f.mask, false, layS true f.mask (pad b) off 16 f.S⟩
def doneE (f : FlashSt) (k : Nat) : FlashSt := ⟨0, wrap64 (f.done + 1), f.mask, false, layS true f.mask (List.replicate 1024 255) (k * 1024) 1024 f.S⟩
theorem prog_ok (f : FlashSt) (k q : Nat) (b : List UInt8) (hd : f.dead = false) (hl : f.left = 0) (hk : k < 6) (hq : q < 64) (hb : b.length ≤ 16) (hf : fits b (k * 1024 + q * 16) f.S 16 = true) :
    progF f k q b = (0, doneP f (k * 1024 + q * 16) b) := by
  unfold progF
  rw [hd, if_neg (by simp), if_neg (by omega), if_neg (by omega), Int.toNat_natCast, Int.toNat_natCast, hf, if_neg (by simp), spend_live f hl]
  dsimp only
  rw [hd, hl, if_neg (by simp)]
  rfl
theorem prog_set (f : FlashSt) (k q : Nat) (b : List UInt8) (hd : f.dead = false) (hk : k < 6) (hq : q < 64) (hb : b.length ≤ 16) (hf : fits b (k * 1024 + q * 16) f.S 16 = false) : progF f k q b = (13, f) := by
  unfold progF
  rw [hd, if_neg (by simp), if_neg (by omega), if_neg (by omega), Int.toNat_natCast, Int.toNat_natCast, hf, if_pos rfl]
theorem prog_addr (f : FlashSt) (s p : Int) (b : List UInt8) (hd : f.dead = false) (h : s < 0 ∨ 6 ≤ s ∨ p < 0 ∨ 64 ≤ p) : progF f s p b = (12, f) := by
  unfold progF; rw [hd, if_neg (by simp), if_pos h]
theorem prog_long (f : FlashSt) (s p : Int) (b : List UInt8) (hd : f.dead = false) (h : ¬ (s < 0 ∨ 6 ≤ s ∨ p < 0 ∨ 64 ≤ p)) (hb : 16 < b.length) : progF f s p b = (5, f) := by
  unfold progF; rw [hd, if_neg (by simp), if_neg h, if_pos hb]
theorem prog_dead (f : FlashSt) (s p : Int) (b : List UInt8) (hd : f.dead = true) : progF f s p b = (14, f) := by unfold progF; rw [if_pos hd]
theorem erase_ok (f : FlashSt) (k : Nat) (hd : f.dead = false) (hl : f.left = 0) (hk : k < 6) : eraseF f k = (0, doneE f k) := by
  unfold eraseF
  rw [hd, if_neg (by simp), if_neg (by omega), Int.toNat_natCast, spend_live f hl]
  dsimp only
  rw [hd, hl, if_neg (by simp)]
  rfl
theorem erase_addr (f : FlashSt) (s : Int) (hd : f.dead = false) (h : s < 0 ∨ 6 ≤ s) : eraseF f s = (12, f) := by
  unfold eraseF; rw [hd, if_neg (by simp), if_pos h]
theorem erase_dead (f : FlashSt) (s : Int) (hd : f.dead = true) : eraseF f s = (14, f) := by unfold eraseF; rw [if_pos hd]
theorem doneP_at (f : FlashSt) (off : Nat) (b : List UInt8) (i : Nat) (hi : i < f.S.length) : (doneP f off b).S.getD i 0 = if off ≤ i ∧ i < off + 16 then (pad b).getD (i - off) 0 else f.S.getD i 0 := lay_whole _ _ _ _ _ _ hi
theorem doneE_at (f : FlashSt) (k : Nat) (i : Nat) (hi : i < f.S.length) : (doneE f k).S.getD i 0 = if k * 1024 ≤ i ∧ i < k * 1024 + 1024 then 255 else f.S.getD i 0 := by
  have := lay_whole f.mask (List.replicate 1024 255) (k * 1024) 1024 f.S i hi
  unfold doneE
  dsimp only
  rw [this]
  by_cases h : k * 1024 ≤ i ∧ i < k * 1024 + 1024
  · rw [if_pos h, if_pos h, List.getD_eq_getElem?_getD, List.getElem?_replicate, if_pos (by omega)]; rfl
  · rw [if_neg h, if_neg h]
theorem doneP_len (f : FlashSt) (off : Nat) (b : List UInt8) : (doneP f off b).S.length = f.S.length := by unfold doneP; dsimp only; rw [length_layS]
theorem doneE_len (f : FlashSt) (k : Nat) : (doneE f k).S.length = f.S.length := by unfold doneE; dsimp only; rw [length_layS]
theorem newF_len : newF.S.length = 6144 := by
  show (List.replicate 6144 (255 : UInt8)).length = 6144
  rw [List.length_replicate]
theorem newF_at (i : Nat) (hi : i < 6144) : newF.S.getD i 0 = 255 := by
  unfold newF
  dsimp only
  rw [List.getD_eq_getElem?_getD, List.getElem?_replicate, if_pos hi]
  rfl
theorem read_len (f : FlashSt) (k : Nat) (hk : k < 6) (hS : f.S.length = 6144) : (readF f k).length = 1024 := by
  unfold readF; rw [if_neg (by omega), List.length_take, List.length_drop, hS, Int.toNat_natCast]; omega
theorem read_at (f : FlashSt) (k : Nat) (hk : k < 6) (hS : f.S.length = 6144) (i : Nat) (hi : i < 1024) : (readF f k)[i]? = some (f.S.getD (k * 1024 + i) 0) := by
  unfold readF
  rw [if_neg (by omega), Int.toNat_natCast, List.getElem?_take, if_pos hi, List.getElem?_drop, List.getElem?_eq_getElem (by omega), List.getD_eq_getElem?_getD, List.getElem?_eq_getElem (by omega)]
  rfl
theorem pad_at (b : List UInt8) (k : Nat) (hk : k < 16) (hb : b.length ≤ 16) : (pad b).getD k 0 = if k < b.length then b.getD k 0 else 255 := by
  unfold pad
  rw [List.getD_eq_getElem?_getD]
  by_cases h : k < b.length
  · rw [if_pos h, List.getElem?_append_left h, List.getD_eq_getElem?_getD]
  · rw [if_neg h, List.getElem?_append_right (by omega), List.getElem?_replicate, if_pos (by omega)]; rfl
theorem fits_blank (b : List UInt8) (off : Nat) (S : List UInt8) (h : ∀ k, k < 16 → S.getD (off + k) 0 = 255) : fits b off S 16 = true := by
  rw [fits_iff]
  intro k hk
  rw [h k hk, show (~~~(255 : UInt8)) = 0 by decide, UInt8.and_zero]
end Go.Proofs.Ytkncomkncfcecaa
set_option linter.unusedVariables false
set_option linter.unusedSimpArgs false
namespace Go.Proofs.Ytkncomkncfcecaa

/-- a bit's step -/
def crcBit (c : BitVec 32) : BitVec 32 := (c >>> 1) ^^^ (if c.getLsbD 0 then 0xEDB88320#32 else 0#32)
def crcByte (c : BitVec 32) (x : UInt8) : BitVec 32 := Nat.repeat crcBit 8 (c ^^^ x.toBitVec.setWidth 32)
def crcOn (c : BitVec 32) (l : List UInt8) : BitVec 32 := l.foldl crcByte c
def crc (l : List UInt8) : BitVec 32 := ~~~ (crcOn 0xFFFFFFFF#32 l)

theorem crcOn_append (c : BitVec 32) (l m : List UInt8) : crcOn c (l ++ m) = crcOn (crcOn c l) m := by simp [crcOn]
theorem crcOn_snoc (c : BitVec 32) (l : List UInt8) (x : UInt8) : crcOn c (l ++ [x]) = crcByte (crcOn c l) x := by simp [crcOn]
theorem crcOn_cons (c : BitVec 32) (l : List UInt8) (x : UInt8) : crcOn c (x :: l) = crcOn (crcByte c x) l := rfl
theorem crcOn_nil (c : BitVec 32) : crcOn c [] = c := rfl

theorem repeat_succ' {α : Type} (f : α → α) (n : Nat) (a : α) : Nat.repeat f (n + 1) a = f (Nat.repeat f n a) := rfl

/-- the bit's step, the bit apart -/
def crcPick (b : Bool) (c : BitVec 32) : BitVec 32 := c ^^^ (if b then 0xEDB88320#32 else 0#32)
theorem crcBit_pick (c : BitVec 32) : crcBit c = crcPick (c.getLsbD 0) (c >>> 1) := rfl
theorem xor_self_mid (x y : BitVec 32) : x ^^^ (y ^^^ x) = y := by
  rw [BitVec.xor_comm y x, ← BitVec.xor_assoc, BitVec.xor_self, BitVec.zero_xor]
theorem crcPick_xor (p q : Bool) (a b : BitVec 32) : crcPick (Bool.xor p q) (a ^^^ b) = crcPick p a ^^^ crcPick q b := by
  cases p <;> cases q <;> simp only [crcPick, Bool.xor_false, Bool.xor_true, Bool.not_false, Bool.not_true, if_true, Bool.false_eq_true, if_false, BitVec.xor_zero]
  · ac_rfl
  · ac_rfl
  · rw [BitVec.xor_assoc a, xor_self_mid]
theorem crcBit_xor (a b : BitVec 32) : crcBit (a ^^^ b) = crcBit a ^^^ crcBit b := by
  rw [crcBit_pick, crcBit_pick, crcBit_pick, BitVec.getLsbD_xor, BitVec.ushiftRight_xor_distrib]
  exact crcPick_xor _ _ _ _
theorem crcPick_top (b : Bool) (c : BitVec 32) (h : c.getLsbD 31 = false) : (crcPick b c).getLsbD 31 = b := by
  unfold crcPick
  rw [BitVec.getLsbD_xor, h]
  cases b <;> rfl
theorem crcPick_inj (b : Bool) {c d : BitVec 32} (h : crcPick b c = crcPick b d) : c = d := (BitVec.xor_left_inj _).1 h
theorem shr_top (c : BitVec 32) : (c >>> 1).getLsbD 31 = false := by
  rw [BitVec.getLsbD_ushiftRight]; exact BitVec.getLsbD_of_ge _ _ (by omega)
theorem crcBit_inj {a b : BitVec 32} (h : crcBit a = crcBit b) : a = b := by
  rw [crcBit_pick, crcBit_pick] at h
  have h0 : a.getLsbD 0 = b.getLsbD 0 := by
    rw [← crcPick_top (a.getLsbD 0) (a >>> 1) (shr_top _), h, crcPick_top _ _ (shr_top _)]
  rw [h0] at h
  have hs := crcPick_inj _ h
  apply BitVec.eq_of_getLsbD_eq
  intro i hi
  cases i with
  | zero => exact h0
  | succ i =>
    have := congrArg (fun c => BitVec.getLsbD c i) hs
    simpa only [BitVec.getLsbD_ushiftRight, Nat.add_comm 1 i] using this

theorem rep_xor (n : Nat) (a b : BitVec 32) : Nat.repeat crcBit n (a ^^^ b) = Nat.repeat crcBit n a ^^^ Nat.repeat crcBit n b := by
  induction n with
  | zero => rfl
  | succ n ih => rw [repeat_succ', repeat_succ', repeat_succ', ih, crcBit_xor]
theorem rep_inj (n : Nat) {a b : BitVec 32} (h : Nat.repeat crcBit n a = Nat.repeat crcBit n b) : a = b := by
  induction n with
  | zero => exact h
  | succ n ih => rw [repeat_succ', repeat_succ'] at h; exact ih (crcBit_inj h)
theorem wide_xor (x y : UInt8) : (x ^^^ y).toBitVec.setWidth 32 = x.toBitVec.setWidth 32 ^^^ y.toBitVec.setWidth 32 := by
  rw [UInt8.toBitVec_xor]; exact BitVec.setWidth_xor
theorem wide_inj {x y : UInt8} (h : x.toBitVec.setWidth 32 = y.toBitVec.setWidth 32) : x = y := by
  have := congrArg BitVec.toNat h
  simp only [BitVec.toNat_setWidth] at this
  have hx := x.toBitVec.isLt
  have hy := y.toBitVec.isLt
  rw [Nat.mod_eq_of_lt (by omega), Nat.mod_eq_of_lt (by omega)] at this
  exact UInt8.toBitVec_inj.1 (BitVec.eq_of_toNat_eq this)
theorem crcByte_xor (c d : BitVec 32) (x y : UInt8) : crcByte (c ^^^ d) (x ^^^ y) = crcByte c x ^^^ crcByte d y := by
  unfold crcByte
  rw [wide_xor, ← rep_xor]
  congr 1
  ac_rfl
theorem crcByte_inj {c d : BitVec 32} {x : UInt8} (h : crcByte c x = crcByte d x) : c = d := (BitVec.xor_left_inj _).1 (rep_inj 8 h)
theorem crcByte_inj2 {c : BitVec 32} {x y : UInt8} (h : crcByte c x = crcByte c y) : x = y := wide_inj ((BitVec.xor_right_inj _).1 (rep_inj 8 h))
theorem crcOn_inj (l : List UInt8) : ∀ {c d : BitVec 32}, crcOn c l = crcOn d l → c = d := by
  induction l with
  | nil => intro c d h; exact h
  | cons x l ih => intro c d h; exact crcByte_inj (ih h)
/-- one byte turned: another sum -/
theorem crc_turned (l m : List UInt8) (x y : UInt8) (h : x ≠ y) : crc (l ++ x :: m) ≠ crc (l ++ y :: m) := by
  intro e
  have e := BitVec.not_inj.1 e
  rw [crcOn_append, crcOn_append, crcOn_cons, crcOn_cons] at e
  exact h (crcByte_inj2 (crcOn_inj m e))
theorem crcOn_zip (a b : List UInt8) : ∀ (c d : BitVec 32), a.length = b.length → crcOn (c ^^^ d) (List.zipWith (· ^^^ ·) a b) = crcOn c a ^^^ crcOn d b := by
  induction a generalizing b with
  | nil => intro c d h; have : b = [] := List.eq_nil_of_length_eq_zero h.symm; subst this; rfl
  | cons x a ih =>
    intro c d h
    cases b with
    | nil => simp at h
    | cons y b =>
      rw [List.zipWith_cons_cons, crcOn_cons, crcOn_cons, crcOn_cons, crcByte_xor]
      exact ih b _ _ (by simpa using h)
/-- sums laid upon one another -/
theorem crc_lines (a b : List UInt8) (h : a.length = b.length) :
    crc a ^^^ crc b ^^^ crc (List.replicate a.length 0) = crc (List.zipWith (· ^^^ ·) a b) := by
  have hz : List.zipWith (· ^^^ ·) (List.zipWith (· ^^^ ·) a b) (List.replicate a.length (0 : UInt8)) = List.zipWith (· ^^^ ·) a b := by
    apply List.ext_getElem
    · simp [h]
    · intro i h1 h2; simp
  have h1 := crcOn_zip (List.zipWith (· ^^^ ·) a b) (List.replicate a.length (0 : UInt8)) (0xFFFFFFFF#32 ^^^ 0xFFFFFFFF#32) 0xFFFFFFFF#32 (by simp [h])
  rw [crcOn_zip a b _ _ h, hz] at h1
  have h2 : crcOn 0xFFFFFFFF#32 (List.zipWith (· ^^^ ·) a b) = crcOn 0xFFFFFFFF#32 a ^^^ crcOn 0xFFFFFFFF#32 b ^^^ crcOn 0xFFFFFFFF#32 (List.replicate a.length 0) := h1
  unfold crc
  rw [h2]
  generalize crcOn 0xFFFFFFFF#32 a = p
  generalize crcOn 0xFFFFFFFF#32 b = q
  generalize crcOn 0xFFFFFFFF#32 (List.replicate a.length 0) = r
  apply BitVec.eq_of_getLsbD_eq
  intro i hi
  simp only [BitVec.getLsbD_xor, BitVec.getLsbD_not, hi, decide_true, Bool.true_and]
  cases p.getLsbD i <;> cases q.getLsbD i <;> cases r.getLsbD i <;> rfl
theorem crc_known : crc [49, 50, 51, 52, 53, 54, 55, 56, 57] = 0xCBF43926#32 := by decide +kernel

/-! ### the step as the code's arithmetic writes it -/
theorem crcByte_start (c : BitVec 32) (x : UInt8) : bits .xor .u32 (c.toNat : Int) ((x.toNat : Int) % 4294967296) = ((c ^^^ x.toBitVec.setWidth 32).toNat : Int) := by
  have hx := x.toNat_lt
  rw [show ((x.toNat : Int) % 4294967296) = ((x.toBitVec.setWidth 32).toNat : Int) from by
    rw [BitVec.toNat_setWidth, UInt8.toNat_toBitVec, Nat.mod_eq_of_lt (by omega)]; omega]
  exact u32_xor_bv _ _
theorem crcBit_code (c : BitVec 32) : bits .xor .u32 ((c.toNat : Int) / 2) (3988292384 * bits .and .u32 (c.toNat : Int) 1 % 4294967296) = ((crcBit c).toNat : Int) := by
  have h1 : bits .and .u32 (c.toNat : Int) 1 = ((c.toNat % 2 : Nat) : Int) := by
    have := u32_and_nat c.toNat 1 c.isLt (by omega)
    rw [nat_mask1] at this
    exact this
  have h2 : ((c.toNat : Int) / (2 : Int)) = ((c >>> 1).toNat : Int) := by
    rw [BitVec.toNat_ushiftRight, Nat.shiftRight_eq_div_pow]; omega
  have h3 : (3988292384 * ((c.toNat % 2 : Nat) : Int) % 4294967296) = ((if c.getLsbD 0 then 0xEDB88320#32 else 0#32).toNat : Int) := by
    have hb : c.getLsbD 0 = decide (c.toNat % 2 = 1) := by
      rw [BitVec.getLsbD, Nat.testBit_zero]
    rw [hb]
    by_cases h : c.toNat % 2 = 1
    · simp [h]
    · have h0 : c.toNat % 2 = 0 := by omega
      simp [h0]
  rw [h1, h2, h3]
  exact u32_xor_bv _ _
theorem crc_not (c : BitVec 32) : bits .xor .u32 IntKind.u32.max (c.toNat : Int) = ((~~~ c).toNat : Int) := by
  have := u32_xor_bv (BitVec.allOnes 32) c
  rw [BitVec.allOnes_xor] at this
  exact this
/-- the step as the reference has it -/
theorem crcBit_odd (c : BitVec 32) (h : (bits .and .u32 (c.toNat : Int) 1 == 1) = true) : bits .xor .u32 ((c.toNat : Int) / 2) 3988292384 = ((crcBit c).toNat : Int) := by
  have e : bits .and .u32 (c.toNat : Int) 1 = 1 := by simpa using h
  rw [← crcBit_code c, e]; rfl
theorem crcBit_even (c : BitVec 32) (h : (bits .and .u32 (c.toNat : Int) 1 == 1) = false) : ((c.toNat : Int) / 2) = ((crcBit c).toNat : Int) := by
  have h1 : bits .and .u32 (c.toNat : Int) 1 = ((c.toNat % 2 : Nat) : Int) := by
    have := u32_and_nat c.toNat 1 c.isLt (by omega)
    rw [nat_mask1] at this
    exact this
  have h0 : c.toNat % 2 = 0 := by
    rw [h1] at h
    have : ¬ ((c.toNat % 2 : Nat) : Int) = 1 := by simpa using h
    omega
  rw [← crcBit_code c, h1, h0]
  have h2 : ((c.toNat : Int) / (2 : Int)) = ((c >>> 1).toNat : Int) := by
    rw [BitVec.toNat_ushiftRight, Nat.shiftRight_eq_div_pow]; omega
  rw [h2]
  have := u32_xor_bv (c >>> 1) 0#32
  rw [BitVec.xor_zero] at this
  exact this.symm

/-! ### two rows laid upon one another, byte by byte -/
def xorRow (a b : List UInt8) (r j : Nat) : List UInt8 := List.zipWith (· ^^^ ·) (a.take j) (b.take j) ++ List.replicate (r - j) 0
theorem xorRow_zero (a b : List UInt8) (r : Nat) : xorRow a b r 0 = List.replicate r 0 := by simp [xorRow]
theorem xorRow_end (a b : List UInt8) (r : Nat) (ha : a.length = r) (hb : b.length = r) : xorRow a b r r = List.zipWith (· ^^^ ·) a b := by
  simp [xorRow, List.take_of_length_le, ha, hb]
theorem xorRow_front (a b : List UInt8) (r j : Nat) (ha : a.length = r) (hb : b.length = r) (hj : j ≤ r) : (List.zipWith (· ^^^ ·) (a.take j) (b.take j)).length = j := by
  rw [List.length_zipWith, List.length_take, List.length_take, ha, hb]; omega
theorem xorRow_at (a b : List UInt8) (r j : Nat) (ha : a.length = r) (hb : b.length = r) (hj : j < r) : (xorRow a b r j)[j]? = some 0 := by
  have h := xorRow_front a b r j ha hb (by omega)
  unfold xorRow
  rw [List.getElem?_append_right (Nat.le_of_eq h), h, Nat.sub_self, List.getElem?_replicate]
  have : 0 < r - j := by omega
  simp [this]
theorem xorRow_set (a b : List UInt8) (r j : Nat) (x y : UInt8) (ha : a.length = r) (hb : b.length = r) (hj : j < r) (hx : a[j]? = some x) (hy : b[j]? = some y) :
    (xorRow a b r j).set j (x ^^^ y) = xorRow a b r (j + 1) := by
  have h := xorRow_front a b r j ha hb (by omega)
  have ta : a.take (j + 1) = a.take j ++ [x] := by rw [List.take_add_one, hx]; rfl
  have tb : b.take (j + 1) = b.take j ++ [y] := by rw [List.take_add_one, hy]; rfl
  have hl : (a.take j).length = (b.take j).length := by rw [List.length_take, List.length_take, ha, hb]
  unfold xorRow
  rw [ta, tb, List.zipWith_append hl, List.set_append_right _ _ (Nat.le_of_eq h), h, Nat.sub_self]
  rw [show r - j = (r - (j + 1)) + 1 by omega, List.replicate_succ]
  simp

/-! ### one byte turned -/
theorem crc_set (l : List UInt8) (k : Nat) (x y : UInt8) (hx : l[k]? = some x) (h : x ≠ y) : crc (l.set k y) ≠ crc l := by
  have hk : k < l.length := (List.getElem?_eq_some_iff.1 hx).1
  have e1 : l = l.take k ++ x :: l.drop (k + 1) := by
    have := List.take_append_drop k l
    rw [List.drop_eq_getElem_cons hk] at this
    have hx' : l[k] = x := (List.getElem?_eq_some_iff.1 hx).2
    rw [hx'] at this
    exact this.symm
  have e2 : l.set k y = l.take k ++ y :: l.drop (k + 1) := List.set_eq_take_append_cons_drop.trans (by rw [if_pos hk])
  rw [e2]
  intro e
  refine crc_turned (l.take k) (l.drop (k + 1)) y x (Ne.symm h) ?_
  rw [e, ← e1]
theorem xor_back (x m : UInt8) : x ^^^ m ^^^ m = x := by
  apply UInt8.toBitVec_inj.1
  rw [UInt8.toBitVec_xor, UInt8.toBitVec_xor, BitVec.xor_assoc, BitVec.xor_self, BitVec.xor_zero]
theorem xor_other (x m : UInt8) (h : m ≠ 0) : x ≠ x ^^^ m := by
  intro e
  apply h
  have : x ^^^ x = x ^^^ (x ^^^ m) := congrArg (fun z => x ^^^ z) e
  rw [← UInt8.xor_assoc, UInt8.xor_self, UInt8.zero_xor] at this
  exact this.symm
/-- one bit of a byte -/
def oneBit (s : Nat) : UInt8 := UInt8.ofNat (2 ^ s)
theorem oneBit_toNat (s : Nat) (h : s < 8) : (oneBit s).toNat = 2 ^ s := by
  have : 2 ^ s < 256 := Nat.pow_lt_pow_right (by omega) h
  simp [oneBit]
  omega
theorem oneBit_ne (s : Nat) (h : s < 8) : oneBit s ≠ 0 := by
  intro e
  have h1 := congrArg UInt8.toNat e
  rw [oneBit_toNat s h] at h1
  have h2 : 0 < 2 ^ s := Nat.pow_pos (by omega)
  have h3 : (0 : UInt8).toNat = 0 := rfl
  omega
theorem oneBit_code (s : Nat) (hs : s < 8) : ((2 : Int) ^ min (s : Int).toNat 8 % 256) = ((oneBit s).toNat : Int) := by
  rw [oneBit_toNat s hs]
  have h1 : min (s : Int).toNat 8 = s := by omega
  have h2 : 2 ^ s < 256 := Nat.pow_lt_pow_right (by omega) hs
  rw [h1]
  have h3 : ((2 : Int) ^ s) = ((2 ^ s : Nat) : Int) := by simp
  rw [h3]
  generalize 2 ^ s = q at h2
  omega
theorem oneBit_code2 (s : Nat) (hs : s < 8) : IntKind.u8.wrap ((2 : Int) ^ s) = ((oneBit s).toNat : Int) := by
  have h := oneBit_code s hs
  have h1 : min (s : Int).toNat 8 = s := by omega
  rw [h1] at h
  rw [← h]
  rfl
end Go.Proofs.Ytkncomkncfcecaa
