/- The flash memory, plain: a program and an erasure while the power stays. The check sum as plain mathematics: its step is linear and loses nothing. No program in sight. Sealed bytes, and what opening them answers, as plain mathematics. Records, plain: what a sector's bytes tell, what an append makes of them; no program in sight. -/
import Derived.Test.YtcpifcdndhhmgaaFlashPlain
import Derived.Test.YtcpifcdndhhmgaaLib
set_option linter.unusedVariables false
set_option linter.unusedSimpArgs false
namespace Go.Proofs.Ytcpifcdndhhmgaa
open Go.RowKit

theorem spend_live (f : FlashSt) (hl : f.left = 0) : spendF f = { f with done := wrap64 (f.done + 1) } := by unfold spendF; rw [if_neg (by omega)]
theorem lay_whole (mask tb : List UInt8) (off n : Nat) (S : List UInt8) (i : Nat) (hi : i < S.length) :
    (layS true mask tb off n S).getD i 0 = if off ≤ i ∧ i < off + n then tb.getD (i - off) 0 else S.getD i 0 := by
  rw [layS_getD _ _ _ _ _ _ _ hi]
  have : mByte true mask (i - off) = 255 := rfl
  rw [this, layB_all]
theorem fits_iff (b : List UInt8) (off : Nat) (S : List UInt8) (n : Nat) : fits b off S n = true ↔ ∀ k, k < n → (pad b).getD k 0 &&& ~~~(S.getD (off + k) 0) = 0 := by
  induction n with
  | zero => exact ⟨fun _ k hk => absurd hk (by omega), fun _ => rfl⟩
  | succ n ih =>
    simp only [fits, Bool.and_eq_true, beq_iff_eq, ih]
    constructor
    · rintro ⟨h1, h2⟩ k hk
      by_cases he : k = n
      · rw [he]; exact h2
      · exact h1 k (by omega)
    · intro h
      exact ⟨fun k hk => h k (by omega), h n (by omega)⟩
/-- the state behind a program that is done whole -/
def doneP (f : FlashSt) (off : Nat) (b : List UInt8) : FlashSt := ⟨0, wrap64 (f.done + 1), f.mask, false, layS true f.mask (pad b) off 16 f.S⟩
def doneE (f : FlashSt) (k : Nat) : FlashSt := ⟨0, wrap64 (f.done + 1), f.mask, false, layS true f.mask (List.replicate 1024 255) (k * 1024) 1024 f.S⟩
theorem prog_ok (f : FlashSt) (k q : Nat) (b : List UInt8) (hd : f.dead = false) (hl : f.left = 0) (hk : k < 6) (hq : q < 64) (hb : b.length ≤ 16) (hf : fits b (k * 1024 + q * 16) f.S 16 = true) :
    progF f k q b = (0, doneP f (k * 1024 + q * 16) b) := by
  unfold progF
  rw [hd, if_neg (by simp), if_neg (by omega), if_neg (by omega), Int.toNat_natCast, Int.toNat_natCast, hf, if_neg (by simp), spend_live f hl]
  dsimp only
  rw [hd, hl, if_neg (by simp)]
  rfl
theorem erase_ok (f : FlashSt) (k : Nat) (hd : f.dead = false) (hl : f.left = 0) (hk : k < 6) : eraseF f k = (0, doneE f k) := by
  unfold eraseF
  rw [hd, if_neg (by simp), if_neg (by omega), Int.toNat_natCast, spend_live f hl]
  dsimp only
  rw [hd, hl, if_neg (by simp)]
  rfl
theorem doneP_at (f : FlashSt) (off : Nat) (b : List UInt8) (i : Nat) (hi : i < f.S.length) : (doneP f off b).S.getD i 0 = if off ≤ i ∧ i < off + 16 then (pad b).getD (i - off) 0 else f.S.getD i 0 := lay_whole _ _ _ _ _ _ hi
theorem doneE_at (f : FlashSt) (k : Nat) (i : Nat) (hi : i < f.S.length) : (doneE f k).S.getD i 0 = if k * 1024 ≤ i ∧ i < k * 1024 + 1024 then 255 else f.S.getD i 0 := by
  have := lay_whole f.mask (List.replicate 1024 255) (k * 1024) 1024 f.S i hi
  unfold doneE
  dsimp only
  rw [this]
  by_cases h : k * 1024 ≤ i ∧ i < k * 1024 + 1024
  · rw [if_pos h, if_pos h, List.getD_eq_getElem?_getD, List.getElem?_replicate, if_pos (by omega)]; rfl
  · rw [if_neg h, if_neg h]
theorem doneP_len (f : FlashSt) (off : Nat) (b : List UInt8) : (doneP f off b).S.length = f.S.length := by unfold doneP; dsimp only; rw [length_layS]
theorem doneE_len (f : FlashSt) (k : Nat) : (doneE f k).S.length = f.S.length := by unfold doneE; dsimp only; rw [length_layS]
theorem newF_len : newF.S.length = 6144 := by
  show (List.replicate 6144 (255 : UInt8)).length = 6144
  rw [List.length_replicate]
theorem newF_at (i : Nat) (hi : i < 6144) : newF.S.getD i 0 = 255 := by
  unfold newF
  dsimp only
  rw [List.getD_eq_getElem?_getD, List.getElem?_replicate, if_pos hi]
  rfl
theorem read_len (f : FlashSt) (k : Nat) (hk : k < 6) (hS : f.S.length = 6144) : (readF f k).length = 1024 := by
  unfold readF; rw [if_neg (by omega), List.length_take, List.length_drop, hS, Int.toNat_natCast]; omega
theorem read_at (f : FlashSt) (k : Nat) (hk : k < 6) (hS : f.S.length = 6144) (i : Nat) (hi : i < 1024) : (readF f k)[i]? = some (f.S.getD (k * 1024 + i) 0) := by
  unfold readF
  rw [if_neg (by omega), Int.toNat_natCast, List.getElem?_take, if_pos hi, List.getElem?_drop, List.getElem?_eq_getElem (by omega), List.getD_eq_getElem?_getD, List.getElem?_eq_getElem (by omega)]
  rfl
theorem pad_at (b : List UInt8) (k : Nat) (hk : k < 16) (hb : b.length ≤ 16) : (pad b).getD k 0 = if k < b.length then b.getD k 0 else 255 := by
  unfold pad
  rw [List.getD_eq_getElem?_getD]
  by_cases h : k < b.length
  · rw [if_pos h, List.getElem?_append_left h, List.getD_eq_getElem?_getD]
  · rw [if_neg h, List.getElem?_append_right (by omega), List.getElem?_replicate, if_pos (by omega)]; rfl
theorem fits_blank (b : List UInt8) (off : Nat) (S : List UInt8) (h : ∀ k, k < 16 → S.getD (off + k) 0 = 255) : fits b off S 16 = true := by
  rw [fits_iff]
  intro k hk
  rw [h k hk, show (~~~(255 : UInt8)) = 0 by decide, UInt8.and_zero]
end Go.Proofs.Ytcpifcdndhhmgaa
set_option linter.unusedVariables false
set_option linter.unusedSimpArgs false
namespace Go.Proofs.Ytcpifcdndhhmgaa

/-- a bit's step -/
def crcBit (c : BitVec 32) : BitVec 32 := (c >>> 1) ^^^ (if c.getLsbD 0 then 0xEDB88320#32 else 0#32)
def crcByte (c : BitVec 32) (x : UInt8) : BitVec 32 := Nat.repeat crcBit 8 (c ^^^ x.toBitVec.setWidth 32)
def crcOn (c : BitVec 32) (l : List UInt8) : BitVec 32 := l.foldl crcByte c
def crc (l : List UInt8) : BitVec 32 := ~~~ (crcOn 0xFFFFFFFF#32 l)

theorem crcOn_append (c : BitVec 32) (l m : List UInt8) : crcOn c (l ++ m) = crcOn (crcOn c l) m := by simp [crcOn]
theorem crcOn_snoc (c : BitVec 32) (l : List UInt8) (x : UInt8) : crcOn c (l ++ [x]) = crcByte (crcOn c l) x := by simp [crcOn]
/-- the bit's step, the bit apart -/
def crcPick (b : Bool) (c : BitVec 32) : BitVec 32 := c ^^^ (if b then 0xEDB88320#32 else 0#32)
/-! ### the step as the code's arithmetic writes it -/
theorem crcByte_start (c : BitVec 32) (x : UInt8) : bits .xor .u32 (c.toNat : Int) ((x.toNat : Int) % 4294967296) = ((c ^^^ x.toBitVec.setWidth 32).toNat : Int) := by
  have hx := x.toNat_lt
  rw [show ((x.toNat : Int) % 4294967296) = ((x.toBitVec.setWidth 32).toNat : Int) from by
    rw [BitVec.toNat_setWidth, UInt8.toNat_toBitVec, Nat.mod_eq_of_lt (by omega)]; omega]
  exact u32_xor_bv _ _
theorem crcBit_code (c : BitVec 32) : bits .xor .u32 ((c.toNat : Int) / 2) (3988292384 * bits .and .u32 (c.toNat : Int) 1 % 4294967296) = ((crcBit c).toNat : Int) := by
  have h1 : bits .and .u32 (c.toNat : Int) 1 = ((c.toNat % 2 : Nat) : Int) := by
    have := u32_and_nat c.toNat 1 c.isLt (by omega)
    rw [nat_mask1] at this
    exact this
  have h2 : ((c.toNat : Int) / (2 : Int)) = ((c >>> 1).toNat : Int) := by
    rw [BitVec.toNat_ushiftRight, Nat.shiftRight_eq_div_pow]; omega
  have h3 : (3988292384 * ((c.toNat % 2 : Nat) : Int) % 4294967296) = ((if c.getLsbD 0 then 0xEDB88320#32 else 0#32).toNat : Int) := by
    have hb : c.getLsbD 0 = decide (c.toNat % 2 = 1) := by
      rw [BitVec.getLsbD, Nat.testBit_zero]
    rw [hb]
    by_cases h : c.toNat % 2 = 1
    · simp [h]
    · have h0 : c.toNat % 2 = 0 := by omega
      simp [h0]
  rw [h1, h2, h3]
  exact u32_xor_bv _ _
theorem crc_not (c : BitVec 32) : bits .xor .u32 IntKind.u32.max (c.toNat : Int) = ((~~~ c).toNat : Int) := by
  have := u32_xor_bv (BitVec.allOnes 32) c
  rw [BitVec.allOnes_xor] at this
  exact this
/-! ### two rows laid upon one another, byte by byte -/
def xorRow (a b : List UInt8) (r j : Nat) : List UInt8 := List.zipWith (· ^^^ ·) (a.take j) (b.take j) ++ List.replicate (r - j) 0
/-! ### one byte turned -/
/-- one bit of a byte -/
def oneBit (s : Nat) : UInt8 := UInt8.ofNat (2 ^ s)
end Go.Proofs.Ytcpifcdndhhmgaa
set_option linter.unusedVariables false
set_option linter.unusedSimpArgs false
namespace Go.Proofs.Ytcpifcdndhhmgaa

def u8n (n : Nat) : UInt8 := UInt8.ofNat n
theorem u8n_toNat (n : Nat) : (u8n n).toNat = n % 256 := by simp [u8n]
/-- the six bytes ahead -/
def sealHead (l : List UInt8) : List UInt8 :=
  [u8n l.length, u8n (l.length / 256), u8n (crc l).toNat, u8n ((crc l).toNat / 256), u8n ((crc l).toNat / 65536), u8n ((crc l).toNat / 16777216)]
def sealed (l : List UInt8) : List UInt8 := sealHead l ++ l
theorem length_sealHead (l : List UInt8) : (sealHead l).length = 6 := rfl
theorem length_sealed (l : List UInt8) : (sealed l).length = l.length + 6 := by simp [sealed, length_sealHead]; omega

/-- the number of n bytes, the lowest first -/
def le (l : List UInt8) : Nat := l.foldr (fun x r => x.toNat + 256 * r) 0

/-- opening: the bytes, how many were read, the error's number -/
def opened (b : List UInt8) : List UInt8 × Nat × Nat :=
  if b.length < 6 then ([], 0, 8)
  else if b.length - 6 < le (b.take 2) then ([], 0, 8)
  else if (crc ((b.drop 6).take (le (b.take 2)))).toNat ≠ le ((b.drop 2).take 4) then ([], 0, 10)
  else ((b.drop 6).take (le (b.take 2)), 6 + le (b.take 2), 0)

theorem le_head2 (n : Nat) (h : n ≤ 65535) : le [u8n n, u8n (n / 256)] = n := by
  simp only [le, List.foldr_cons, List.foldr_nil, u8n_toNat]; omega
theorem le_head4 (c : Nat) (h : c < 4294967296) : le [u8n c, u8n (c / 256), u8n (c / 65536), u8n (c / 16777216)] = c := by
  simp only [le, List.foldr_cons, List.foldr_nil, u8n_toNat]; omega

theorem sealed_take2 (l m : List UInt8) : (sealed l ++ m).take 2 = [u8n l.length, u8n (l.length / 256)] := rfl
theorem sealed_mid4 (l m : List UInt8) : ((sealed l ++ m).drop 2).take 4 = [u8n (crc l).toNat, u8n ((crc l).toNat / 256), u8n ((crc l).toNat / 65536), u8n ((crc l).toNat / 16777216)] := rfl
theorem sealed_drop6 (l m : List UInt8) : (sealed l ++ m).drop 6 = l ++ m := rfl

/-- what was sealed is opened as it was, whatever stands behind it -/
theorem opened_sealed (l m : List UInt8) (hl : l.length ≤ 65535) : opened (sealed l ++ m) = (l, 6 + l.length, 0) := by
  unfold opened
  rw [sealed_take2, le_head2 _ hl, sealed_mid4, le_head4 _ (crc l).isLt, sealed_drop6]
  have h1 : (sealed l ++ m).length = l.length + 6 + m.length := by rw [List.length_append, length_sealed]
  rw [if_neg (by omega), if_neg (by omega), List.take_left, if_neg (by omega)]
end Go.Proofs.Ytcpifcdndhhmgaa
set_option linter.unusedVariables false
set_option linter.unusedSimpArgs false
namespace Go.Proofs.Ytcpifcdndhhmgaa
open Go.RowKit

/-- how many pages n bytes take -/
def pagesN (n : Nat) : Nat := (n + 21) / 16
theorem pagesN_pos (n : Nat) : 1 ≤ pagesN n := by unfold pagesN; omega
theorem pagesN_ge (n : Nat) : n + 6 ≤ 16 * pagesN n := by unfold pagesN; omega
theorem pagesN_lt (n : Nat) : 16 * pagesN n < n + 22 := by unfold pagesN; omega
theorem pagesN_mono {n m : Nat} (h : n ≤ m) : pagesN n ≤ pagesN m := by unfold pagesN; omega
def blankP (b : List UInt8) : Bool := b.all (· == 255)

/-- what the bytes of a sector tell from page p on: the records, the first free page -/
def loadF (b : List UInt8) : Nat → Nat → List (List UInt8) × Nat
  | 0, _ => ([], 64)
  | k + 1, p =>
    if 64 ≤ p then ([], 64)
    else if blankP ((b.drop (16 * p)).take 16) = true then ([], p)
    else if (opened (b.drop (16 * p))).2.2 = 0 then
      ((opened (b.drop (16 * p))).1 :: (loadF b k (p + pagesN (opened (b.drop (16 * p))).1.length)).1, (loadF b k (p + pagesN (opened (b.drop (16 * p))).1.length)).2)
    else ([], 64)
theorem loadF_more (b : List UInt8) : ∀ (k m p : Nat), 64 - p ≤ k → 64 - p ≤ m → loadF b k p = loadF b m p
  | 0, 0, _, _, _ => rfl
  | 0, m + 1, p, h, _ => by simp only [loadF]; rw [if_pos (by omega)]
  | k + 1, 0, p, _, h => by simp only [loadF]; rw [if_pos (by omega)]
  | k + 1, m + 1, p, h1, h2 => by
    have hp := pagesN_pos (opened (b.drop (16 * p))).1.length
    simp only [loadF]
    by_cases h64 : 64 ≤ p
    · rw [if_pos h64, if_pos h64]
    · rw [loadF_more b k m _ (by omega) (by omega)]
def loadP (b : List UInt8) (p : Nat) : List (List UInt8) × Nat := loadF b (64 - p) p
def loadR (b : List UInt8) : List (List UInt8) × Nat := if b.length = 0 then ([], 0) else loadP b 0
section
variable {b : List UInt8} {p : Nat}
theorem loadP_end (h : 64 ≤ p) : loadP b p = ([], 64) := by unfold loadP; rw [show 64 - p = 0 by omega]; rfl
theorem loadP_blank (h : p < 64) (hb : blankP ((b.drop (16 * p)).take 16) = true) : loadP b p = ([], p) := by
  unfold loadP; rw [show 64 - p = (63 - p) + 1 by omega]; simp only [loadF]; rw [if_neg (by omega), if_pos hb]
theorem loadP_bad (h : p < 64) (hb : blankP ((b.drop (16 * p)).take 16) = false) (he : (opened (b.drop (16 * p))).2.2 ≠ 0) : loadP b p = ([], 64) := by
  unfold loadP; rw [show 64 - p = (63 - p) + 1 by omega]; simp only [loadF]; rw [if_neg (by omega), hb, if_neg (by decide), if_neg he]
theorem loadP_next (h : p < 64) (hb : blankP ((b.drop (16 * p)).take 16) = false) (he : (opened (b.drop (16 * p))).2.2 = 0) :
    loadP b p = ((opened (b.drop (16 * p))).1 :: (loadP b (p + pagesN (opened (b.drop (16 * p))).1.length)).1, (loadP b (p + pagesN (opened (b.drop (16 * p))).1.length)).2) := by
  have hp := pagesN_pos (opened (b.drop (16 * p))).1.length
  unfold loadP
  rw [show 64 - p = (63 - p) + 1 by omega]
  simp only [loadF]
  rw [if_neg (by omega), hb, if_neg (by decide), if_pos he, loadF_more b (63 - p) _ _ (by omega) (Nat.le_refl _)]
end
theorem opened_len (b : List UInt8) : (opened b).2.2 = 0 → (opened b).1.length + 6 ≤ b.length := by
  unfold opened
  split
  · intro h; cases h
  · split
    · intro h; cases h
    · split
      · intro h; cases h
      · intro _; simp only [List.length_take, List.length_drop]; omega
theorem opened_short (b : List UInt8) : (opened b).1.length ≤ 65535 := by
  have h2 : ∀ l : List UInt8, le (l.take 2) ≤ 65535 := fun l => by
    match l with
    | [] => simp [le]
    | [x] => have := byte_lt x; simp [le]; omega
    | x :: y :: r => have := byte_lt x; have := byte_lt y; simp [le]; omega
  unfold opened
  split
  · simp
  · split
    · simp
    · split
      · simp
      · have := h2 b; simp only [List.length_take, List.length_drop]; omega
theorem opened_err (b : List UInt8) : (opened b).2.2 = 0 ∨ (opened b).2.2 = 8 ∨ (opened b).2.2 = 10 := by
  unfold opened
  split
  · exact .inr (.inl rfl)
  · split
    · exact .inr (.inl rfl)
    · split
      · exact .inr (.inr rfl)
      · exact .inl rfl
theorem loadF_le (b : List UInt8) : ∀ k p, (loadF b k p).2 ≤ 64
  | 0, _ => Nat.le_refl _
  | k + 1, p => by
    simp only [loadF]
    split
    · exact Nat.le_refl _
    · split
      · simp only; omega
      · split
        · exact loadF_le b k _
        · exact Nat.le_refl _
theorem loadR_le (b : List UInt8) : (loadR b).2 ≤ 64 := by
  unfold loadR
  split
  · omega
  · exact loadF_le _ _ _
theorem loadF_cnt (b : List UInt8) : ∀ k p, (loadF b k p).1.length ≤ k
  | 0, _ => Nat.le_refl _
  | k + 1, p => by
    simp only [loadF]
    split
    · simp
    · split
      · simp
      · split
        · have := loadF_cnt b k (p + pagesN (opened (b.drop (16 * p))).1.length)
          simp only [List.length_cons]; omega
        · simp
theorem loadR_cnt (b : List UInt8) : (loadR b).1.length ≤ 64 := by
  unfold loadR
  split
  · simp
  · exact loadF_cnt _ _ _

/-! ### an append -/
/-- n pieces of x from the i-th on, at page p + i and on -/
def progs (s : Int) (p : Nat) (x : List UInt8) : Nat → Nat → FlashSt → Int × FlashSt
  | 0, _, f => (0, f)
  | n + 1, i, f => if (progF f s ((p + i : Nat) : Int) ((x.drop (16 * i)).take 16)).1 = 0 then progs s p x n (i + 1) (progF f s ((p + i : Nat) : Int) ((x.drop (16 * i)).take 16)).2
    else progF f s ((p + i : Nat) : Int) ((x.drop (16 * i)).take 16)
def appendP (f : FlashSt) (s : Int) (b : List UInt8) : Int × FlashSt :=
  if 1018 < b.length then (5, f)
  else if s < 0 ∨ 6 ≤ s then (12, f)
  else if 64 < (loadR (readF f s)).2 + pagesN b.length then (4, f)
  else progs s (loadR (readF f s)).2 (sealed b) (pagesN b.length) 0 f

/-! ### the bytes of records, one behind the other -/
def recP (x : List UInt8) : List UInt8 := sealed x ++ List.replicate (16 * pagesN x.length - (x.length + 6)) 255
theorem length_recP (x : List UInt8) : (recP x).length = 16 * pagesN x.length := by
  have := pagesN_ge x.length
  unfold recP; rw [List.length_append, length_sealed, List.length_replicate]; omega
def packP (l : List (List UInt8)) : List UInt8 := (l.map recP).flatten
def usedP (l : List (List UInt8)) : Nat := (l.map fun x => pagesN x.length).sum
theorem packP_cons (x : List UInt8) (l : List (List UInt8)) : packP (x :: l) = recP x ++ packP l := by simp [packP]
theorem packP_snoc (x : List UInt8) (l : List (List UInt8)) : packP (l ++ [x]) = packP l ++ recP x := by simp [packP]
theorem usedP_cons (x : List UInt8) (l : List (List UInt8)) : usedP (x :: l) = pagesN x.length + usedP l := by simp [usedP]
theorem usedP_snoc (x : List UInt8) (l : List (List UInt8)) : usedP (l ++ [x]) = usedP l + pagesN x.length := by simp [usedP]
theorem length_packP : ∀ l : List (List UInt8), (packP l).length = 16 * usedP l
  | [] => rfl
  | x :: l => by rw [packP_cons, List.length_append, length_recP, length_packP l, usedP_cons]; omega
theorem recP_head (x r : List UInt8) (h : x.length ≤ 1018) : blankP ((recP x ++ r).take 16) = false := by
  have h1 : u8n (x.length / 256) ≠ 255 := by
    intro e
    have := congrArg UInt8.toNat e
    rw [u8n_toNat] at this
    have h255 : (255 : UInt8).toNat = 255 := rfl
    rw [h255] at this
    omega
  have h2 : (recP x ++ r).take 16 = u8n x.length :: u8n (x.length / 256) :: ((recP x ++ r).drop 2).take 14 := rfl
  rw [h2]
  unfold blankP
  simp only [List.all_cons, beq_eq_false_iff_ne.2 h1, Bool.false_and, Bool.and_false]
theorem recP_open (x r : List UInt8) (h : x.length ≤ 1018) : opened (recP x ++ r) = (x, 6 + x.length, 0) := by
  unfold recP
  rw [List.append_assoc]
  exact opened_sealed x _ (by omega)
theorem loadP_pack (b : List UInt8) : ∀ (l : List (List UInt8)) (p : Nat) (pre rest : List UInt8), b = pre ++ packP l ++ rest → pre.length = 16 * p → b.length = 1024 → (∀ x ∈ l, x.length ≤ 1018) →
    loadP b p = (l ++ (loadP b (p + usedP l)).1, (loadP b (p + usedP l)).2)
  | [], p, pre, rest, _, _, _, _ => by simp [usedP]
  | x :: l, p, pre, rest, hb, hp, hl, hx => by
    have hx0 := hx x (by simp)
    have hd : b.drop (16 * p) = recP x ++ (packP l ++ rest) := by
      rw [hb, ← hp, List.append_assoc, List.drop_left, packP_cons, List.append_assoc]
    have hlen : 16 * p + 16 * pagesN x.length ≤ 1024 := by
      have := congrArg List.length hb
      rw [hl, packP_cons] at this
      simp only [List.length_append, length_recP] at this
      omega
    have hpos := pagesN_pos x.length
    have ho := recP_open x (packP l ++ rest) hx0
    rw [loadP_next (by omega) (by rw [hd]; exact recP_head x _ hx0) (by rw [hd, ho])]
    rw [hd, ho]
    dsimp only
    rw [loadP_pack b l (p + pagesN x.length) (pre ++ recP x) rest (by rw [hb, packP_cons]; simp only [List.append_assoc]) (by rw [List.length_append, length_recP]; omega) hl (fun y hy => hx y (by simp [hy])), usedP_cons, Nat.add_assoc]
    rfl
theorem blankP_rep (n : Nat) : blankP (List.replicate n 255) = true := by unfold blankP; rw [List.all_replicate]; split <;> rfl
/-- the sector's bytes are these records and blanks -/
structure Packed (b : List UInt8) (l : List (List UInt8)) : Prop where
  eq : b = packP l ++ List.replicate (1024 - 16 * usedP l) 255
  used : usedP l ≤ 64
  short : ∀ x ∈ l, x.length ≤ 1018
theorem Packed.len {b : List UInt8} {l : List (List UInt8)} (h : Packed b l) : b.length = 1024 := by
  have := h.used
  rw [h.eq, List.length_append, length_packP, List.length_replicate]; omega
theorem Packed.load {b : List UInt8} {l : List (List UInt8)} (h : Packed b l) : loadR b = (l, usedP l) := by
  have hl := h.len
  have hu := h.used
  unfold loadR
  rw [if_neg (by omega), loadP_pack b l 0 [] _ (by rw [List.nil_append]; exact h.eq) rfl hl h.short, Nat.zero_add]
  by_cases h64 : usedP l = 64
  · rw [loadP_end (by omega), List.append_nil, h64]
  · have hb : blankP ((b.drop (16 * usedP l)).take 16) = true := by
      have hd : b.drop (16 * usedP l) = List.replicate (1024 - 16 * usedP l) 255 := by
        have := congrArg (List.drop (16 * usedP l)) h.eq
        rw [← length_packP, List.drop_left, length_packP] at this
        exact this
      rw [hd, List.take_replicate]
      exact blankP_rep _
    rw [loadP_blank (by omega) hb, List.append_nil]
theorem Packed.nil {b : List UInt8} (h : b = List.replicate 1024 255) : Packed b [] := ⟨by rw [h]; rfl, by simp [usedP], by simp⟩
end Go.Proofs.Ytcpifcdndhhmgaa
