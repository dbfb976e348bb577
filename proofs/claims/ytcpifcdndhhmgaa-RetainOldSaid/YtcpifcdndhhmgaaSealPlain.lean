/- The arguments of a law, opened into words for memory; no program in sight. The flash memory, plain: what each of its operations makes of its bytes; no program in sight. The flash memory, plain: a program and an erasure while the power stays. The check sum as plain mathematics: its step is linear and loses nothing. No program in sight. Sealed bytes, and what opening them answers, as plain mathematics. -/
import Derived.Test.YtcpifcdndhhmgaaLib
import Derived.ProofKit
import Derived.OpenShut
import Derived.ShutString
import Derived.ChangeOld
import Derived.SizedLaws
import Derived.Deep.Matrix
import Derived.SliceStrings
set_option linter.unusedVariables false
set_option linter.unusedSimpArgs false
namespace Go.Proofs.Ytcpifcdndhhmgaa
open Go.ChangeShapes Go.WideShapes Go.ChangeAt Go.RowKit Go.Deep
open Go.ChangeMaps (open_string shut_string)

section
variable {H : Type} {enc : TypeId × Value → H} {P : Program} {W : World}

/-- bytes out of numbers -/
def toBytes (zs : List Int) : List UInt8 := zs.map fun z => UInt8.ofNat z.toNat
theorem weightsAll_mem {e : TypeId} {d : DataW H} : ∀ {ds : List (DataW H)}, d ∈ ds → ∀ n ∈ d.weights P e, n ∈ DataW.weightsAll P e ds
  | x :: ds, h, n, hn => by
    simp only [DataW.weightsAll, List.mem_append]
    rcases List.mem_cons.1 h with rfl | h
    · exact .inl hn
    · exact .inr (weightsAll_mem h n hn)

/-- all of a datum's sizes are within the reach -/
def Sized (P : Program) (t : TypeId) (d : DataW H) : Prop := ∀ n ∈ d.weights P t, n ≤ 140737488351232
theorem Sized.slice {t e : TypeId} {elems spare : List (DataW H)} (hu : P.underlying t = some (.slice e)) (h : Sized P t (.slice elems spare)) :
    (elems.length + spare.length) * P.bytesOf e ≤ 140737488351232 ∧ ∀ d ∈ elems, Sized P e d := by
  refine ⟨h _ (by simp [DataW.weights, hu]), fun d hd n hn => h n ?_⟩
  simp only [DataW.weights, hu, List.mem_cons, List.mem_append]
  exact .inr (.inl (weightsAll_mem hd n hn))

theorem i64_bounds {z : Int} (h : (Lit.int .i64 z).wf = true) : -9223372036854775808 ≤ z ∧ z ≤ 9223372036854775807 := by
  simpa [Lit.wf, IntKind.min, IntKind.max, IntKind.signed, IntKind.bits] using h
end
end Go.Proofs.Ytcpifcdndhhmgaa
set_option linter.unusedVariables false
set_option linter.unusedSimpArgs false
namespace Go.Proofs.Ytcpifcdndhhmgaa
open Go.RowKit

/-- a memory's state: operations till the power goes (0: it will not), operations done, what is done of that one, whether the power is gone, the sectors' bytes -/
structure FlashSt where
  left : Int
  done : Int
  mask : List UInt8
  dead : Bool
  S : List UInt8

def spendF (f : FlashSt) : FlashSt :=
  if 0 < f.left then { f with done := wrap64 (f.done + 1), left := f.left - 1, dead := f.left - 1 == 0 } else { f with done := wrap64 (f.done + 1) }
theorem spendF_S (f : FlashSt) : (spendF f).S = f.S := by unfold spendF; split <;> rfl
theorem spendF_mask (f : FlashSt) : (spendF f).mask = f.mask := by unfold spendF; split <;> rfl

/-- which bits are done of byte i -/
def mByte (whole : Bool) (mask : List UInt8) (i : Nat) : UInt8 := if whole = true then 255 else if mask.length = 0 then 0 else mask.getD (i % mask.length) 0
def layB (m old to : UInt8) : UInt8 := (old &&& ~~~m) ||| (to &&& m)
/-- n bytes are laid on what stands at 'off' -/
def layS (whole : Bool) (mask to : List UInt8) (off : Nat) : Nat → List UInt8 → List UInt8
  | 0, S => S
  | k + 1, S => (layS whole mask to off k S).set (off + k) (layB (mByte whole mask k) ((layS whole mask to off k S).getD (off + k) 0) (to.getD k 0))
theorem length_layS (whole : Bool) (mask to : List UInt8) (off n : Nat) (S : List UInt8) : (layS whole mask to off n S).length = S.length := by
  induction n with
  | zero => rfl
  | succ k ih => simp [layS, ih]
theorem layS_at (whole : Bool) (mask to : List UInt8) (off n : Nat) (S : List UInt8) (i : Nat) (hi : i < S.length) :
    (layS whole mask to off n S)[i]? = some (if off ≤ i ∧ i < off + n then layB (mByte whole mask (i - off)) (S.getD i 0) (to.getD (i - off) 0) else S.getD i 0) := by
  induction n with
  | zero => rw [if_neg (by omega)]; simp [layS, hi]
  | succ k ih =>
    simp only [layS]
    by_cases he : off + k = i
    · subst he
      rw [List.getElem?_set_self (by rw [length_layS]; exact hi), if_pos (by omega), show off + k - off = k by omega]
      have h2 : (layS whole mask to off k S).getD (off + k) 0 = S.getD (off + k) 0 := by
        rw [List.getD_eq_getElem?_getD, ih, if_neg (by omega)]; rfl
      rw [h2]
    · rw [List.getElem?_set_ne he, ih]
      congr 1
      by_cases h1 : off ≤ i ∧ i < off + k
      · rw [if_pos h1, if_pos (by omega)]
      · rw [if_neg h1, if_neg (by omega)]
theorem layS_getD (whole : Bool) (mask to : List UInt8) (off n : Nat) (S : List UInt8) (i : Nat) (hi : i < S.length) :
    (layS whole mask to off n S).getD i 0 = if off ≤ i ∧ i < off + n then layB (mByte whole mask (i - off)) (S.getD i 0) (to.getD (i - off) 0) else S.getD i 0 := by
  rw [List.getD_eq_getElem?_getD, layS_at _ _ _ _ _ _ _ hi]; rfl
theorem u8_and_255 (x : UInt8) : x &&& 255 = x := by
  apply UInt8.toNat_inj.1
  rw [UInt8.toNat_and]
  exact Nat.and_two_pow_sub_one_of_lt_two_pow (n := 8) (byte_lt x)
theorem layB_all (old to : UInt8) : layB 255 old to = to := by
  unfold layB
  have h1 : (~~~(255 : UInt8)) = 0 := by decide
  rw [h1, UInt8.and_zero, UInt8.zero_or]
  exact u8_and_255 to
/-! ### a program and an erasure -/
/-- bytes, filled with blanks up to a page -/
def pad (b : List UInt8) : List UInt8 := b ++ List.replicate (16 - b.length) 255
theorem length_pad (b : List UInt8) (h : b.length ≤ 16) : (pad b).length = 16 := by simp [pad]; omega
/-- whether a page's bytes can be set -/
def fits (b : List UInt8) (off : Nat) (S : List UInt8) : Nat → Bool
  | 0 => true
  | k + 1 => fits b off S k && (((pad b).getD k 0 &&& ~~~(S.getD (off + k) 0)) == 0)
theorem fits_mono (b : List UInt8) (off : Nat) (S : List UInt8) {k m : Nat} (hk : k ≤ m) (h : fits b off S k = false) : fits b off S m = false := by
  induction m with
  | zero => rw [show k = 0 by omega] at h; exact h
  | succ m ih =>
    by_cases he : k = m + 1
    · rw [← he]; exact h
    · unfold fits; rw [ih (by omega)]; rfl
def progF (f : FlashSt) (s p : Int) (b : List UInt8) : Int × FlashSt :=
  if f.dead = true then (14, f)
  else if s < 0 ∨ 6 ≤ s ∨ p < 0 ∨ 64 ≤ p then (12, f)
  else if 16 < b.length then (5, f)
  else if fits b (s.toNat * 1024 + p.toNat * 16) f.S 16 = false then (13, f)
  else (if (spendF f).dead = true then 14 else 0, { spendF f with S := layS (!(spendF f).dead) f.mask (pad b) (s.toNat * 1024 + p.toNat * 16) 16 f.S })
def eraseF (f : FlashSt) (s : Int) : Int × FlashSt :=
  if f.dead = true then (14, f)
  else if s < 0 ∨ 6 ≤ s then (12, f)
  else (if (spendF f).dead = true then 14 else 0, { spendF f with S := layS (!(spendF f).dead) f.mask (List.replicate 1024 255) (s.toNat * 1024) 1024 f.S })
def readF (f : FlashSt) (s : Int) : List UInt8 := if s < 0 ∨ 6 ≤ s then [] else (f.S.drop (s.toNat * 1024)).take 1024
def newF : FlashSt := ⟨0, 0, [], false, List.replicate 6144 255⟩
def stopF (f : FlashSt) (n : Int) (m : List UInt8) : FlashSt := { f with left := max n 0, mask := m }
def startF (f : FlashSt) : FlashSt := { f with left := 0, mask := [], dead := false }

/-! ### bytes' operations -/
theorem u8n_and (a b : UInt8) : bits .and .u8 (a.toNat : Int) (b.toNat : Int) = ((a &&& b).toNat : Int) := by
  rw [u8_and_nat _ _ (byte_lt a) (byte_lt b), UInt8.toNat_and]
theorem u8n_or (a b : UInt8) : bits .or .u8 (a.toNat : Int) (b.toNat : Int) = ((a ||| b).toNat : Int) := by
  rw [u8_or_nat _ _ (byte_lt a) (byte_lt b), UInt8.toNat_or]
theorem u8n_andNot (a b : UInt8) : bits .andNot .u8 (a.toNat : Int) (b.toNat : Int) = ((a &&& ~~~b).toNat : Int) := by
  rw [u8_andNot_nat _ _ (byte_lt a) (byte_lt b), UInt8.toNat_and]
  congr 2
  rw [UInt8.toNat_not]
  rfl
theorem u8_zero (x : UInt8) : ((x.toNat : Int) != 0) = !(x == 0) := by
  by_cases h : x = 0
  · subst h; rfl
  · have : x.toNat ≠ 0 := fun e => h (UInt8.toNat_inj.1 e)
    rw [beq_eq_false_iff_ne.2 h]
    simp only [Bool.not_false, bne_iff_ne, ne_eq]
    omega
end Go.Proofs.Ytcpifcdndhhmgaa
set_option linter.unusedVariables false
set_option linter.unusedSimpArgs false
namespace Go.Proofs.Ytcpifcdndhhmgaa
open Go.RowKit

theorem spend_live (f : FlashSt) (hl : f.left = 0) : spendF f = { f with done := wrap64 (f.done + 1) } := by unfold spendF; rw [if_neg (by omega)]
theorem lay_whole (mask tb : List UInt8) (off n : Nat) (S : List UInt8) (i : Nat) (hi : i < S.length) :
    (layS true mask tb off n S).getD i 0 = if off ≤ i ∧ i < off + n then tb.getD (i - off) 0 else S.getD i 0 := by
  rw [layS_getD _ _ _ _ _ _ _ hi]
  have : mByte true mask (i - off) = 255 := rfl
  rw [this, layB_all]
theorem fits_iff (b : List UInt8) (off : Nat) (S : List UInt8) (n : Nat) : fits b off S n = true ↔ ∀ k, k < n → (pad b).getD k 0 &&& ~~~(S.getD (off + k) 0) = 0 := by
  induction n with
  | zero => exact ⟨fun _ k hk => absurd hk (by omega), fun _ => rfl⟩
  | succ n ih =>
    simp only [fits, Bool.and_eq_true, beq_iff_eq, ih]
    constructor
    · rintro ⟨h1, h2⟩ k hk
      by_cases he : k = n
      · rw [he]; exact h2
      · exact h1 k (by omega)
    · intro h
      exact ⟨fun k hk => h k (by omega), h n (by omega)⟩
/-- the state behind a program that is done whole -/
def doneP (f : FlashSt) (off : Nat) (b : List UInt8) : FlashSt := ⟨0, wrap64 (f.done + 1), f.mask, false, layS true f.mask (pad b) off 16 f.S⟩
def doneE (f : FlashSt) (k : Nat) : FlashSt := ⟨0, wrap64 (f.done + 1), f.mask, false, layS true f.mask (List.replicate 1024 255) (k * 1024) 1024 f.S⟩
theorem prog_ok (f : FlashSt) (k q : Nat) (b : List UInt8) (hd : f.dead = false) (hl : f.left = 0) (hk : k < 6) (hq : q < 64) (hb : b.length ≤ 16) (hf : fits b (k * 1024 + q * 16) f.S 16 = true) :
    progF f k q b = (0, doneP f (k * 1024 + q * 16) b) := by
  unfold progF
  rw [hd, if_neg (by simp), if_neg (by omega), if_neg (by omega), Int.toNat_natCast, Int.toNat_natCast, hf, if_neg (by simp), spend_live f hl]
  dsimp only
  rw [hd, hl, if_neg (by simp)]
  rfl
theorem erase_ok (f : FlashSt) (k : Nat) (hd : f.dead = false) (hl : f.left = 0) (hk : k < 6) : eraseF f k = (0, doneE f k) := by
  unfold eraseF
  rw [hd, if_neg (by simp), if_neg (by omega), Int.toNat_natCast, spend_live f hl]
  dsimp only
  rw [hd, hl, if_neg (by simp)]
  rfl
theorem doneP_at (f : FlashSt) (off : Nat) (b : List UInt8) (i : Nat) (hi : i < f.S.length) : (doneP f off b).S.getD i 0 = if off ≤ i ∧ i < off + 16 then (pad b).getD (i - off) 0 else f.S.getD i 0 := lay_whole _ _ _ _ _ _ hi
theorem doneE_at (f : FlashSt) (k : Nat) (i : Nat) (hi : i < f.S.length) : (doneE f k).S.getD i 0 = if k * 1024 ≤ i ∧ i < k * 1024 + 1024 then 255 else f.S.getD i 0 := by
  have := lay_whole f.mask (List.replicate 1024 255) (k * 1024) 1024 f.S i hi
  unfold doneE
  dsimp only
  rw [this]
  by_cases h : k * 1024 ≤ i ∧ i < k * 1024 + 1024
  · rw [if_pos h, if_pos h, List.getD_eq_getElem?_getD, List.getElem?_replicate, if_pos (by omega)]; rfl
  · rw [if_neg h, if_neg h]
theorem doneP_len (f : FlashSt) (off : Nat) (b : List UInt8) : (doneP f off b).S.length = f.S.length := by unfold doneP; dsimp only; rw [length_layS]
theorem doneE_len (f : FlashSt) (k : Nat) : (doneE f k).S.length = f.S.length := by unfold doneE; dsimp only; rw [length_layS]
theorem newF_len : newF.S.length = 6144 := by
  show (List.replicate 6144 (255 : UInt8)).length = 6144
  rw [List.length_replicate]
theorem newF_at (i : Nat) (hi : i < 6144) : newF.S.getD i 0 = 255 := by
  unfold newF
  dsimp only
  rw [List.getD_eq_getElem?_getD, List.getElem?_replicate, if_pos hi]
  rfl
theorem read_len (f : FlashSt) (k : Nat) (hk : k < 6) (hS : f.S.length = 6144) : (readF f k).length = 1024 := by
  unfold readF; rw [if_neg (by omega), List.length_take, List.length_drop, hS, Int.toNat_natCast]; omega
theorem read_at (f : FlashSt) (k : Nat) (hk : k < 6) (hS : f.S.length = 6144) (i : Nat) (hi : i < 1024) : (readF f k)[i]? = some (f.S.getD (k * 1024 + i) 0) := by
  unfold readF
  rw [if_neg (by omega), Int.toNat_natCast, List.getElem?_take, if_pos hi, List.getElem?_drop, List.getElem?_eq_getElem (by omega), List.getD_eq_getElem?_getD, List.getElem?_eq_getElem (by omega)]
  rfl
theorem pad_at (b : List UInt8) (k : Nat) (hk : k < 16) (hb : b.length ≤ 16) : (pad b).getD k 0 = if k < b.length then b.getD k 0 else 255 := by
  unfold pad
  rw [List.getD_eq_getElem?_getD]
  by_cases h : k < b.length
  · rw [if_pos h, List.getElem?_append_left h, List.getD_eq_getElem?_getD]
  · rw [if_neg h, List.getElem?_append_right (by omega), List.getElem?_replicate, if_pos (by omega)]; rfl
theorem fits_blank (b : List UInt8) (off : Nat) (S : List UInt8) (h : ∀ k, k < 16 → S.getD (off + k) 0 = 255) : fits b off S 16 = true := by
  rw [fits_iff]
  intro k hk
  rw [h k hk, show (~~~(255 : UInt8)) = 0 by decide, UInt8.and_zero]
end Go.Proofs.Ytcpifcdndhhmgaa
set_option linter.unusedVariables false
set_option linter.unusedSimpArgs false
namespace Go.Proofs.Ytcpifcdndhhmgaa

/-- a bit's step -/
def crcBit (c : BitVec 32) : BitVec 32 := (c >>> 1) ^^^ (if c.getLsbD 0 then 0xEDB88320#32 else 0#32)
def crcByte (c : BitVec 32) (x : UInt8) : BitVec 32 := Nat.repeat crcBit 8 (c ^^^ x.toBitVec.setWidth 32)
def crcOn (c : BitVec 32) (l : List UInt8) : BitVec 32 := l.foldl crcByte c
def crc (l : List UInt8) : BitVec 32 := ~~~ (crcOn 0xFFFFFFFF#32 l)

theorem crcOn_append (c : BitVec 32) (l m : List UInt8) : crcOn c (l ++ m) = crcOn (crcOn c l) m := by simp [crcOn]
theorem crcOn_snoc (c : BitVec 32) (l : List UInt8) (x : UInt8) : crcOn c (l ++ [x]) = crcByte (crcOn c l) x := by simp [crcOn]
/-- the bit's step, the bit apart -/
def crcPick (b : Bool) (c : BitVec 32) : BitVec 32 := c ^^^ (if b then 0xEDB88320#32 else 0#32)
/-! ### the step as the code's arithmetic writes it -/
theorem crcByte_start (c : BitVec 32) (x : UInt8) : bits .xor .u32 (c.toNat : Int) ((x.toNat : Int) % 4294967296) = ((c ^^^ x.toBitVec.setWidth 32).toNat : Int) := by
  have hx := x.toNat_lt
  rw [show ((x.toNat : Int) % 4294967296) = ((x.toBitVec.setWidth 32).toNat : Int) from by
    rw [BitVec.toNat_setWidth, UInt8.toNat_toBitVec, Nat.mod_eq_of_lt (by omega)]; omega]
  exact u32_xor_bv _ _
theorem crcBit_code (c : BitVec 32) : bits .xor .u32 ((c.toNat : Int) / 2) (3988292384 * bits .and .u32 (c.toNat : Int) 1 % 4294967296) = ((crcBit c).toNat : Int) := by
  have h1 : bits .and .u32 (c.toNat : Int) 1 = ((c.toNat % 2 : Nat) : Int) := by
    have := u32_and_nat c.toNat 1 c.isLt (by omega)
    rw [nat_mask1] at this
    exact this
  have h2 : ((c.toNat : Int) / (2 : Int)) = ((c >>> 1).toNat : Int) := by
    rw [BitVec.toNat_ushiftRight, Nat.shiftRight_eq_div_pow]; omega
  have h3 : (3988292384 * ((c.toNat % 2 : Nat) : Int) % 4294967296) = ((if c.getLsbD 0 then 0xEDB88320#32 else 0#32).toNat : Int) := by
    have hb : c.getLsbD 0 = decide (c.toNat % 2 = 1) := by
      rw [BitVec.getLsbD, Nat.testBit_zero]
    rw [hb]
    by_cases h : c.toNat % 2 = 1
    · simp [h]
    · have h0 : c.toNat % 2 = 0 := by omega
      simp [h0]
  rw [h1, h2, h3]
  exact u32_xor_bv _ _
theorem crc_not (c : BitVec 32) : bits .xor .u32 IntKind.u32.max (c.toNat : Int) = ((~~~ c).toNat : Int) := by
  have := u32_xor_bv (BitVec.allOnes 32) c
  rw [BitVec.allOnes_xor] at this
  exact this
/-! ### two rows laid upon one another, byte by byte -/
def xorRow (a b : List UInt8) (r j : Nat) : List UInt8 := List.zipWith (· ^^^ ·) (a.take j) (b.take j) ++ List.replicate (r - j) 0
/-! ### one byte turned -/
/-- one bit of a byte -/
def oneBit (s : Nat) : UInt8 := UInt8.ofNat (2 ^ s)
end Go.Proofs.Ytcpifcdndhhmgaa
set_option linter.unusedVariables false
set_option linter.unusedSimpArgs false
namespace Go.Proofs.Ytcpifcdndhhmgaa

def u8n (n : Nat) : UInt8 := UInt8.ofNat n
theorem u8n_toNat (n : Nat) : (u8n n).toNat = n % 256 := by simp [u8n]
/-- the six bytes ahead -/
def sealHead (l : List UInt8) : List UInt8 :=
  [u8n l.length, u8n (l.length / 256), u8n (crc l).toNat, u8n ((crc l).toNat / 256), u8n ((crc l).toNat / 65536), u8n ((crc l).toNat / 16777216)]
def sealed (l : List UInt8) : List UInt8 := sealHead l ++ l
theorem length_sealHead (l : List UInt8) : (sealHead l).length = 6 := rfl
theorem length_sealed (l : List UInt8) : (sealed l).length = l.length + 6 := by simp [sealed, length_sealHead]; omega

/-- the number of n bytes, the lowest first -/
def le (l : List UInt8) : Nat := l.foldr (fun x r => x.toNat + 256 * r) 0

/-- opening: the bytes, how many were read, the error's number -/
def opened (b : List UInt8) : List UInt8 × Nat × Nat :=
  if b.length < 6 then ([], 0, 8)
  else if b.length - 6 < le (b.take 2) then ([], 0, 8)
  else if (crc ((b.drop 6).take (le (b.take 2)))).toNat ≠ le ((b.drop 2).take 4) then ([], 0, 10)
  else ((b.drop 6).take (le (b.take 2)), 6 + le (b.take 2), 0)

theorem le_head2 (n : Nat) (h : n ≤ 65535) : le [u8n n, u8n (n / 256)] = n := by
  simp only [le, List.foldr_cons, List.foldr_nil, u8n_toNat]; omega
theorem le_head4 (c : Nat) (h : c < 4294967296) : le [u8n c, u8n (c / 256), u8n (c / 65536), u8n (c / 16777216)] = c := by
  simp only [le, List.foldr_cons, List.foldr_nil, u8n_toNat]; omega

theorem sealed_take2 (l m : List UInt8) : (sealed l ++ m).take 2 = [u8n l.length, u8n (l.length / 256)] := rfl
theorem sealed_mid4 (l m : List UInt8) : ((sealed l ++ m).drop 2).take 4 = [u8n (crc l).toNat, u8n ((crc l).toNat / 256), u8n ((crc l).toNat / 65536), u8n ((crc l).toNat / 16777216)] := rfl
theorem sealed_drop6 (l m : List UInt8) : (sealed l ++ m).drop 6 = l ++ m := rfl

/-- what was sealed is opened as it was, whatever stands behind it -/
theorem opened_sealed (l m : List UInt8) (hl : l.length ≤ 65535) : opened (sealed l ++ m) = (l, 6 + l.length, 0) := by
  unfold opened
  rw [sealed_take2, le_head2 _ hl, sealed_mid4, le_head4 _ (crc l).isLt, sealed_drop6]
  have h1 : (sealed l ++ m).length = l.length + 6 + m.length := by rw [List.length_append, length_sealed]
  rw [if_neg (by omega), if_neg (by omega), List.take_left, if_neg (by omega)]
end Go.Proofs.Ytcpifcdndhhmgaa
