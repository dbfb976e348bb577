/- The check sum as plain mathematics: its step is linear and loses nothing. No program in sight. Sealed bytes, and what opening them answers, as plain mathematics. Records, plain: what a sector's bytes tell, what an append makes of them; no program in sight. Records, plain: an append onto a sector of records, while the power is on. No program in sight. slices.Clone at bytes. slices.Grow, Concat at bytes. slices.Clone, Grow, Concat at bytes. -/
import Derived.Test.YtkncomkncfcecaaLib
import Derived.Test.YtkncomkncfcecaaFlashLaws
import Derived.Test.YtkncomkncfcecaaFlashMem
import Derived.Lib.AppendZerosOnto
import Derived.Lib.SliceRun
set_option linter.unusedVariables false
set_option linter.unusedSimpArgs false
namespace Go.Proofs.Ytkncomkncfcecaa
def crcBit (c : BitVec 32) : BitVec 32 := (c >>> 1) ^^^ (if c.getLsbD 0 then 0xEDB88320#32 else 0#32)
def crcByte (c : BitVec 32) (x : UInt8) : BitVec 32 := Nat.repeat crcBit 8 (c ^^^ x.toBitVec.setWidth 32)
def crcOn (c : BitVec 32) (l : List UInt8) : BitVec 32 := l.foldl crcByte c
def crc (l : List UInt8) : BitVec 32 := ~~~ (crcOn 0xFFFFFFFF#32 l)
theorem crcOn_append (c : BitVec 32) (l m : List UInt8) : crcOn c (l ++ m) = crcOn (crcOn c l) m := by simp [crcOn]
theorem crcOn_snoc (c : BitVec 32) (l : List UInt8) (x : UInt8) : crcOn c (l ++ [x]) = crcByte (crcOn c l) x := by simp [crcOn]
def crcPick (b : Bool) (c : BitVec 32) : BitVec 32 := c ^^^ (if b then 0xEDB88320#32 else 0#32)
/-! ### the step as the code's arithmetic writes it -/
theorem crcByte_start (c : BitVec 32) (x : UInt8) : bits .xor .u32 (c.toNat : Int) ((x.toNat : Int) % 4294967296) = ((c ^^^ x.toBitVec.setWidth 32).toNat : Int) := by
  have hx := x.toNat_lt
  rw [show ((x.toNat : Int) % 4294967296) = ((x.toBitVec.setWidth 32).toNat : Int) from by
    rw [BitVec.toNat_setWidth, UInt8.toNat_toBitVec, Nat.mod_eq_of_lt (by omega)]; omega]
  exact Yh _ _
theorem WK (c : BitVec 32) : bits .xor .u32 ((c.toNat : Int) / 2) (3988292384 * bits .and .u32 (c.toNat : Int) 1 % 4294967296) = ((crcBit c).toNat : Int) := by
  have h1 : bits .and .u32 (c.toNat : Int) 1 = ((c.toNat % 2 : Nat) : Int) := by
    have := u32_and_nat c.toNat 1 c.isLt (by omega)
    rw [nat_mask1] at this
    exact this
  have h2 : ((c.toNat : Int) / (2 : Int)) = ((c >>> 1).toNat : Int) := by
    rw [BitVec.toNat_ushiftRight, Nat.shiftRight_eq_div_pow]; omega
  have h3 : (3988292384 * ((c.toNat % 2 : Nat) : Int) % 4294967296) = ((if c.getLsbD 0 then 0xEDB88320#32 else 0#32).toNat : Int) := by
    have hb : c.getLsbD 0 = decide (c.toNat % 2 = 1) := by
      rw [BitVec.getLsbD, Nat.testBit_zero]
    rw [hb]
    by_cases h : c.toNat % 2 = 1
    · simp [h]
    · have h0 : c.toNat % 2 = 0 := by omega
      simp [h0]
  rw [h1, h2, h3]
  exact Yh _ _
theorem crc_not (c : BitVec 32) : bits .xor .u32 IntKind.u32.max (c.toNat : Int) = ((~~~ c).toNat : Int) := by
  have := Yh (BitVec.allOnes 32) c
  rw [BitVec.allOnes_xor] at this
  exact this
theorem crcBit_odd (c : BitVec 32) (h : (bits .and .u32 (c.toNat : Int) 1 == 1) = true) : bits .xor .u32 ((c.toNat : Int) / 2) 3988292384 = ((crcBit c).toNat : Int) := by
  have e : bits .and .u32 (c.toNat : Int) 1 = 1 := by simpa using h
  rw [← WK c, e]; rfl
theorem crcBit_even (c : BitVec 32) (h : (bits .and .u32 (c.toNat : Int) 1 == 1) = false) : ((c.toNat : Int) / 2) = ((crcBit c).toNat : Int) := by
  have h1 : bits .and .u32 (c.toNat : Int) 1 = ((c.toNat % 2 : Nat) : Int) := by
    have := u32_and_nat c.toNat 1 c.isLt (by omega)
    rw [nat_mask1] at this
    exact this
  have h0 : c.toNat % 2 = 0 := by
    rw [h1] at h
    have : ¬ ((c.toNat % 2 : Nat) : Int) = 1 := by simpa using h
    omega
  rw [← WK c, h1, h0]
  have h2 : ((c.toNat : Int) / (2 : Int)) = ((c >>> 1).toNat : Int) := by
    rw [BitVec.toNat_ushiftRight, Nat.shiftRight_eq_div_pow]; omega
  rw [h2]
  have := Yh (c >>> 1) 0#32
  rw [BitVec.xor_zero] at this
  exact this.symm
/-! ### two rows laid upon one another, byte by byte -/
def xorRow (a b : List UInt8) (r j : Nat) : List UInt8 := List.zipWith (· ^^^ ·) (a.take j) (b.take j) ++ List.replicate (r - j) 0
/-! ### one byte turned -/
def oneBit (s : Nat) : UInt8 := UInt8.ofNat (2 ^ s)
end Go.Proofs.Ytkncomkncfcecaa
set_option linter.unusedVariables false
set_option linter.unusedSimpArgs false
namespace Go.Proofs.Ytkncomkncfcecaa
def u8n (n : Nat) : UInt8 := UInt8.ofNat n
theorem Wj (n : Nat) : (u8n n).toNat = n % 256 := by simp [u8n]
def sealHead (l : List UInt8) : List UInt8 :=
  [u8n l.length, u8n (l.length / 256), u8n (crc l).toNat, u8n ((crc l).toNat / 256), u8n ((crc l).toNat / 65536), u8n ((crc l).toNat / 16777216)]
def sealed (l : List UInt8) : List UInt8 := sealHead l ++ l
theorem Wt (l : List UInt8) : (sealHead l).length = 6 := rfl
theorem Xs (l : List UInt8) : (sealed l).length = l.length + 6 := by simp [sealed, Wt]; omega
def le (l : List UInt8) : Nat := l.foldr (fun x r => x.toNat + 256 * r) 0
def opened (b : List UInt8) : List UInt8 × Nat × Nat :=
  if b.length < 6 then ([], 0, 8)
  else if b.length - 6 < le (b.take 2) then ([], 0, 8)
  else if (crc ((b.drop 6).take (le (b.take 2)))).toNat ≠ le ((b.drop 2).take 4) then ([], 0, 10)
  else ((b.drop 6).take (le (b.take 2)), 6 + le (b.take 2), 0)
theorem le_head2 (n : Nat) (h : n ≤ 65535) : le [u8n n, u8n (n / 256)] = n := by
  simp only [le, List.foldr_cons, List.foldr_nil, Wj]; omega
theorem le_head4 (c : Nat) (h : c < 4294967296) : le [u8n c, u8n (c / 256), u8n (c / 65536), u8n (c / 16777216)] = c := by
  simp only [le, List.foldr_cons, List.foldr_nil, Wj]; omega
theorem sealed_take2 (l m : List UInt8) : (sealed l ++ m).take 2 = [u8n l.length, u8n (l.length / 256)] := rfl
theorem sealed_mid4 (l m : List UInt8) : ((sealed l ++ m).drop 2).take 4 = [u8n (crc l).toNat, u8n ((crc l).toNat / 256), u8n ((crc l).toNat / 65536), u8n ((crc l).toNat / 16777216)] := rfl
theorem sealed_drop6 (l m : List UInt8) : (sealed l ++ m).drop 6 = l ++ m := rfl
theorem opened_sealed (l m : List UInt8) (hl : l.length ≤ 65535) : opened (sealed l ++ m) = (l, 6 + l.length, 0) := by
  unfold opened
  rw [sealed_take2, le_head2 _ hl, sealed_mid4, le_head4 _ (crc l).isLt, sealed_drop6]
  have h1 : (sealed l ++ m).length = l.length + 6 + m.length := by rw [List.length_append, Xs]
  rw [if_neg (by omega), if_neg (by omega), List.take_left, if_neg (by omega)]
end Go.Proofs.Ytkncomkncfcecaa
set_option linter.unusedVariables false
set_option linter.unusedSimpArgs false
namespace Go.Proofs.Ytkncomkncfcecaa
open Go.RowKit
def pagesN (n : Nat) : Nat := (n + 21) / 16
theorem Xa (n : Nat) : 1 ≤ pagesN n := by unfold pagesN; omega
theorem XQ (n : Nat) : n + 6 ≤ 16 * pagesN n := by unfold pagesN; omega
theorem WT (n : Nat) : 16 * pagesN n < n + 22 := by unfold pagesN; omega
theorem pagesN_mono {n m : Nat} (h : n ≤ m) : pagesN n ≤ pagesN m := by unfold pagesN; omega
def blankP (b : List UInt8) : Bool := b.all (· == 255)
def loadF (b : List UInt8) : Nat → Nat → List (List UInt8) × Nat
  | 0, _ => ([], 64)
  | k + 1, p =>
    if 64 ≤ p then ([], 64)
    else if blankP ((b.drop (16 * p)).take 16) = true then ([], p)
    else if (opened (b.drop (16 * p))).2.2 = 0 then
      ((opened (b.drop (16 * p))).1 :: (loadF b k (p + pagesN (opened (b.drop (16 * p))).1.length)).1, (loadF b k (p + pagesN (opened (b.drop (16 * p))).1.length)).2)
    else ([], 64)
theorem loadF_more (b : List UInt8) : ∀ (k m p : Nat), 64 - p ≤ k → 64 - p ≤ m → loadF b k p = loadF b m p
  | 0, 0, _, _, _ => rfl
  | 0, m + 1, p, h, _ => by simp only [loadF]; rw [if_pos (by omega)]
  | k + 1, 0, p, _, h => by simp only [loadF]; rw [if_pos (by omega)]
  | k + 1, m + 1, p, h1, h2 => by
    have hp := Xa (opened (b.drop (16 * p))).1.length
    simp only [loadF]
    by_cases h64 : 64 ≤ p
    · rw [if_pos h64, if_pos h64]
    · rw [loadF_more b k m _ (by omega) (by omega)]
def loadP (b : List UInt8) (p : Nat) : List (List UInt8) × Nat := loadF b (64 - p) p
def loadR (b : List UInt8) : List (List UInt8) × Nat := if b.length = 0 then ([], 0) else loadP b 0
section
variable {b : List UInt8} {p : Nat}
theorem Vd (h : 64 ≤ p) : loadP b p = ([], 64) := by unfold loadP; rw [show 64 - p = 0 by omega]; rfl
theorem X4 (h : p < 64) (hb : blankP ((b.drop (16 * p)).take 16) = true) : loadP b p = ([], p) := by
  unfold loadP; rw [show 64 - p = (63 - p) + 1 by omega]; simp only [loadF]; rw [if_neg (by omega), if_pos hb]
theorem loadP_bad (h : p < 64) (hb : blankP ((b.drop (16 * p)).take 16) = false) (he : (opened (b.drop (16 * p))).2.2 ≠ 0) : loadP b p = ([], 64) := by
  unfold loadP; rw [show 64 - p = (63 - p) + 1 by omega]; simp only [loadF]; rw [if_neg (by omega), hb, if_neg (by decide), if_neg he]
theorem WA (h : p < 64) (hb : blankP ((b.drop (16 * p)).take 16) = false) (he : (opened (b.drop (16 * p))).2.2 = 0) :
    loadP b p = ((opened (b.drop (16 * p))).1 :: (loadP b (p + pagesN (opened (b.drop (16 * p))).1.length)).1, (loadP b (p + pagesN (opened (b.drop (16 * p))).1.length)).2) := by
  have hp := Xa (opened (b.drop (16 * p))).1.length
  unfold loadP
  rw [show 64 - p = (63 - p) + 1 by omega]
  simp only [loadF]
  rw [if_neg (by omega), hb, if_neg (by decide), if_pos he, loadF_more b (63 - p) _ _ (by omega) (Nat.le_refl _)]
end
theorem opened_len (b : List UInt8) : (opened b).2.2 = 0 → (opened b).1.length + 6 ≤ b.length := by
  unfold opened
  split
  · intro h; cases h
  · split
    · intro h; cases h
    · split
      · intro h; cases h
      · intro _; simp only [List.length_take, List.length_drop]; omega
theorem Wu (b : List UInt8) : (opened b).1.length ≤ 65535 := by
  have h2 : ∀ l : List UInt8, le (l.take 2) ≤ 65535 := fun l => by
    match l with
    | [] => simp [le]
    | [x] => have := ZS x; simp [le]; omega
    | x :: y :: r => have := ZS x; have := ZS y; simp [le]; omega
  unfold opened
  split
  · simp
  · split
    · simp
    · split
      · simp
      · have := h2 b; simp only [List.length_take, List.length_drop]; omega
theorem opened_err (b : List UInt8) : (opened b).2.2 = 0 ∨ (opened b).2.2 = 8 ∨ (opened b).2.2 = 10 := by
  unfold opened
  split
  · exact .inr (.inl rfl)
  · split
    · exact .inr (.inl rfl)
    · split
      · exact .inr (.inr rfl)
      · exact .inl rfl
theorem loadF_le (b : List UInt8) : ∀ k p, (loadF b k p).2 ≤ 64
  | 0, _ => Nat.le_refl _
  | k + 1, p => by
    simp only [loadF]
    split
    · exact Nat.le_refl _
    · split
      · simp only; omega
      · split
        · exact loadF_le b k _
        · exact Nat.le_refl _
theorem loadR_le (b : List UInt8) : (loadR b).2 ≤ 64 := by
  unfold loadR
  split
  · omega
  · exact loadF_le _ _ _
theorem loadF_cnt (b : List UInt8) : ∀ k p, (loadF b k p).1.length ≤ k
  | 0, _ => Nat.le_refl _
  | k + 1, p => by
    simp only [loadF]
    split
    · simp
    · split
      · simp
      · split
        · have := loadF_cnt b k (p + pagesN (opened (b.drop (16 * p))).1.length)
          simp only [List.length_cons]; omega
        · simp
theorem loadR_cnt (b : List UInt8) : (loadR b).1.length ≤ 64 := by
  unfold loadR
  split
  · simp
  · exact loadF_cnt _ _ _
/-! ### an append -/
def progs (s : Int) (p : Nat) (x : List UInt8) : Nat → Nat → FlashSt → Int × FlashSt
  | 0, _, f => (0, f)
  | n + 1, i, f => if (progF f s ((p + i : Nat) : Int) ((x.drop (16 * i)).take 16)).1 = 0 then progs s p x n (i + 1) (progF f s ((p + i : Nat) : Int) ((x.drop (16 * i)).take 16)).2
    else progF f s ((p + i : Nat) : Int) ((x.drop (16 * i)).take 16)
def appendP (f : FlashSt) (s : Int) (b : List UInt8) : Int × FlashSt :=
  if 1018 < b.length then (5, f)
  else if s < 0 ∨ 6 ≤ s then (12, f)
  else if 64 < (loadR (readF f s)).2 + pagesN b.length then (4, f)
  else progs s (loadR (readF f s)).2 (sealed b) (pagesN b.length) 0 f
/-! ### the bytes of records, one behind the other -/
def recP (x : List UInt8) : List UInt8 := sealed x ++ List.replicate (16 * pagesN x.length - (x.length + 6)) 255
theorem X3 (x : List UInt8) : (recP x).length = 16 * pagesN x.length := by
  have := XQ x.length
  unfold recP; rw [List.length_append, Xs, List.length_replicate]; omega
def packP (l : List (List UInt8)) : List UInt8 := (l.map recP).flatten
def usedP (l : List (List UInt8)) : Nat := (l.map fun x => pagesN x.length).sum
theorem Ww (x : List UInt8) (l : List (List UInt8)) : packP (x :: l) = recP x ++ packP l := by simp [packP]
theorem packP_snoc (x : List UInt8) (l : List (List UInt8)) : packP (l ++ [x]) = packP l ++ recP x := by simp [packP]
theorem usedP_cons (x : List UInt8) (l : List (List UInt8)) : usedP (x :: l) = pagesN x.length + usedP l := by simp [usedP]
theorem usedP_snoc (x : List UInt8) (l : List (List UInt8)) : usedP (l ++ [x]) = usedP l + pagesN x.length := by simp [usedP]
theorem Y0 : ∀ l : List (List UInt8), (packP l).length = 16 * usedP l
  | [] => rfl
  | x :: l => by rw [Ww, List.length_append, X3, Y0 l, usedP_cons]; omega
theorem recP_head (x r : List UInt8) (h : x.length ≤ 1018) : blankP ((recP x ++ r).take 16) = false := by
  have h1 : u8n (x.length / 256) ≠ 255 := by
    intro e
    have := congrArg UInt8.toNat e
    rw [Wj] at this
    have h255 : (255 : UInt8).toNat = 255 := rfl
    rw [h255] at this
    omega
  have h2 : (recP x ++ r).take 16 = u8n x.length :: u8n (x.length / 256) :: ((recP x ++ r).drop 2).take 14 := rfl
  rw [h2]
  unfold blankP
  simp only [List.all_cons, beq_eq_false_iff_ne.2 h1, Bool.false_and, Bool.and_false]
theorem recP_open (x r : List UInt8) (h : x.length ≤ 1018) : opened (recP x ++ r) = (x, 6 + x.length, 0) := by
  unfold recP
  rw [List.append_assoc]
  exact opened_sealed x _ (by omega)
theorem loadP_pack (b : List UInt8) : ∀ (l : List (List UInt8)) (p : Nat) (pre rest : List UInt8), b = pre ++ packP l ++ rest → pre.length = 16 * p → b.length = 1024 → (∀ x ∈ l, x.length ≤ 1018) →
    loadP b p = (l ++ (loadP b (p + usedP l)).1, (loadP b (p + usedP l)).2)
  | [], p, pre, rest, _, _, _, _ => by simp [usedP]
  | x :: l, p, pre, rest, hb, hp, hl, hx => by
    have hx0 := hx x (by simp)
    have hd : b.drop (16 * p) = recP x ++ (packP l ++ rest) := by
      rw [hb, ← hp, List.append_assoc, List.drop_left, Ww, List.append_assoc]
    have hlen : 16 * p + 16 * pagesN x.length ≤ 1024 := by
      have := congrArg List.length hb
      rw [hl, Ww] at this
      simp only [List.length_append, X3] at this
      omega
    have hpos := Xa x.length
    have ho := recP_open x (packP l ++ rest) hx0
    rw [WA (by omega) (by rw [hd]; exact recP_head x _ hx0) (by rw [hd, ho])]
    rw [hd, ho]
    dsimp only
    rw [loadP_pack b l (p + pagesN x.length) (pre ++ recP x) rest (by rw [hb, Ww]; simp only [List.append_assoc]) (by rw [List.length_append, X3]; omega) hl (fun y hy => hx y (by simp [hy])), usedP_cons, Nat.add_assoc]
    rfl
theorem blankP_rep (n : Nat) : blankP (List.replicate n 255) = true := by unfold blankP; rw [List.all_replicate]; split <;> rfl
structure Packed (b : List UInt8) (l : List (List UInt8)) : Prop where
  eq : b = packP l ++ List.replicate (1024 - 16 * usedP l) 255
  used : usedP l ≤ 64
  short : ∀ x ∈ l, x.length ≤ 1018
theorem Packed.len {b : List UInt8} {l : List (List UInt8)} (h : Packed b l) : b.length = 1024 := by
  have := h.used
  rw [h.eq, List.length_append, Y0, List.length_replicate]; omega
theorem Packed.load {b : List UInt8} {l : List (List UInt8)} (h : Packed b l) : loadR b = (l, usedP l) := by
  have hl := h.len
  have hu := h.used
  unfold loadR
  rw [if_neg (by omega), loadP_pack b l 0 [] _ (by rw [List.nil_append]; exact h.eq) rfl hl h.short, Nat.zero_add]
  by_cases h64 : usedP l = 64
  · rw [Vd (by omega), List.append_nil, h64]
  · have hb : blankP ((b.drop (16 * usedP l)).take 16) = true := by
      have hd : b.drop (16 * usedP l) = List.replicate (1024 - 16 * usedP l) 255 := by
        have := congrArg (List.drop (16 * usedP l)) h.eq
        rw [← Y0, List.drop_left, Y0] at this
        exact this
      rw [hd, List.take_replicate]
      exact blankP_rep _
    rw [X4 (by omega) hb, List.append_nil]
theorem Packed.nil {b : List UInt8} (h : b = List.replicate 1024 255) : Packed b [] := ⟨by rw [h]; rfl, by simp [usedP], by simp⟩
end Go.Proofs.Ytkncomkncfcecaa
set_option linter.unusedVariables false
set_option linter.unusedSimpArgs false
namespace Go.Proofs.Ytkncomkncfcecaa
open Go.RowKit
structure Live (f : FlashSt) : Prop where
  dead : f.dead = false
  left : f.left = 0
  len : f.S.length = 6144
theorem live_new : Live newF := ⟨rfl, rfl, newF_len⟩
theorem pad_piece (x : List UInt8) (i j : Nat) (hj : j < 16) : (pad ((x.drop (16 * i)).take 16)).getD j 0 = x.getD (16 * i + j) 255 := by
  rw [pad_at _ j hj (by simp; omega)]
  simp only [List.length_take, List.length_drop, List.getD_eq_getElem?_getD]
  by_cases h : 16 * i + j < x.length
  · rw [if_pos (by omega), List.getElem?_take, if_pos hj, List.getElem?_drop, List.getElem?_eq_getElem h]
    rfl
  · rw [if_neg (by omega), List.getElem?_eq_none (by omega)]
    rfl
theorem progs_ok (k : Nat) (hk : k < 6) (x : List UInt8) (p : Nat) : ∀ (n i : Nat) (f : FlashSt), Live f → p + i + n ≤ 64 → (∀ m, 16 * (p + i) ≤ m → m < 16 * (p + i + n) → f.S.getD (k * 1024 + m) 0 = 255) →
    ∃ f', progs k p x n i f = (0, f') ∧ Live f' ∧ ∀ m, m < 6144 → f'.S.getD m 0 = if k * 1024 + 16 * (p + i) ≤ m ∧ m < k * 1024 + 16 * (p + i + n) then x.getD (m - (k * 1024 + 16 * p)) 255 else f.S.getD m 0
  | 0, i, f, hL, _, _ => ⟨f, rfl, hL, fun m hm => by rw [if_neg (by omega)]⟩
  | n + 1, i, f, hL, hp, hb => by
    have h1 : progF f k ((p + i : Nat) : Int) ((x.drop (16 * i)).take 16) = (0, doneP f (k * 1024 + (p + i) * 16) ((x.drop (16 * i)).take 16)) :=
      prog_ok f k (p + i) _ hL.dead hL.left hk (by omega) (by simp; omega) (fits_blank _ _ _ fun j hj => by
        have := hb (16 * (p + i) + j) (by omega) (by omega)
        rw [show k * 1024 + (p + i) * 16 + j = k * 1024 + (16 * (p + i) + j) by omega]; exact this)
    obtain ⟨f1, hf1⟩ : ∃ f1, doneP f (k * 1024 + (p + i) * 16) ((x.drop (16 * i)).take 16) = f1 := ⟨_, rfl⟩
    have hL1 : Live f1 := by rw [← hf1]; exact ⟨rfl, rfl, by rw [doneP_len]; exact hL.len⟩
    have hat : ∀ m, m < 6144 → f1.S.getD m 0 = if k * 1024 + (p + i) * 16 ≤ m ∧ m < k * 1024 + (p + i) * 16 + 16 then x.getD (m - (k * 1024 + 16 * p)) 255 else f.S.getD m 0 := fun m hm => by
      rw [← hf1, doneP_at _ _ _ _ (by rw [hL.len]; exact hm)]
      by_cases hc : k * 1024 + (p + i) * 16 ≤ m ∧ m < k * 1024 + (p + i) * 16 + 16
      · rw [if_pos hc, if_pos hc, pad_piece _ _ _ (by omega)]
        congr 1
        omega
      · rw [if_neg hc, if_neg hc]
    rw [hf1] at h1
    clear hf1
    obtain ⟨f', he, hL', hat'⟩ := progs_ok k hk x p n (i + 1) f1 hL1 (by omega) (fun m hm1 hm2 => by
      rw [hat _ (by omega), if_neg (by omega)]
      exact hb m (by omega) (by omega))
    refine ⟨f', ?_, hL', fun m hm => ?_⟩
    · simp only [progs]
      rw [if_pos (by rw [h1]), h1]
      exact he
    · rw [hat' m hm, hat m hm]
      by_cases h2 : k * 1024 + 16 * (p + (i + 1)) ≤ m ∧ m < k * 1024 + 16 * (p + (i + 1) + n)
      · rw [if_pos h2, if_pos (by omega)]
      · rw [if_neg h2]
        by_cases h3 : k * 1024 + (p + i) * 16 ≤ m ∧ m < k * 1024 + (p + i) * 16 + 16
        · rw [if_pos h3, if_pos (by omega)]
        · rw [if_neg h3, if_neg (by omega)]
theorem recP_getD (b : List UInt8) (j : Nat) (hj : j < 16 * pagesN b.length) : (recP b).getD j 0 = (sealed b).getD j 255 := by
  have hl := Xs b
  have hg := XQ b.length
  unfold recP
  simp only [List.getD_eq_getElem?_getD]
  by_cases h : j < (sealed b).length
  · rw [List.getElem?_append_left h, List.getElem?_eq_getElem h]; rfl
  · rw [List.getElem?_append_right (by omega), List.getElem?_replicate, if_pos (by omega), List.getElem?_eq_none (by omega)]; rfl
theorem Packed.at_ {c : List UInt8} {l : List (List UInt8)} (h : Packed c l) (m : Nat) (hm : m < 1024) : c.getD m 0 = if m < 16 * usedP l then (packP l).getD m 0 else 255 := by
  have hl := Y0 l
  conv => lhs; rw [h.eq]
  simp only [List.getD_eq_getElem?_getD]
  by_cases h1 : m < 16 * usedP l
  · rw [if_pos h1, List.getElem?_append_left (by omega)]
  · rw [if_neg h1, List.getElem?_append_right (by omega), List.getElem?_replicate, if_pos (by omega)]; rfl
theorem WV (f : FlashSt) (hL : Live f) (k : Nat) (hk : k < 6) (l : List (List UInt8)) (hP : Packed (readF f k) l) (b : List UInt8) (hb : b.length ≤ 1018) (hu : usedP l + pagesN b.length ≤ 64) :
    ∃ f', appendP f k b = (0, f') ∧ Live f' ∧ Packed (readF f' k) (l ++ [b]) ∧ ∀ j, j < 6 → j ≠ k → readF f' j = readF f j := by
  have hS : ∀ m, m < 1024 → f.S.getD (k * 1024 + m) 0 = if m < 16 * usedP l then (packP l).getD m 0 else 255 := fun m hm => by
    have h1 : (readF f k).getD m 0 = f.S.getD (k * 1024 + m) 0 := by rw [List.getD_eq_getElem?_getD, Wl f k hk hL.len m hm]; rfl
    rw [← hP.at_ m hm, h1]
  obtain ⟨f', he, hL', hat⟩ := progs_ok k hk (sealed b) (usedP l) (pagesN b.length) 0 f hL (by omega) (fun m h1 h2 => by rw [hS m (by omega), if_neg (by omega)])
  refine ⟨f', ?_, hL', ?_, ?_⟩
  · unfold appendP
    rw [if_neg (by omega), if_neg (by omega), hP.load, if_neg (by dsimp only; omega)]
    exact he
  · have hused : usedP (l ++ [b]) = usedP l + pagesN b.length := usedP_snoc b l
    refine ⟨?_, by omega, fun x hx => by
      rcases List.mem_append.1 hx with h | h
      · exact hP.short x h
      · simp at h; subst h; exact hb⟩
    rw [hused]
    have hlp := Y0 l
    have hlp2 := Y0 (l ++ [b])
    rw [hused] at hlp2
    apply List.ext_getElem?
    intro m
    by_cases hm : m < 1024
    · rw [Wl f' k hk hL'.len m hm, hat _ (by omega)]
      by_cases h1 : m < 16 * usedP l
      · rw [if_neg (by omega), hS m hm, if_pos h1, List.getElem?_append_left (by omega), packP_snoc, List.getElem?_append_left (by omega), List.getD_eq_getElem?_getD, List.getElem?_eq_getElem (by omega)]; rfl
      · by_cases h2 : m < 16 * (usedP l + pagesN b.length)
        · rw [if_pos (by omega), List.getElem?_append_left (by omega), packP_snoc, List.getElem?_append_right (by omega), hlp]
          have hr := recP_getD b (m - 16 * usedP l) (by omega)
          have hlr := X3 b
          rw [List.getD_eq_getElem?_getD, List.getElem?_eq_getElem (by omega)] at hr
          rw [List.getElem?_eq_getElem (by omega)]
          congr 1
          rw [show k * 1024 + m - (k * 1024 + 16 * usedP l) = m - 16 * usedP l by omega]
          exact hr.symm
        · rw [if_neg (by omega), hS m hm, if_neg h1, List.getElem?_append_right (by omega), List.getElem?_replicate, if_pos (by omega)]
    · have hr := Xp f' k hk hL'.len
      rw [List.getElem?_eq_none (by omega), List.getElem?_eq_none (by rw [List.length_append, hlp2, List.length_replicate]; omega)]
  · intro j hj hne
    apply List.ext_getElem?
    intro m
    by_cases hm : m < 1024
    · rw [Wl f' j hj hL'.len m hm, Wl f j hj hL.len m hm, hat _ (by omega), if_neg (by omega)]
    · rw [List.getElem?_eq_none (by rw [Xp f' j hj hL'.len]; omega), List.getElem?_eq_none (by rw [Xp f j hj hL.len]; omega)]
theorem append_full (f : FlashSt) (k : Nat) (hk : k < 6) (l : List (List UInt8)) (hP : Packed (readF f k) l) (b : List UInt8) (hb : b.length ≤ 1018) (hu : 64 < usedP l + pagesN b.length) : appendP f k b = (4, f) := by
  unfold appendP
  rw [if_neg (by omega), if_neg (by omega), hP.load, if_pos (by dsimp only; omega)]
theorem packed_new (k : Nat) (hk : k < 6) : Packed (readF newF k) [] := by
  refine ⟨?_, by simp [usedP], by simp⟩
  rw [show packP [] = [] from rfl, show usedP [] = 0 from rfl, List.nil_append, Nat.mul_zero, Nat.sub_zero]
  apply List.ext_getElem?
  intro m
  rw [List.getElem?_replicate]
  by_cases hm : m < 1024
  · rw [Wl newF k hk newF_len m hm, newF_at _ (by omega), if_pos hm]
  · rw [List.getElem?_eq_none (by rw [Xp newF k hk newF_len]; omega), if_neg hm]
end Go.Proofs.Ytkncomkncfcecaa
set_option linter.unusedVariables false
set_option linter.unusedSimpArgs false
namespace Go.Proofs.Ytkncomkncfcecaa
open Go.RowKit
theorem Wr (A : Option Addr) (n c : Nat) (l : List UInt8) (w : World) (hA : Bs w A n l) (hn : n ≤ 140737488355328) :
    Calls Try.prog 82 #[.slice A n c] w fun e w' => ∃ v, e = .returned v ∧ w'.ownsRow w.heap.size 5 1 v n (bv l) ∧ Below w.heap.size w w' := by
  obtain ⟨i0, hi0, hz0, hz1, hz2⟩ := info_parts byteInfo
  have hnil := fun W => Lib.run_eql_slice_nil (P := Try.prog) W 32 5 A n c 0 0 Try.underlying32
  rcases A with _ | ad
  · have h0 : n = 0 := by
      rcases Nat.eq_zero_or_pos n with h | h
      · exact h
      · obtain ⟨_, _, h, _⟩ := hA.2 h; cases h
    subst h0
    have hl : l = [] := List.eq_nil_of_length_eq_zero hA.len
    subst hl
    clear hA
    go_enter Try.func82, Try.ntmps82
    go_wp2
    go_ret
    exact ⟨_, rfl, World.ownsRow_nil _ _ _ _, Below.refl _ _⟩
  · go_enter Try.func82, Try.ntmps82
    go_wp2_with (at_builtin; refine YB _ rfl (.tmp 5) (.tmp 6) 32 rfl w.heap.size 5 i0 (.int .u8 0) 1 Try.underlying32 hi0 hz0 hz1 hz2 rfl (.slice (some ⟨w.heap.size, 0, none⟩) 0 0) 0 [] rfl (World.ownsRow_made w #[] 0 (Nat.le_refl _) (by simp [maxLen]) rfl) (some ad) n c (bv l) rfl (hA.alloc _) (WH l) (by omega) (by simp only [maxLen]; omega) (by simp) ?_; intro v1 w1 hown1 hg1 hat1)
    go_ret
    have hb := (Below.refl w.heap.size w).alloc (Nat.le_refl _) (.cells #[] 5)
    rw [Nat.zero_add, List.nil_append] at hown1
    exact ⟨_, rfl, hown1, hb.grown hg1 (by simp) (by simp [Value.ownBlock])⟩
end Go.Proofs.Ytkncomkncfcecaa
set_option linter.unusedVariables false
set_option linter.unusedSimpArgs false
namespace Go.Proofs.Ytkncomkncfcecaa
open Go.RowKit
theorem size_zeros (k : Nat) : (Builtin.zeroCells #[Value.int .u8 0] k).size = k := by simp [Builtin.zeroCells]
set_option maxRecDepth 100000 in
theorem grow_nil (k : Nat) (w : World) (hk : k ≤ 140737488355328) :
    Calls Try.prog 81 #[.slice none 0 0, .int .i64 k] w fun e w' => ∃ v, e = .returned v ∧ w'.ownsRow w.heap.size 5 1 v 0 [] ∧ Below w.heap.size w w' := by
  obtain ⟨i0, hi0, hz0, hz1, hz2⟩ := info_parts byteInfo
  by_cases h0 : 0 < k
  · have hr := Lib.run_append_grow_zeros (P := Try.prog) w 32 3 32 5 i0 (.int .u8 0) .i64 .i64 Try.underlying32 Try.underlying3 hi0 hz0 none 0 0 []
      (by simp [Builtin.firstCells]) k h0 (by omega) (by omega) (by omega) (by rw [hz2]; omega) (by rw [Nat.zero_add, nextslicecap_zero h0, hz2]; omega)
    have hc1 := grownCap_ge w (0 + k) 0 5
    have hc2 := grownCap_le_maxLen w (0 + k) 0 5 (by simp only [maxLen]; omega)
    generalize grownCap w (0 + k) 0 5 = g at hr hc1 hc2
    have hB := (Below.refl w.heap.size w).drew.alloc (Nat.le_refl _) (.cells (([] : List Value).toArray ++ Builtin.zeroCells #[Value.int .u8 0] k ++ Builtin.zeroCells #[Value.int .u8 0] (g - (0 + k))) 5)
    have hO := World.ownsRow_made (base := w.heap.size) (e := 5) (size := 1) w.drew (([] : List Value).toArray ++ Builtin.zeroCells #[Value.int .u8 0] k ++ Builtin.zeroCells #[Value.int .u8 0] (g - (0 + k))) g (Nat.le_refl _) hc2 (by simp [size_zeros]; omega)
    simp only [Value.cells] at hr
    generalize (([] : List Value).toArray ++ Builtin.zeroCells #[Value.int .u8 0] k ++ Builtin.zeroCells #[Value.int .u8 0] (g - (0 + k))) = C at hr hB hO
    rw [Nat.zero_add] at hr
    simp only [maxLen] at hc2
    have hkz : (0 : Int) < (k : Int) := by omega
    go_enter Try.func81, Try.ntmps81
    have HR := Lib.hid hr; clear hr
    go_wp2_with (at_builtin; refine wpList_append_run rfl (.tmp 20) (.tmp 21) 32 3 rfl (by rfl) (by rfl) HR.out ?_)
    go_ret
    exact ⟨_, rfl, hO, hB⟩
  · obtain rfl : k = 0 := by omega
    go_enter Try.func81, Try.ntmps81
    go_wp2
    go_ret
    exact ⟨_, rfl, World.ownsRow_nil _ _ _ _, Below.refl _ _⟩
set_option maxRecDepth 100000 in
theorem concat_any (A : Option Addr) (n c : Nat) (ls : List (List UInt8)) (w : World) (hA : Ps w A n ls) (hn : n ≤ 1048576) (hsum : ls.flatten.length ≤ 1099511627776) :
    Calls Try.prog 57 #[.slice A n c] w fun e w' => ∃ v, e = .returned v ∧ w'.ownsRow w.heap.size 5 1 v ls.flatten.length (bv ls.flatten) ∧ Below w.heap.size w w' := by
  obtain ⟨i0, hi0, hz0, hz1, hz2⟩ := info_parts byteInfo
  have hle : ∀ k, (ls.take k).flatten.length ≤ 1099511627776 := by
    intro k
    have : ls.flatten.length = (ls.take k).flatten.length + (ls.drop k).flatten.length := by
      rw [← List.length_append, ← List.flatten_append, List.take_append_drop]
    omega
  clear hsum
  go_enter Try.func57, Try.ntmps57
  go_wp2_with fail
  go_loop [3, 11] (fun v i => ∃ (k s : Nat), k ≤ n ∧ i = .int .i64 k ∧ v = .int .i64 s ∧ Hid (s = (ls.take k).flatten.length) ∧ s ≤ 1099511627776) (fun _ i => n - (intOf i).toNat)
  case atStart => exact ⟨0, 0, Nat.zero_le _, rfl, rfl, rfl, by omega⟩
  case round =>
    obtain ⟨k, s, hk, rfl, rfl, hs, hs2⟩ := hrel
    by_cases hlt : k < n
    · obtain ⟨pb, po, B, m, d, l, rfl, hcell, hB, hm, hd, ht, hsk⟩ := hA.next hlt
      have hx : (ls.take (k + 1)).flatten.length = s + m := by
        rw [ht.out, List.flatten_append, List.length_append, ← hs.out]; simp [hB.len]
      have hx2 := hle (k + 1)
      rw [hx] at hx2
      have Hx := Lib.hid hx; clear hx
      have hnn : ¬ ((s : Int) + (m : Int) < 0) := by omega
      go_wp2_with fail
      go_round
      case rel => exact ⟨k + 1, s + m, by omega, by go_num, by go_num, Hx.out.symm, hx2⟩
      case measure => simp [intOf]; omega
    · obtain rfl : k = n := by omega
      go_wp2_with (go_at_call 81; refine (grow_nil _ _ (by omega)).mono ?_; rintro e w1 ⟨v1, rfl, hown1, hb1⟩)
      go_loopw [6, 27] (fun v i wr => ∃ (j : Nat), j ≤ k ∧ i = .int .i64 j ∧ wr.ownsRow w.heap.size 5 1 v (ls.take j).flatten.length (bv (ls.take j).flatten) ∧ Below w.heap.size w wr) (fun _ i _ => k - (intOf i).toNat)
      case atStart => exact ⟨0, Nat.zero_le _, rfl, hown1, hb1⟩
      case round =>
        obtain ⟨j, hj, rfl, hown, hbel⟩ := hrel
        have hAr := hA.keep (.of_below hbel)
        have hx := hle j
        have hy := hle (j + 1)
        generalize hL : (ls.take j).flatten = L at hown hx
        have HL := Lib.hid hL; clear hL
        generalize hN : L.length = N at hown hx
        have HN := Lib.hid hN; clear hN
        by_cases hlt : j < k
        · obtain ⟨pb, po, B, m, d, l, rfl, hcell, hB, hm, hd, ht, hsk⟩ := hAr.next hlt
          have hNm : N + m ≤ 1099511627776 := by
            rw [ht.out, List.flatten_append, List.length_append, HL.out, HN.out] at hy; simpa [hB.len] using hy
          clear hy hle
          go_wp2_with (at_builtin; refine YB _ rfl (.tmp 31) (.tmp 32) 32 rfl w.heap.size 5 i0 (.int .u8 0) 1 Try.underlying32 hi0 hz0 hz1 hz2 rfl _ _ _ rfl hown B m d (bv l) rfl hB (WH l) (by omega) (by simp only [maxLen]; omega) hbel.size ?_; intro v1 w1 hown1 hg1 hat1)
          go_roundw
          case rel =>
            refine ⟨j + 1, by omega, by go_num, ?_, Yq hbel hg1 hown hbel.size⟩
            rw [ht.out, List.flatten_append, HL.out, List.length_append, HN.out, X0]
            simp only [List.flatten_cons, List.flatten_nil, List.append_nil]
            rw [hB.len]
            exact hown1
          case measure => simp [intOf]; omega
        · obtain rfl : j = k := by omega
          go_wp2_with fail
          go_ret
          refine ⟨_, rfl, ?_, hbel⟩
          rw [hA.all] at HL
          rw [HL.out, HN.out]
          exact hown
end Go.Proofs.Ytkncomkncfcecaa
