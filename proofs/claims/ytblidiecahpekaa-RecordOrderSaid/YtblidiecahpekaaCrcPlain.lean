/- The check sum as plain mathematics: its step is linear and loses nothing. No program in sight. -/
import Derived.Test.YtblidiecahpekaaLib
set_option linter.unusedVariables false
set_option linter.unusedSimpArgs false
namespace Go.Proofs.Ytblidiecahpekaa

/-- a bit's step -/
def crcBit (c : BitVec 32) : BitVec 32 := (c >>> 1) ^^^ (if c.getLsbD 0 then 0xEDB88320#32 else 0#32)
def crcByte (c : BitVec 32) (x : UInt8) : BitVec 32 := Nat.repeat crcBit 8 (c ^^^ x.toBitVec.setWidth 32)
def crcOn (c : BitVec 32) (l : List UInt8) : BitVec 32 := l.foldl crcByte c
def crc (l : List UInt8) : BitVec 32 := ~~~ (crcOn 0xFFFFFFFF#32 l)

theorem crcOn_append (c : BitVec 32) (l m : List UInt8) : crcOn c (l ++ m) = crcOn (crcOn c l) m := by simp [crcOn]
theorem crcOn_snoc (c : BitVec 32) (l : List UInt8) (x : UInt8) : crcOn c (l ++ [x]) = crcByte (crcOn c l) x := by simp [crcOn]
theorem crcOn_cons (c : BitVec 32) (l : List UInt8) (x : UInt8) : crcOn c (x :: l) = crcOn (crcByte c x) l := rfl
theorem crcOn_nil (c : BitVec 32) : crcOn c [] = c := rfl

theorem repeat_succ' {α : Type} (f : α → α) (n : Nat) (a : α) : Nat.repeat f (n + 1) a = f (Nat.repeat f n a) := rfl

/-- the bit's step, the bit apart -/
def crcPick (b : Bool) (c : BitVec 32) : BitVec 32 := c ^^^ (if b then 0xEDB88320#32 else 0#32)
theorem crcBit_pick (c : BitVec 32) : crcBit c = crcPick (c.getLsbD 0) (c >>> 1) := rfl
theorem xor_self_mid (x y : BitVec 32) : x ^^^ (y ^^^ x) = y := by
  rw [BitVec.xor_comm y x, ← BitVec.xor_assoc, BitVec.xor_self, BitVec.zero_xor]
theorem crcPick_xor (p q : Bool) (a b : BitVec 32) : crcPick (Bool.xor p q) (a ^^^ b) = crcPick p a ^^^ crcPick q b := by
  cases p <;> cases q <;> simp only [crcPick, Bool.xor_false, Bool.xor_true, Bool.not_false, Bool.not_true, if_true, Bool.false_eq_true, if_false, BitVec.xor_zero]
  · ac_rfl
  · ac_rfl
  · rw [BitVec.xor_assoc a, xor_self_mid]
theorem crcBit_xor (a b : BitVec 32) : crcBit (a ^^^ b) = crcBit a ^^^ crcBit b := by
  rw [crcBit_pick, crcBit_pick, crcBit_pick, BitVec.getLsbD_xor, BitVec.ushiftRight_xor_distrib]
  exact crcPick_xor _ _ _ _
theorem crcPick_top (b : Bool) (c : BitVec 32) (h : c.getLsbD 31 = false) : (crcPick b c).getLsbD 31 = b := by
  unfold crcPick
  rw [BitVec.getLsbD_xor, h]
  cases b <;> rfl
theorem crcPick_inj (b : Bool) {c d : BitVec 32} (h : crcPick b c = crcPick b d) : c = d := (BitVec.xor_left_inj _).1 h
theorem shr_top (c : BitVec 32) : (c >>> 1).getLsbD 31 = false := by
  rw [BitVec.getLsbD_ushiftRight]; exact BitVec.getLsbD_of_ge _ _ (by omega)
theorem crcBit_inj {a b : BitVec 32} (h : crcBit a = crcBit b) : a = b := by
  rw [crcBit_pick, crcBit_pick] at h
  have h0 : a.getLsbD 0 = b.getLsbD 0 := by
    rw [← crcPick_top (a.getLsbD 0) (a >>> 1) (shr_top _), h, crcPick_top _ _ (shr_top _)]
  rw [h0] at h
  have hs := crcPick_inj _ h
  apply BitVec.eq_of_getLsbD_eq
  intro i hi
  cases i with
  | zero => exact h0
  | succ i =>
    have := congrArg (fun c => BitVec.getLsbD c i) hs
    simpa only [BitVec.getLsbD_ushiftRight, Nat.add_comm 1 i] using this

theorem rep_xor (n : Nat) (a b : BitVec 32) : Nat.repeat crcBit n (a ^^^ b) = Nat.repeat crcBit n a ^^^ Nat.repeat crcBit n b := by
  induction n with
  | zero => rfl
  | succ n ih => rw [repeat_succ', repeat_succ', repeat_succ', ih, crcBit_xor]
theorem rep_inj (n : Nat) {a b : BitVec 32} (h : Nat.repeat crcBit n a = Nat.repeat crcBit n b) : a = b := by
  induction n with
  | zero => exact h
  | succ n ih => rw [repeat_succ', repeat_succ'] at h; exact ih (crcBit_inj h)
theorem wide_xor (x y : UInt8) : (x ^^^ y).toBitVec.setWidth 32 = x.toBitVec.setWidth 32 ^^^ y.toBitVec.setWidth 32 := by
  rw [UInt8.toBitVec_xor]; exact BitVec.setWidth_xor
theorem wide_inj {x y : UInt8} (h : x.toBitVec.setWidth 32 = y.toBitVec.setWidth 32) : x = y := by
  have := congrArg BitVec.toNat h
  simp only [BitVec.toNat_setWidth] at this
  have hx := x.toBitVec.isLt
  have hy := y.toBitVec.isLt
  rw [Nat.mod_eq_of_lt (by omega), Nat.mod_eq_of_lt (by omega)] at this
  exact UInt8.toBitVec_inj.1 (BitVec.eq_of_toNat_eq this)
theorem crcByte_xor (c d : BitVec 32) (x y : UInt8) : crcByte (c ^^^ d) (x ^^^ y) = crcByte c x ^^^ crcByte d y := by
  unfold crcByte
  rw [wide_xor, ← rep_xor]
  congr 1
  ac_rfl
theorem crcByte_inj {c d : BitVec 32} {x : UInt8} (h : crcByte c x = crcByte d x) : c = d := (BitVec.xor_left_inj _).1 (rep_inj 8 h)
theorem crcByte_inj2 {c : BitVec 32} {x y : UInt8} (h : crcByte c x = crcByte c y) : x = y := wide_inj ((BitVec.xor_right_inj _).1 (rep_inj 8 h))
theorem crcOn_inj (l : List UInt8) : ∀ {c d : BitVec 32}, crcOn c l = crcOn d l → c = d := by
  induction l with
  | nil => intro c d h; exact h
  | cons x l ih => intro c d h; exact crcByte_inj (ih h)
/-- one byte turned: another sum -/
theorem crc_turned (l m : List UInt8) (x y : UInt8) (h : x ≠ y) : crc (l ++ x :: m) ≠ crc (l ++ y :: m) := by
  intro e
  have e := BitVec.not_inj.1 e
  rw [crcOn_append, crcOn_append, crcOn_cons, crcOn_cons] at e
  exact h (crcByte_inj2 (crcOn_inj m e))
theorem crcOn_zip (a b : List UInt8) : ∀ (c d : BitVec 32), a.length = b.length → crcOn (c ^^^ d) (List.zipWith (· ^^^ ·) a b) = crcOn c a ^^^ crcOn d b := by
  induction a generalizing b with
  | nil => intro c d h; have : b = [] := List.eq_nil_of_length_eq_zero h.symm; subst this; rfl
  | cons x a ih =>
    intro c d h
    cases b with
    | nil => simp at h
    | cons y b =>
      rw [List.zipWith_cons_cons, crcOn_cons, crcOn_cons, crcOn_cons, crcByte_xor]
      exact ih b _ _ (by simpa using h)
/-- sums laid upon one another -/
theorem crc_lines (a b : List UInt8) (h : a.length = b.length) :
    crc a ^^^ crc b ^^^ crc (List.replicate a.length 0) = crc (List.zipWith (· ^^^ ·) a b) := by
  have hz : List.zipWith (· ^^^ ·) (List.zipWith (· ^^^ ·) a b) (List.replicate a.length (0 : UInt8)) = List.zipWith (· ^^^ ·) a b := by
    apply List.ext_getElem
    · simp [h]
    · intro i h1 h2; simp
  have h1 := crcOn_zip (List.zipWith (· ^^^ ·) a b) (List.replicate a.length (0 : UInt8)) (0xFFFFFFFF#32 ^^^ 0xFFFFFFFF#32) 0xFFFFFFFF#32 (by simp [h])
  rw [crcOn_zip a b _ _ h, hz] at h1
  have h2 : crcOn 0xFFFFFFFF#32 (List.zipWith (· ^^^ ·) a b) = crcOn 0xFFFFFFFF#32 a ^^^ crcOn 0xFFFFFFFF#32 b ^^^ crcOn 0xFFFFFFFF#32 (List.replicate a.length 0) := h1
  unfold crc
  rw [h2]
  generalize crcOn 0xFFFFFFFF#32 a = p
  generalize crcOn 0xFFFFFFFF#32 b = q
  generalize crcOn 0xFFFFFFFF#32 (List.replicate a.length 0) = r
  apply BitVec.eq_of_getLsbD_eq
  intro i hi
  simp only [BitVec.getLsbD_xor, BitVec.getLsbD_not, hi, decide_true, Bool.true_and]
  cases p.getLsbD i <;> cases q.getLsbD i <;> cases r.getLsbD i <;> rfl
theorem crc_known : crc [49, 50, 51, 52, 53, 54, 55, 56, 57] = 0xCBF43926#32 := by decide +kernel

/-! ### the step as the code's arithmetic writes it -/
theorem crcByte_start (c : BitVec 32) (x : UInt8) : bits .xor .u32 (c.toNat : Int) ((x.toNat : Int) % 4294967296) = ((c ^^^ x.toBitVec.setWidth 32).toNat : Int) := by
  have hx := x.toNat_lt
  rw [show ((x.toNat : Int) % 4294967296) = ((x.toBitVec.setWidth 32).toNat : Int) from by
    rw [BitVec.toNat_setWidth, UInt8.toNat_toBitVec, Nat.mod_eq_of_lt (by omega)]; omega]
  exact u32_xor_bv _ _
theorem crcBit_code (c : BitVec 32) : bits .xor .u32 ((c.toNat : Int) / 2) (3988292384 * bits .and .u32 (c.toNat : Int) 1 % 4294967296) = ((crcBit c).toNat : Int) := by
  have h1 : bits .and .u32 (c.toNat : Int) 1 = ((c.toNat % 2 : Nat) : Int) := by
    have := u32_and_nat c.toNat 1 c.isLt (by omega)
    rw [nat_mask1] at this
    exact this
  have h2 : ((c.toNat : Int) / (2 : Int)) = ((c >>> 1).toNat : Int) := by
    rw [BitVec.toNat_ushiftRight, Nat.shiftRight_eq_div_pow]; omega
  have h3 : (3988292384 * ((c.toNat % 2 : Nat) : Int) % 4294967296) = ((if c.getLsbD 0 then 0xEDB88320#32 else 0#32).toNat : Int) := by
    have hb : c.getLsbD 0 = decide (c.toNat % 2 = 1) := by
      rw [BitVec.getLsbD, Nat.testBit_zero]
    rw [hb]
    by_cases h : c.toNat % 2 = 1
    · simp [h]
    · have h0 : c.toNat % 2 = 0 := by omega
      simp [h0]
  rw [h1, h2, h3]
  exact u32_xor_bv _ _
theorem crc_not (c : BitVec 32) : bits .xor .u32 IntKind.u32.max (c.toNat : Int) = ((~~~ c).toNat : Int) := by
  have := u32_xor_bv (BitVec.allOnes 32) c
  rw [BitVec.allOnes_xor] at this
  exact this
/-- the step as the reference has it -/
theorem crcBit_odd (c : BitVec 32) (h : (bits .and .u32 (c.toNat : Int) 1 == 1) = true) : bits .xor .u32 ((c.toNat : Int) / 2) 3988292384 = ((crcBit c).toNat : Int) := by
  have e : bits .and .u32 (c.toNat : Int) 1 = 1 := by simpa using h
  rw [← crcBit_code c, e]; rfl
theorem crcBit_even (c : BitVec 32) (h : (bits .and .u32 (c.toNat : Int) 1 == 1) = false) : ((c.toNat : Int) / 2) = ((crcBit c).toNat : Int) := by
  have h1 : bits .and .u32 (c.toNat : Int) 1 = ((c.toNat % 2 : Nat) : Int) := by
    have := u32_and_nat c.toNat 1 c.isLt (by omega)
    rw [nat_mask1] at this
    exact this
  have h0 : c.toNat % 2 = 0 := by
    rw [h1] at h
    have : ¬ ((c.toNat % 2 : Nat) : Int) = 1 := by simpa using h
    omega
  rw [← crcBit_code c, h1, h0]
  have h2 : ((c.toNat : Int) / (2 : Int)) = ((c >>> 1).toNat : Int) := by
    rw [BitVec.toNat_ushiftRight, Nat.shiftRight_eq_div_pow]; omega
  rw [h2]
  have := u32_xor_bv (c >>> 1) 0#32
  rw [BitVec.xor_zero] at this
  exact this.symm

/-! ### two rows laid upon one another, byte by byte -/
def xorRow (a b : List UInt8) (r j : Nat) : List UInt8 := List.zipWith (· ^^^ ·) (a.take j) (b.take j) ++ List.replicate (r - j) 0
theorem xorRow_zero (a b : List UInt8) (r : Nat) : xorRow a b r 0 = List.replicate r 0 := by simp [xorRow]
theorem xorRow_end (a b : List UInt8) (r : Nat) (ha : a.length = r) (hb : b.length = r) : xorRow a b r r = List.zipWith (· ^^^ ·) a b := by
  simp [xorRow, List.take_of_length_le, ha, hb]
theorem xorRow_front (a b : List UInt8) (r j : Nat) (ha : a.length = r) (hb : b.length = r) (hj : j ≤ r) : (List.zipWith (· ^^^ ·) (a.take j) (b.take j)).length = j := by
  rw [List.length_zipWith, List.length_take, List.length_take, ha, hb]; omega
theorem xorRow_at (a b : List UInt8) (r j : Nat) (ha : a.length = r) (hb : b.length = r) (hj : j < r) : (xorRow a b r j)[j]? = some 0 := by
  have h := xorRow_front a b r j ha hb (by omega)
  unfold xorRow
  rw [List.getElem?_append_right (Nat.le_of_eq h), h, Nat.sub_self, List.getElem?_replicate]
  have : 0 < r - j := by omega
  simp [this]
theorem xorRow_set (a b : List UInt8) (r j : Nat) (x y : UInt8) (ha : a.length = r) (hb : b.length = r) (hj : j < r) (hx : a[j]? = some x) (hy : b[j]? = some y) :
    (xorRow a b r j).set j (x ^^^ y) = xorRow a b r (j + 1) := by
  have h := xorRow_front a b r j ha hb (by omega)
  have ta : a.take (j + 1) = a.take j ++ [x] := by rw [List.take_add_one, hx]; rfl
  have tb : b.take (j + 1) = b.take j ++ [y] := by rw [List.take_add_one, hy]; rfl
  have hl : (a.take j).length = (b.take j).length := by rw [List.length_take, List.length_take, ha, hb]
  unfold xorRow
  rw [ta, tb, List.zipWith_append hl, List.set_append_right _ _ (Nat.le_of_eq h), h, Nat.sub_self]
  rw [show r - j = (r - (j + 1)) + 1 by omega, List.replicate_succ]
  simp

/-! ### one byte turned -/
theorem crc_set (l : List UInt8) (k : Nat) (x y : UInt8) (hx : l[k]? = some x) (h : x ≠ y) : crc (l.set k y) ≠ crc l := by
  have hk : k < l.length := (List.getElem?_eq_some_iff.1 hx).1
  have e1 : l = l.take k ++ x :: l.drop (k + 1) := by
    have := List.take_append_drop k l
    rw [List.drop_eq_getElem_cons hk] at this
    have hx' : l[k] = x := (List.getElem?_eq_some_iff.1 hx).2
    rw [hx'] at this
    exact this.symm
  have e2 : l.set k y = l.take k ++ y :: l.drop (k + 1) := List.set_eq_take_append_cons_drop.trans (by rw [if_pos hk])
  rw [e2]
  intro e
  refine crc_turned (l.take k) (l.drop (k + 1)) y x (Ne.symm h) ?_
  rw [e, ← e1]
theorem xor_back (x m : UInt8) : x ^^^ m ^^^ m = x := by
  apply UInt8.toBitVec_inj.1
  rw [UInt8.toBitVec_xor, UInt8.toBitVec_xor, BitVec.xor_assoc, BitVec.xor_self, BitVec.xor_zero]
theorem xor_other (x m : UInt8) (h : m ≠ 0) : x ≠ x ^^^ m := by
  intro e
  apply h
  have : x ^^^ x = x ^^^ (x ^^^ m) := congrArg (fun z => x ^^^ z) e
  rw [← UInt8.xor_assoc, UInt8.xor_self, UInt8.zero_xor] at this
  exact this.symm
/-- one bit of a byte -/
def oneBit (s : Nat) : UInt8 := UInt8.ofNat (2 ^ s)
theorem oneBit_toNat (s : Nat) (h : s < 8) : (oneBit s).toNat = 2 ^ s := by
  have : 2 ^ s < 256 := Nat.pow_lt_pow_right (by omega) h
  simp [oneBit]
  omega
theorem oneBit_ne (s : Nat) (h : s < 8) : oneBit s ≠ 0 := by
  intro e
  have h1 := congrArg UInt8.toNat e
  rw [oneBit_toNat s h] at h1
  have h2 : 0 < 2 ^ s := Nat.pow_pos (by omega)
  have h3 : (0 : UInt8).toNat = 0 := rfl
  omega
theorem oneBit_code (s : Nat) (hs : s < 8) : ((2 : Int) ^ min (s : Int).toNat 8 % 256) = ((oneBit s).toNat : Int) := by
  rw [oneBit_toNat s hs]
  have h1 : min (s : Int).toNat 8 = s := by omega
  have h2 : 2 ^ s < 256 := Nat.pow_lt_pow_right (by omega) hs
  rw [h1]
  have h3 : ((2 : Int) ^ s) = ((2 ^ s : Nat) : Int) := by simp
  rw [h3]
  generalize 2 ^ s = q at h2
  omega
theorem oneBit_code2 (s : Nat) (hs : s < 8) : IntKind.u8.wrap ((2 : Int) ^ s) = ((oneBit s).toNat : Int) := by
  have h := oneBit_code s hs
  have h1 : min (s : Int).toNat 8 = s := by omega
  rw [h1] at h
  rw [← h]
  rfl
end Go.Proofs.Ytblidiecahpekaa
