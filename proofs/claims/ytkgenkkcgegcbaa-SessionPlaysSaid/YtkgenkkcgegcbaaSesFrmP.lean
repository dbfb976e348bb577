/- What was written is read as it was: plain. The check sum as plain mathematics: its step is linear and loses nothing. No program in sight. Sealed bytes, and what opening them answers, as plain mathematics. Frames, plain: how they are written, how they are read. -/
import Derived.Test.YtkgenkkcgegcbaaReader
import Derived.Test.YtkgenkkcgegcbaaLib
import Derived.Test.YtkgenkkcgegcbaaConcat
namespace Go.Proofs.Ytkgenkkcgegcbaa
open Go.RowKit

/-- a number that was taken -/
def tkN (t : List UInt8 × List UInt8 × Int) : Int := wrap64 (leN t.1 : Int)
theorem leN_head (l : List UInt8) (h : l.length ≤ 1) : leN l = (l.headD 0).toNat := by
  match l, h with
  | [], _ => rfl
  | [x], _ => simp [leN]
theorem taken_ok (a m : List UInt8) (k : Nat) (h : a.length = k) : taken (a ++ m) 0 k = (a, m, 0) := by
  unfold taken
  rw [if_neg (by simp; omega), if_neg (by simp), ← h, List.take_left, List.drop_left]
theorem text_back (t m : List UInt8) : textOf (textBytes t ++ m) 0 = (txt t, m, 0) := by
  have hl : (txt t).length ≤ 65535 := by rw [length_txt]; omega
  have h1 : taken (textBytes t ++ m) 0 2 = ([UInt8.ofNat (txt t).length, UInt8.ofNat ((txt t).length / 256)], txt t ++ m, 0) := by
    unfold textBytes
    rw [List.append_assoc]
    exact taken_ok _ _ 2 rfl
  have h2 : leN [UInt8.ofNat (txt t).length, UInt8.ofNat ((txt t).length / 256)] = (txt t).length := by
    have e0 := low8 (txt t).length
    have e1 := shr8 (txt t).length hl
    simp only [leN, List.foldr_cons, List.foldr_nil]
    omega
  unfold textOf
  rw [h1]
  dsimp only
  rw [h2]
  exact taken_ok _ _ _ rfl
theorem leN_le8 (x : Int) : (leN (le8 x) : Int) = x % 18446744073709551616 := by
  have h : ∀ k, k ≤ 8 → (leN ((le8 x).take k) : Int) = x % 18446744073709551616 % 2 ^ (8 * k) := by
    intro k
    induction k with
    | zero => intro _; simp [leN, Int.emod_one]
    | succ k ih =>
      intro hk
      have hkl : ((le8 x).take k).length = k := by rw [List.length_take, length_le8]; omega
      rw [le8_next x k (by omega), leN_append, leN_one, hkl]
      have h1 := ih (by omega)
      have h2 := i64byte_val x k
      have hy : 0 ≤ x % 18446744073709551616 := Int.emod_nonneg _ (by decide)
      generalize x % 18446744073709551616 = y at h1 h2 hy ⊢
      obtain ⟨n, rfl⟩ := Int.eq_ofNat_of_zero_le hy
      have h3 : (2 : Int) ^ (8 * (k + 1)) = 2 ^ (8 * k) * 256 := by
        rw [show 8 * (k + 1) = 8 * k + 8 by omega, Int.pow_add]; rfl
      have h4 : ((256 ^ k : Nat) : Int) = 2 ^ (8 * k) := by rw [Int.pow_mul, Int.natCast_pow]; rfl
      rw [h3, Int.natCast_add, Int.natCast_mul, h1, h2, ← h4]
      generalize 256 ^ k = q
      have h5 := @Nat.mod_mul q 256 n
      have h6 : ((n % (q * 256) : Nat) : Int) = ((n % q + q * (n / q % 256) : Nat) : Int) := by rw [h5]
      simpa using h6.symm
  have := h 8 (Nat.le_refl _)
  rw [le8_all] at this
  rw [this]
  omega
theorem int_back (x : Int) (hx : -9223372036854775808 ≤ x ∧ x ≤ 9223372036854775807) : wrap64 (leN (le8 x) : Int) = x := by
  rw [leN_le8]; unfold wrap64; omega
end Go.Proofs.Ytkgenkkcgegcbaa
namespace Go.Proofs.Ytkgenkkcgegcbaa

/-- a bit's step -/
def crcBit (c : BitVec 32) : BitVec 32 := (c >>> 1) ^^^ (if c.getLsbD 0 then 0xEDB88320#32 else 0#32)
def crcByte (c : BitVec 32) (x : UInt8) : BitVec 32 := Nat.repeat crcBit 8 (c ^^^ x.toBitVec.setWidth 32)
def crcOn (c : BitVec 32) (l : List UInt8) : BitVec 32 := l.foldl crcByte c
def crc (l : List UInt8) : BitVec 32 := ~~~ (crcOn 0xFFFFFFFF#32 l)

theorem crcOn_append (c : BitVec 32) (l m : List UInt8) : crcOn c (l ++ m) = crcOn (crcOn c l) m := by simp [crcOn]
theorem crcOn_snoc (c : BitVec 32) (l : List UInt8) (x : UInt8) : crcOn c (l ++ [x]) = crcByte (crcOn c l) x := by simp [crcOn]
theorem crcOn_cons (c : BitVec 32) (l : List UInt8) (x : UInt8) : crcOn c (x :: l) = crcOn (crcByte c x) l := rfl
theorem crcOn_nil (c : BitVec 32) : crcOn c [] = c := rfl

theorem repeat_succ' {α : Type} (f : α → α) (n : Nat) (a : α) : Nat.repeat f (n + 1) a = f (Nat.repeat f n a) := rfl

/-- the bit's step, the bit apart -/
def crcPick (b : Bool) (c : BitVec 32) : BitVec 32 := c ^^^ (if b then 0xEDB88320#32 else 0#32)
theorem crcBit_pick (c : BitVec 32) : crcBit c = crcPick (c.getLsbD 0) (c >>> 1) := rfl
theorem xor_self_mid (x y : BitVec 32) : x ^^^ (y ^^^ x) = y := by
  rw [BitVec.xor_comm y x, ← BitVec.xor_assoc, BitVec.xor_self, BitVec.zero_xor]
theorem crcPick_xor (p q : Bool) (a b : BitVec 32) : crcPick (Bool.xor p q) (a ^^^ b) = crcPick p a ^^^ crcPick q b := by
  cases p <;> cases q <;> simp only [crcPick, Bool.xor_false, Bool.xor_true, Bool.not_false, Bool.not_true, if_true, Bool.false_eq_true, if_false, BitVec.xor_zero]
  · ac_rfl
  · ac_rfl
  · rw [BitVec.xor_assoc a, xor_self_mid]
theorem crcBit_xor (a b : BitVec 32) : crcBit (a ^^^ b) = crcBit a ^^^ crcBit b := by
  rw [crcBit_pick, crcBit_pick, crcBit_pick, BitVec.getLsbD_xor, BitVec.ushiftRight_xor_distrib]
  exact crcPick_xor _ _ _ _
theorem crcPick_top (b : Bool) (c : BitVec 32) (h : c.getLsbD 31 = false) : (crcPick b c).getLsbD 31 = b := by
  unfold crcPick
  rw [BitVec.getLsbD_xor, h]
  cases b <;> rfl
theorem crcPick_inj (b : Bool) {c d : BitVec 32} (h : crcPick b c = crcPick b d) : c = d := (BitVec.xor_left_inj _).1 h
theorem shr_top (c : BitVec 32) : (c >>> 1).getLsbD 31 = false := by
  rw [BitVec.getLsbD_ushiftRight]; exact BitVec.getLsbD_of_ge _ _ (by omega)
theorem crcBit_inj {a b : BitVec 32} (h : crcBit a = crcBit b) : a = b := by
  rw [crcBit_pick, crcBit_pick] at h
  have h0 : a.getLsbD 0 = b.getLsbD 0 := by
    rw [← crcPick_top (a.getLsbD 0) (a >>> 1) (shr_top _), h, crcPick_top _ _ (shr_top _)]
  rw [h0] at h
  have hs := crcPick_inj _ h
  apply BitVec.eq_of_getLsbD_eq
  intro i hi
  cases i with
  | zero => exact h0
  | succ i =>
    have := congrArg (fun c => BitVec.getLsbD c i) hs
    simpa only [BitVec.getLsbD_ushiftRight, Nat.add_comm 1 i] using this

theorem rep_xor (n : Nat) (a b : BitVec 32) : Nat.repeat crcBit n (a ^^^ b) = Nat.repeat crcBit n a ^^^ Nat.repeat crcBit n b := by
  induction n with
  | zero => rfl
  | succ n ih => rw [repeat_succ', repeat_succ', repeat_succ', ih, crcBit_xor]
theorem rep_inj (n : Nat) {a b : BitVec 32} (h : Nat.repeat crcBit n a = Nat.repeat crcBit n b) : a = b := by
  induction n with
  | zero => exact h
  | succ n ih => rw [repeat_succ', repeat_succ'] at h; exact ih (crcBit_inj h)
theorem wide_xor (x y : UInt8) : (x ^^^ y).toBitVec.setWidth 32 = x.toBitVec.setWidth 32 ^^^ y.toBitVec.setWidth 32 := by
  rw [UInt8.toBitVec_xor]; exact BitVec.setWidth_xor
theorem wide_inj {x y : UInt8} (h : x.toBitVec.setWidth 32 = y.toBitVec.setWidth 32) : x = y := by
  have := congrArg BitVec.toNat h
  simp only [BitVec.toNat_setWidth] at this
  have hx := x.toBitVec.isLt
  have hy := y.toBitVec.isLt
  rw [Nat.mod_eq_of_lt (by omega), Nat.mod_eq_of_lt (by omega)] at this
  exact UInt8.toBitVec_inj.1 (BitVec.eq_of_toNat_eq this)
theorem crcByte_xor (c d : BitVec 32) (x y : UInt8) : crcByte (c ^^^ d) (x ^^^ y) = crcByte c x ^^^ crcByte d y := by
  unfold crcByte
  rw [wide_xor, ← rep_xor]
  congr 1
  ac_rfl
theorem crcByte_inj {c d : BitVec 32} {x : UInt8} (h : crcByte c x = crcByte d x) : c = d := (BitVec.xor_left_inj _).1 (rep_inj 8 h)
theorem crcByte_inj2 {c : BitVec 32} {x y : UInt8} (h : crcByte c x = crcByte c y) : x = y := wide_inj ((BitVec.xor_right_inj _).1 (rep_inj 8 h))
theorem crcOn_inj (l : List UInt8) : ∀ {c d : BitVec 32}, crcOn c l = crcOn d l → c = d := by
  induction l with
  | nil => intro c d h; exact h
  | cons x l ih => intro c d h; exact crcByte_inj (ih h)
/-- one byte turned: another sum -/
theorem crc_turned (l m : List UInt8) (x y : UInt8) (h : x ≠ y) : crc (l ++ x :: m) ≠ crc (l ++ y :: m) := by
  intro e
  have e := BitVec.not_inj.1 e
  rw [crcOn_append, crcOn_append, crcOn_cons, crcOn_cons] at e
  exact h (crcByte_inj2 (crcOn_inj m e))
theorem crcOn_zip (a b : List UInt8) : ∀ (c d : BitVec 32), a.length = b.length → crcOn (c ^^^ d) (List.zipWith (· ^^^ ·) a b) = crcOn c a ^^^ crcOn d b := by
  induction a generalizing b with
  | nil => intro c d h; have : b = [] := List.eq_nil_of_length_eq_zero h.symm; subst this; rfl
  | cons x a ih =>
    intro c d h
    cases b with
    | nil => simp at h
    | cons y b =>
      rw [List.zipWith_cons_cons, crcOn_cons, crcOn_cons, crcOn_cons, crcByte_xor]
      exact ih b _ _ (by simpa using h)
/-- sums laid upon one another -/
theorem crc_lines (a b : List UInt8) (h : a.length = b.length) :
    crc a ^^^ crc b ^^^ crc (List.replicate a.length 0) = crc (List.zipWith (· ^^^ ·) a b) := by
  have hz : List.zipWith (· ^^^ ·) (List.zipWith (· ^^^ ·) a b) (List.replicate a.length (0 : UInt8)) = List.zipWith (· ^^^ ·) a b := by
    apply List.ext_getElem
    · simp [h]
    · intro i h1 h2; simp
  have h1 := crcOn_zip (List.zipWith (· ^^^ ·) a b) (List.replicate a.length (0 : UInt8)) (0xFFFFFFFF#32 ^^^ 0xFFFFFFFF#32) 0xFFFFFFFF#32 (by simp [h])
  rw [crcOn_zip a b _ _ h, hz] at h1
  have h2 : crcOn 0xFFFFFFFF#32 (List.zipWith (· ^^^ ·) a b) = crcOn 0xFFFFFFFF#32 a ^^^ crcOn 0xFFFFFFFF#32 b ^^^ crcOn 0xFFFFFFFF#32 (List.replicate a.length 0) := h1
  unfold crc
  rw [h2]
  generalize crcOn 0xFFFFFFFF#32 a = p
  generalize crcOn 0xFFFFFFFF#32 b = q
  generalize crcOn 0xFFFFFFFF#32 (List.replicate a.length 0) = r
  apply BitVec.eq_of_getLsbD_eq
  intro i hi
  simp only [BitVec.getLsbD_xor, BitVec.getLsbD_not, hi, decide_true, Bool.true_and]
  cases p.getLsbD i <;> cases q.getLsbD i <;> cases r.getLsbD i <;> rfl
theorem crc_known : crc [49, 50, 51, 52, 53, 54, 55, 56, 57] = 0xCBF43926#32 := by decide +kernel

/-! ### the step as the code's arithmetic writes it -/
theorem crcByte_start (c : BitVec 32) (x : UInt8) : bits .xor .u32 (c.toNat : Int) ((x.toNat : Int) % 4294967296) = ((c ^^^ x.toBitVec.setWidth 32).toNat : Int) := by
  have hx := x.toNat_lt
  rw [show ((x.toNat : Int) % 4294967296) = ((x.toBitVec.setWidth 32).toNat : Int) from by
    rw [BitVec.toNat_setWidth, UInt8.toNat_toBitVec, Nat.mod_eq_of_lt (by omega)]; omega]
  exact u32_xor_bv _ _
theorem crcBit_code (c : BitVec 32) : bits .xor .u32 ((c.toNat : Int) / 2) (3988292384 * bits .and .u32 (c.toNat : Int) 1 % 4294967296) = ((crcBit c).toNat : Int) := by
  have h1 : bits .and .u32 (c.toNat : Int) 1 = ((c.toNat % 2 : Nat) : Int) := by
    have := u32_and_nat c.toNat 1 c.isLt (by omega)
    rw [nat_mask1] at this
    exact this
  have h2 : ((c.toNat : Int) / (2 : Int)) = ((c >>> 1).toNat : Int) := by
    rw [BitVec.toNat_ushiftRight, Nat.shiftRight_eq_div_pow]; omega
  have h3 : (3988292384 * ((c.toNat % 2 : Nat) : Int) % 4294967296) = ((if c.getLsbD 0 then 0xEDB88320#32 else 0#32).toNat : Int) := by
    have hb : c.getLsbD 0 = decide (c.toNat % 2 = 1) := by
      rw [BitVec.getLsbD, Nat.testBit_zero]
    rw [hb]
    by_cases h : c.toNat % 2 = 1
    · simp [h]
    · have h0 : c.toNat % 2 = 0 := by omega
      simp [h0]
  rw [h1, h2, h3]
  exact u32_xor_bv _ _
theorem crc_not (c : BitVec 32) : bits .xor .u32 IntKind.u32.max (c.toNat : Int) = ((~~~ c).toNat : Int) := by
  have := u32_xor_bv (BitVec.allOnes 32) c
  rw [BitVec.allOnes_xor] at this
  exact this
/-- the step as the reference has it -/
theorem crcBit_odd (c : BitVec 32) (h : (bits .and .u32 (c.toNat : Int) 1 == 1) = true) : bits .xor .u32 ((c.toNat : Int) / 2) 3988292384 = ((crcBit c).toNat : Int) := by
  have e : bits .and .u32 (c.toNat : Int) 1 = 1 := by simpa using h
  rw [← crcBit_code c, e]; rfl
theorem crcBit_even (c : BitVec 32) (h : (bits .and .u32 (c.toNat : Int) 1 == 1) = false) : ((c.toNat : Int) / 2) = ((crcBit c).toNat : Int) := by
  have h1 : bits .and .u32 (c.toNat : Int) 1 = ((c.toNat % 2 : Nat) : Int) := by
    have := u32_and_nat c.toNat 1 c.isLt (by omega)
    rw [nat_mask1] at this
    exact this
  have h0 : c.toNat % 2 = 0 := by
    rw [h1] at h
    have : ¬ ((c.toNat % 2 : Nat) : Int) = 1 := by simpa using h
    omega
  rw [← crcBit_code c, h1, h0]
  have h2 : ((c.toNat : Int) / (2 : Int)) = ((c >>> 1).toNat : Int) := by
    rw [BitVec.toNat_ushiftRight, Nat.shiftRight_eq_div_pow]; omega
  rw [h2]
  have := u32_xor_bv (c >>> 1) 0#32
  rw [BitVec.xor_zero] at this
  exact this.symm

/-! ### two rows laid upon one another, byte by byte -/
def xorRow (a b : List UInt8) (r j : Nat) : List UInt8 := List.zipWith (· ^^^ ·) (a.take j) (b.take j) ++ List.replicate (r - j) 0
theorem xorRow_zero (a b : List UInt8) (r : Nat) : xorRow a b r 0 = List.replicate r 0 := by simp [xorRow]
theorem xorRow_end (a b : List UInt8) (r : Nat) (ha : a.length = r) (hb : b.length = r) : xorRow a b r r = List.zipWith (· ^^^ ·) a b := by
  simp [xorRow, List.take_of_length_le, ha, hb]
theorem xorRow_front (a b : List UInt8) (r j : Nat) (ha : a.length = r) (hb : b.length = r) (hj : j ≤ r) : (List.zipWith (· ^^^ ·) (a.take j) (b.take j)).length = j := by
  rw [List.length_zipWith, List.length_take, List.length_take, ha, hb]; omega
theorem xorRow_at (a b : List UInt8) (r j : Nat) (ha : a.length = r) (hb : b.length = r) (hj : j < r) : (xorRow a b r j)[j]? = some 0 := by
  have h := xorRow_front a b r j ha hb (by omega)
  unfold xorRow
  rw [List.getElem?_append_right (Nat.le_of_eq h), h, Nat.sub_self, List.getElem?_replicate]
  have : 0 < r - j := by omega
  simp [this]
theorem xorRow_set (a b : List UInt8) (r j : Nat) (x y : UInt8) (ha : a.length = r) (hb : b.length = r) (hj : j < r) (hx : a[j]? = some x) (hy : b[j]? = some y) :
    (xorRow a b r j).set j (x ^^^ y) = xorRow a b r (j + 1) := by
  have h := xorRow_front a b r j ha hb (by omega)
  have ta : a.take (j + 1) = a.take j ++ [x] := by rw [List.take_add_one, hx]; rfl
  have tb : b.take (j + 1) = b.take j ++ [y] := by rw [List.take_add_one, hy]; rfl
  have hl : (a.take j).length = (b.take j).length := by rw [List.length_take, List.length_take, ha, hb]
  unfold xorRow
  rw [ta, tb, List.zipWith_append hl, List.set_append_right _ _ (Nat.le_of_eq h), h, Nat.sub_self]
  rw [show r - j = (r - (j + 1)) + 1 by omega, List.replicate_succ]
  simp

/-! ### one byte turned -/
theorem crc_set (l : List UInt8) (k : Nat) (x y : UInt8) (hx : l[k]? = some x) (h : x ≠ y) : crc (l.set k y) ≠ crc l := by
  have hk : k < l.length := (List.getElem?_eq_some_iff.1 hx).1
  have e1 : l = l.take k ++ x :: l.drop (k + 1) := by
    have := List.take_append_drop k l
    rw [List.drop_eq_getElem_cons hk] at this
    have hx' : l[k] = x := (List.getElem?_eq_some_iff.1 hx).2
    rw [hx'] at this
    exact this.symm
  have e2 : l.set k y = l.take k ++ y :: l.drop (k + 1) := List.set_eq_take_append_cons_drop.trans (by rw [if_pos hk])
  rw [e2]
  intro e
  refine crc_turned (l.take k) (l.drop (k + 1)) y x (Ne.symm h) ?_
  rw [e, ← e1]
theorem xor_back (x m : UInt8) : x ^^^ m ^^^ m = x := by
  apply UInt8.toBitVec_inj.1
  rw [UInt8.toBitVec_xor, UInt8.toBitVec_xor, BitVec.xor_assoc, BitVec.xor_self, BitVec.xor_zero]
theorem xor_other (x m : UInt8) (h : m ≠ 0) : x ≠ x ^^^ m := by
  intro e
  apply h
  have : x ^^^ x = x ^^^ (x ^^^ m) := congrArg (fun z => x ^^^ z) e
  rw [← UInt8.xor_assoc, UInt8.xor_self, UInt8.zero_xor] at this
  exact this.symm
/-- one bit of a byte -/
def oneBit (s : Nat) : UInt8 := UInt8.ofNat (2 ^ s)
theorem oneBit_toNat (s : Nat) (h : s < 8) : (oneBit s).toNat = 2 ^ s := by
  have : 2 ^ s < 256 := Nat.pow_lt_pow_right (by omega) h
  simp [oneBit]
  omega
theorem oneBit_ne (s : Nat) (h : s < 8) : oneBit s ≠ 0 := by
  intro e
  have h1 := congrArg UInt8.toNat e
  rw [oneBit_toNat s h] at h1
  have h2 : 0 < 2 ^ s := Nat.pow_pos (by omega)
  have h3 : (0 : UInt8).toNat = 0 := rfl
  omega
theorem oneBit_code (s : Nat) (hs : s < 8) : ((2 : Int) ^ min (s : Int).toNat 8 % 256) = ((oneBit s).toNat : Int) := by
  rw [oneBit_toNat s hs]
  have h1 : min (s : Int).toNat 8 = s := by omega
  have h2 : 2 ^ s < 256 := Nat.pow_lt_pow_right (by omega) hs
  rw [h1]
  have h3 : ((2 : Int) ^ s) = ((2 ^ s : Nat) : Int) := by simp
  rw [h3]
  generalize 2 ^ s = q at h2
  omega
theorem oneBit_code2 (s : Nat) (hs : s < 8) : IntKind.u8.wrap ((2 : Int) ^ s) = ((oneBit s).toNat : Int) := by
  have h := oneBit_code s hs
  have h1 : min (s : Int).toNat 8 = s := by omega
  rw [h1] at h
  rw [← h]
  rfl
end Go.Proofs.Ytkgenkkcgegcbaa
namespace Go.Proofs.Ytkgenkkcgegcbaa

def u8n (n : Nat) : UInt8 := UInt8.ofNat n
theorem u8n_toNat (n : Nat) : (u8n n).toNat = n % 256 := by simp [u8n]
/-- the six bytes ahead -/
def sealHead (l : List UInt8) : List UInt8 :=
  [u8n l.length, u8n (l.length / 256), u8n (crc l).toNat, u8n ((crc l).toNat / 256), u8n ((crc l).toNat / 65536), u8n ((crc l).toNat / 16777216)]
def sealed (l : List UInt8) : List UInt8 := sealHead l ++ l
theorem length_sealHead (l : List UInt8) : (sealHead l).length = 6 := rfl
theorem length_sealed (l : List UInt8) : (sealed l).length = l.length + 6 := by simp [sealed, length_sealHead]; omega

/-- the number of n bytes, the lowest first -/
def le (l : List UInt8) : Nat := l.foldr (fun x r => x.toNat + 256 * r) 0

/-- opening: the bytes, how many were read, the error's number -/
def opened (b : List UInt8) : List UInt8 × Nat × Nat :=
  if b.length < 6 then ([], 0, 8)
  else if b.length - 6 < le (b.take 2) then ([], 0, 8)
  else if (crc ((b.drop 6).take (le (b.take 2)))).toNat ≠ le ((b.drop 2).take 4) then ([], 0, 10)
  else ((b.drop 6).take (le (b.take 2)), 6 + le (b.take 2), 0)

theorem le_inj : ∀ (a b : List UInt8), a.length = b.length → le a = le b → a = b
  | [], [], _, _ => rfl
  | x :: a, y :: b, hl, h => by
    simp only [le, List.foldr_cons] at h
    have hx := byte_lt x
    have hy := byte_lt y
    have e : x = y := UInt8.toNat_inj.1 (by omega)
    have hr : le a = le b := by unfold le; omega
    rw [e, le_inj a b (by simpa using hl) hr]
  | [], _ :: _, hl, _ => by simp at hl
  | _ :: _, [], hl, _ => by simp at hl

theorem le_head2 (n : Nat) (h : n ≤ 65535) : le [u8n n, u8n (n / 256)] = n := by
  simp only [le, List.foldr_cons, List.foldr_nil, u8n_toNat]; omega
theorem le_head4 (c : Nat) (h : c < 4294967296) : le [u8n c, u8n (c / 256), u8n (c / 65536), u8n (c / 16777216)] = c := by
  simp only [le, List.foldr_cons, List.foldr_nil, u8n_toNat]; omega

theorem sealed_take2 (l m : List UInt8) : (sealed l ++ m).take 2 = [u8n l.length, u8n (l.length / 256)] := rfl
theorem sealed_mid4 (l m : List UInt8) : ((sealed l ++ m).drop 2).take 4 = [u8n (crc l).toNat, u8n ((crc l).toNat / 256), u8n ((crc l).toNat / 65536), u8n ((crc l).toNat / 16777216)] := rfl
theorem sealed_drop6 (l m : List UInt8) : (sealed l ++ m).drop 6 = l ++ m := rfl

/-- what was sealed is opened as it was, whatever stands behind it -/
theorem opened_sealed (l m : List UInt8) (hl : l.length ≤ 65535) : opened (sealed l ++ m) = (l, 6 + l.length, 0) := by
  unfold opened
  rw [sealed_take2, le_head2 _ hl, sealed_mid4, le_head4 _ (crc l).isLt, sealed_drop6]
  have h1 : (sealed l ++ m).length = l.length + 6 + m.length := by rw [List.length_append, length_sealed]
  rw [if_neg (by omega), if_neg (by omega), List.take_left, if_neg (by omega)]
theorem opened_sealed' (l : List UInt8) (hl : l.length ≤ 65535) : opened (sealed l) = (l, 6 + l.length, 0) := by
  have := opened_sealed l [] hl
  rwa [List.append_nil] at this

/-- a front of what was sealed is cut -/
theorem opened_cut (l : List UInt8) (k : Nat) (hl : l.length ≤ 65535) (hk : k < l.length + 6) : opened ((sealed l).take k) = ([], 0, 8) := by
  have h1 : ((sealed l).take k).length = k := by rw [List.length_take, length_sealed]; omega
  unfold opened
  rw [h1]
  by_cases h6 : k < 6
  · rw [if_pos h6]
  · rw [if_neg h6]
    have h2 : ((sealed l).take k).take 2 = [u8n l.length, u8n (l.length / 256)] := by
      rw [List.take_take, Nat.min_eq_left (by omega)]; rfl
    rw [h2, le_head2 _ hl, if_pos (by omega)]

/-- a bit that is turned behind the length is found -/
theorem opened_turned (l : List UInt8) (i : Nat) (z y : UInt8) (hl : l.length ≤ 65535) (hi : i < l.length + 4) (hz : (sealed l)[2 + i]? = some z) (hy : z ≠ y) :
    opened ((sealed l).set (2 + i) y) = ([], 0, 10) := by
  have h1 : ((sealed l).set (2 + i) y).length = l.length + 6 := by rw [List.length_set, length_sealed]
  have h2 : ((sealed l).set (2 + i) y).take 2 = [u8n l.length, u8n (l.length / 256)] := by
    rw [List.take_set, List.set_eq_of_length_le (by rw [List.length_take]; omega)]; rfl
  unfold opened
  rw [h1, h2, le_head2 _ hl, if_neg (by omega), if_neg (by omega)]
  have hd : ((sealed l).set (2 + i) y).drop 2 = ((sealed l).drop 2).set i y := by
    rw [List.drop_set, if_neg (by omega), Nat.add_sub_cancel_left]
  by_cases h4 : i < 4
  · have e1 : (((sealed l).set (2 + i) y).drop 6).take l.length = l := by
      rw [List.drop_set_of_lt (by omega)]
      show l.take l.length = l
      exact List.take_length
    have e2 : (((sealed l).set (2 + i) y).drop 2).take 4 = (((sealed l).drop 2).take 4).set i y := by rw [hd, List.take_set]
    rw [e1, e2, if_pos]
    intro e
    have hc : (crc l).toNat = le (((sealed l).drop 2).take 4) := (le_head4 _ (crc l).isLt).symm
    rw [hc] at e
    have h3 := le_inj _ _ (by simp) e
    have h4' := congrArg (fun q => q[i]?) h3
    simp only [List.getElem?_take, if_pos h4, List.getElem?_drop, hz] at h4'
    rw [List.getElem?_set_self] at h4'
    · injection h4' with h4'; exact hy h4'
    · rw [List.length_take, List.length_drop, length_sealed]; omega
  · have e1 : (((sealed l).set (2 + i) y).drop 6).take l.length = l.set (i - 4) y := by
      rw [List.drop_set, if_neg (by omega), show 2 + i - 6 = i - 4 by omega]
      show (l.set (i - 4) y).take l.length = _
      rw [← @List.length_set _ l (i - 4) y]
      exact List.take_length
    have e2 : (((sealed l).set (2 + i) y).drop 2).take 4 = ((sealed l).drop 2).take 4 := by
      rw [hd, List.take_set, List.set_eq_of_length_le (by rw [List.length_take]; omega)]
    have hz' : l[i - 4]? = some z := by
      rw [← hz]
      unfold sealed
      rw [List.getElem?_append_right (by rw [length_sealHead]; omega), length_sealHead]
      congr 1
      omega
    rw [e1, e2, if_pos]
    intro e
    have hc : (crc l).toNat = le (((sealed l).drop 2).take 4) := (le_head4 _ (crc l).isLt).symm
    rw [← hc] at e
    exact crc_set l (i - 4) z y hz' hy (BitVec.eq_of_toNat_eq e)
end Go.Proofs.Ytkgenkkcgegcbaa
namespace Go.Proofs.Ytkgenkkcgegcbaa
open Go.RowKit
def frameTail (f : Frm) : List UInt8 := if f.kind = 1 then le8 f.size ++ f.sum else if f.kind = 2 then le8 f.at_ ++ textBytes f.data else []
def frameBody (f : Frm) : List UInt8 := (le8 f.kind ++ le8 f.id) ++ frameTail f
def frameBytes (f : Frm) : List UInt8 := sealed (frameBody f)
theorem frameTail_len (f : Frm) (hs : f.sum.length = 32) (hd : f.data.length ≤ 60000) : (frameTail f).length ≤ 60010 := by
  unfold frameTail
  split
  · simp [length_le8, hs]
  · split
    · rw [List.length_append, length_le8, length_textBytes, length_txt]; omega
    · simp
theorem frameBody_len (f : Frm) (hs : f.sum.length = 32) (hd : f.data.length ≤ 60000) : (frameBody f).length ≤ 60026 := by
  have := frameTail_len f hs hd
  unfold frameBody
  rw [List.length_append, List.length_append, length_le8, length_le8]
  omega

/-! ### reading -/
abbrev HSt := List UInt8 × List UInt8 × Int
def hashStep (s : HSt) : HSt := (s.1 ++ [(taken s.2.1 s.2.2 1).1.headD 0], (taken s.2.1 s.2.2 1).2)
def hashN : Nat → HSt → HSt
  | 0, s => s
  | k + 1, s => hashStep (hashN k s)
theorem hashN_len (k : Nat) (l : List UInt8) (e : Int) : (hashN k ([], l, e)).1.length = k := by
  induction k with
  | zero => rfl
  | succ k ih => simp [hashN, hashStep, ih]
theorem hashN_back (h m : List UInt8) : ∀ k, k ≤ h.length → hashN k ([], h ++ m, 0) = (h.take k, h.drop k ++ m, 0) := by
  intro k
  induction k with
  | zero => intro _; rfl
  | succ k ih =>
    intro hk
    have hk' : k < h.length := by omega
    rw [hashN, ih (by omega)]
    have e1 : h.drop k ++ m = [h[k]] ++ (h.drop (k + 1) ++ m) := by rw [List.drop_eq_getElem_cons hk']; rfl
    unfold hashStep
    simp only
    rw [e1, taken_ok _ _ 1 rfl, List.take_succ_eq_append_getElem hk']
    rfl
def finF (f : Frm) (e : Int) : Frm × Int := if e = 0 ∧ ¬ 64 < f.data.length then (f, 0) else (zeroFrm, if e = 0 then 5 else e)
def kindE (k e : Int) : Int := if e = 0 then (if k < 1 ∨ 5 < k then 3 else 0) else e
def parseY (k id : Int) (l : List UInt8) (e : Int) : Frm × Int :=
  if k = 1 then finF ⟨k, id, tkN (taken l e 8), 0, (hashN 32 ([], (taken l e 8).2)).1, []⟩ (ended (hashN 32 ([], (taken l e 8).2)).2.1 (hashN 32 ([], (taken l e 8).2)).2.2)
  else if k = 2 then finF ⟨k, id, 0, tkN (taken l e 8), z32, (textOf (taken l e 8).2.1 (taken l e 8).2.2).1⟩ (ended (textOf (taken l e 8).2.1 (taken l e 8).2.2).2.1 (textOf (taken l e 8).2.1 (taken l e 8).2.2).2.2)
  else finF ⟨k, id, 0, 0, z32, []⟩ (ended l e)
def parseZ (k : Int) (l : List UInt8) (e : Int) : Frm × Int := parseY k (tkN (taken l e 8)) (taken l e 8).2.1 (taken l e 8).2.2
def parseX (x : List UInt8) : Frm × Int := parseZ (tkN (taken x 0 8)) (taken x 0 8).2.1 (kindE (tkN (taken x 0 8)) (taken x 0 8).2.2)
def parseF (b : List UInt8) : Frm × Int :=
  if (opened b).2.2 ≠ 0 then (zeroFrm, (opened b).2.2) else if (opened b).2.1 < b.length then (zeroFrm, 9) else parseX (opened b).1
/-- what a frame's kind names -/
def nf (f : Frm) : Frm := if f.kind = 1 then ⟨f.kind, f.id, f.size, 0, f.sum, []⟩ else if f.kind = 2 then ⟨f.kind, f.id, 0, f.at_, z32, f.data⟩ else ⟨f.kind, f.id, 0, 0, z32, []⟩
theorem tkN_le8 (x : Int) (hx : I64 x) (m : List UInt8) : taken (le8 x ++ m) 0 8 = (le8 x, m, 0) ∧ tkN (le8 x, m, 0) = x := ⟨taken_ok _ _ 8 (length_le8 x), int_back x hx⟩
theorem parseX_body (f : Frm) (hk : 1 ≤ f.kind ∧ f.kind ≤ 5) (hid : I64 f.id) (hsz : I64 f.size) (hat : I64 f.at_) (hs : f.sum.length = 32) (hd : f.data.length ≤ 60000) : parseX (frameBody f) = finF (nf f) 0 := by
  have hK : I64 f.kind := by unfold I64; omega
  unfold parseX frameBody
  rw [List.append_assoc, (tkN_le8 _ hK _).1, (tkN_le8 _ hK _).2]
  have hE : kindE f.kind 0 = 0 := by unfold kindE; rw [if_pos rfl, if_neg (by omega)]
  simp only
  rw [hE]
  unfold parseZ
  rw [(tkN_le8 _ hid _).1, (tkN_le8 _ hid _).2]
  simp only
  unfold parseY frameTail nf
  by_cases h1 : f.kind = 1
  · rw [if_pos h1, if_pos h1, if_pos h1, (tkN_le8 _ hsz _).1, (tkN_le8 _ hsz _).2]
    simp only
    have hb := hashN_back f.sum [] 32 (by omega)
    rw [List.append_nil, List.take_of_length_le (by omega), List.drop_of_length_le (by omega)] at hb
    rw [hb]
    rfl
  · rw [if_neg h1, if_neg h1, if_neg h1]
    by_cases h2 : f.kind = 2
    · rw [if_pos h2, if_pos h2, if_pos h2, (tkN_le8 _ hat _).1, (tkN_le8 _ hat _).2]
      simp only
      have hb := text_back f.data []
      rw [List.append_nil] at hb
      rw [hb]
      simp only
      rw [show txt f.data = f.data from List.take_of_length_le (by omega)]
      rfl
    · rw [if_neg h2, if_neg h2, if_neg h2]
      rfl
theorem opened_frame (f : Frm) (hs : f.sum.length = 32) (hd : f.data.length ≤ 60000) : opened (frameBytes f) = (frameBody f, (frameBytes f).length, 0) := by
  have := frameBody_len f hs hd
  unfold frameBytes
  rw [opened_sealed' _ (by omega), length_sealed, Nat.add_comm]
theorem parse_written (f : Frm) (hk : 1 ≤ f.kind ∧ f.kind ≤ 5) (hid : I64 f.id) (hsz : I64 f.size) (hat : I64 f.at_) (hs : f.sum.length = 32) (hd : f.data.length ≤ 60000) : parseF (frameBytes f) = finF (nf f) 0 := by
  unfold parseF
  rw [opened_frame f hs hd]
  simp only
  rw [if_neg (by omega), if_neg (by omega)]
  exact parseX_body f hk hid hsz hat hs hd
theorem parse_cut (f : Frm) (hs : f.sum.length = 32) (hd : f.data.length ≤ 60000) (k : Nat) (hk : k < (frameBytes f).length) : parseF ((frameBytes f).take k) = (zeroFrm, 8) := by
  have := frameBody_len f hs hd
  unfold frameBytes at hk ⊢
  rw [length_sealed] at hk
  unfold parseF
  rw [opened_cut _ k (by omega) hk]
  rfl
theorem parse_more (f : Frm) (hs : f.sum.length = 32) (hd : f.data.length ≤ 60000) (m : List UInt8) (hm : m ≠ []) : parseF (frameBytes f ++ m) = (zeroFrm, 9) := by
  have := frameBody_len f hs hd
  have hm' := List.length_pos_iff.2 hm
  unfold parseF frameBytes
  rw [opened_sealed _ m (by omega)]
  simp only
  rw [if_neg (by omega), if_pos (by rw [List.length_append, length_sealed]; omega)]
theorem parse_turned (f : Frm) (hs : f.sum.length = 32) (hd : f.data.length ≤ 60000) (i : Nat) (z y : UInt8) (hi : i + 2 < (frameBytes f).length) (hz : (frameBytes f)[2 + i]? = some z) (hy : z ≠ y) : (parseF ((frameBytes f).set (2 + i) y)).2 = 10 := by
  have := frameBody_len f hs hd
  unfold frameBytes at hi hz ⊢
  rw [length_sealed] at hi
  have ho := opened_turned _ i z y (by omega) (by omega) hz hy
  unfold parseF
  rw [ho]
  rfl
end Go.Proofs.Ytkgenkkcgegcbaa
