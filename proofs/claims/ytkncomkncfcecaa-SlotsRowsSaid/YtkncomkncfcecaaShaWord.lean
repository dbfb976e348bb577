/- What was written is read as it was: plain. The sum SHA-256 of a list of bytes, plainly. No program in sight. Arrays in memory: laid zero, a table's literal, the whole of one read, written. A word turned to the right: the code's and the document's. -/
import Derived.Test.YtkncomkncfcecaaReader
import Derived.Test.YtkncomkncfcecaaLib
import Derived.Test.YtkncomkncfcecaaChecked
import Derived.Laws.Tables
import Derived.Laws.Rows
set_option linter.unusedVariables false
set_option linter.unusedSimpArgs false
namespace Go.Proofs.Ytkncomkncfcecaa
open Go.RowKit

/-- a number that was taken -/
def tkN (t : List UInt8 × List UInt8 × Int) : Int := wrap64 (leN t.1 : Int)
theorem leN_head (l : List UInt8) (h : l.length ≤ 1) : leN l = (l.headD 0).toNat := by
  match l, h with
  | [], _ => rfl
  | [x], _ => simp [leN]
theorem taken_ok (a m : List UInt8) (k : Nat) (h : a.length = k) : taken (a ++ m) 0 k = (a, m, 0) := by
  unfold taken
  rw [if_neg (by simp; omega), if_neg (by simp), ← h, List.take_left, List.drop_left]
theorem text_back (t m : List UInt8) : textOf (textBytes t ++ m) 0 = (txt t, m, 0) := by
  have hl : (txt t).length ≤ 65535 := by rw [length_txt]; omega
  have h1 : taken (textBytes t ++ m) 0 2 = ([UInt8.ofNat (txt t).length, UInt8.ofNat ((txt t).length / 256)], txt t ++ m, 0) := by
    unfold textBytes
    rw [List.append_assoc]
    exact taken_ok _ _ 2 rfl
  have h2 : leN [UInt8.ofNat (txt t).length, UInt8.ofNat ((txt t).length / 256)] = (txt t).length := by
    have e0 := low8 (txt t).length
    have e1 := shr8 (txt t).length hl
    simp only [leN, List.foldr_cons, List.foldr_nil]
    omega
  unfold textOf
  rw [h1]
  dsimp only
  rw [h2]
  exact taken_ok _ _ _ rfl
theorem leN_le8 (x : Int) : (leN (le8 x) : Int) = x % 18446744073709551616 := by
  have h : ∀ k, k ≤ 8 → (leN ((le8 x).take k) : Int) = x % 18446744073709551616 % 2 ^ (8 * k) := by
    intro k
    induction k with
    | zero => intro _; simp [leN, Int.emod_one]
    | succ k ih =>
      intro hk
      have hkl : ((le8 x).take k).length = k := by rw [List.length_take, length_le8]; omega
      rw [le8_next x k (by omega), leN_append, leN_one, hkl]
      have h1 := ih (by omega)
      have h2 := i64byte_val x k
      have hy : 0 ≤ x % 18446744073709551616 := Int.emod_nonneg _ (by decide)
      generalize x % 18446744073709551616 = y at h1 h2 hy ⊢
      obtain ⟨n, rfl⟩ := Int.eq_ofNat_of_zero_le hy
      have h3 : (2 : Int) ^ (8 * (k + 1)) = 2 ^ (8 * k) * 256 := by
        rw [show 8 * (k + 1) = 8 * k + 8 by omega, Int.pow_add]; rfl
      have h4 : ((256 ^ k : Nat) : Int) = 2 ^ (8 * k) := by rw [Int.pow_mul, Int.natCast_pow]; rfl
      rw [h3, Int.natCast_add, Int.natCast_mul, h1, h2, ← h4]
      generalize 256 ^ k = q
      have h5 := @Nat.mod_mul q 256 n
      have h6 : ((n % (q * 256) : Nat) : Int) = ((n % q + q * (n / q % 256) : Nat) : Int) := by rw [h5]
      simpa using h6.symm
  have := h 8 (Nat.le_refl _)
  rw [le8_all] at this
  rw [this]
  omega
theorem int_back (x : Int) (hx : -9223372036854775808 ≤ x ∧ x ≤ 9223372036854775807) : wrap64 (leN (le8 x) : Int) = x := by
  rw [leN_le8]; unfold wrap64; omega
end Go.Proofs.Ytkncomkncfcecaa
set_option linter.unusedVariables false
set_option linter.unusedSimpArgs false
namespace Go.Proofs.Ytkncomkncfcecaa
open Go.RowKit

abbrev W32 := BitVec 32
/-- a word turned to the right -/
def ror (x : W32) (n : Nat) : W32 := (x >>> n) ||| (x <<< (32 - n))
abbrev uv (x : W32) : Value := .int .u32 (x.toNat : Int)
def wv (l : List W32) : List Value := l.map fun x => .int .u32 (x.toNat : Int)
theorem length_wv (l : List W32) : (wv l).length = l.length := by simp [wv]
structure ShaSt where
  a : W32
  b : W32
  c : W32
  d : W32
  e : W32
  f : W32
  g : W32
  h : W32
def ShaSt.words (s : ShaSt) : List W32 := [s.a, s.b, s.c, s.d, s.e, s.f, s.g, s.h]
def sig0 (x : W32) : W32 := ror x 7 ^^^ ror x 18 ^^^ (x >>> 3)
def sig1 (x : W32) : W32 := ror x 17 ^^^ ror x 19 ^^^ (x >>> 10)
def byteW (x : UInt8) : W32 := BitVec.ofNat 32 x.toNat
def be4 (x0 x1 x2 x3 : UInt8) : W32 := (byteW x0 <<< 24) ||| (byteW x1 <<< 16) ||| (byteW x2 <<< 8) ||| byteW x3
def be32 (l : List UInt8) (q : Nat) : W32 := be4 (l.getD q 0) (l.getD (q + 1) 0) (l.getD (q + 2) 0) (l.getD (q + 3) 0)
/-- the first words of a piece -/
def wl (b : List UInt8) : Nat → List W32
  | 0 => []
  | i + 1 => wl b i ++ [if i < 16 then be32 b (4 * i) else (wl b i).getD (i - 16) 0 + sig0 ((wl b i).getD (i - 15) 0) + (wl b i).getD (i - 7) 0 + sig1 ((wl b i).getD (i - 2) 0)]
theorem length_wl (b : List UInt8) (i : Nat) : (wl b i).length = i := by
  induction i with
  | zero => rfl
  | succ i ih => simp [wl, ih]
def ks : List W32 := [
  0x428a2f98, 0x71374491, 0xb5c0fbcf, 0xe9b5dba5, 0x3956c25b, 0x59f111f1, 0x923f82a4, 0xab1c5ed5,
  0xd807aa98, 0x12835b01, 0x243185be, 0x550c7dc3, 0x72be5d74, 0x80deb1fe, 0x9bdc06a7, 0xc19bf174,
  0xe49b69c1, 0xefbe4786, 0x0fc19dc6, 0x240ca1cc, 0x2de92c6f, 0x4a7484aa, 0x5cb0a9dc, 0x76f988da,
  0x983e5152, 0xa831c66d, 0xb00327c8, 0xbf597fc7, 0xc6e00bf3, 0xd5a79147, 0x06ca6351, 0x14292967,
  0x27b70a85, 0x2e1b2138, 0x4d2c6dfc, 0x53380d13, 0x650a7354, 0x766a0abb, 0x81c2c92e, 0x92722c85,
  0xa2bfe8a1, 0xa81a664b, 0xc24b8b70, 0xc76c51a3, 0xd192e819, 0xd6990624, 0xf40e3585, 0x106aa070,
  0x19a4c116, 0x1e376c08, 0x2748774c, 0x34b0bcb5, 0x391c0cb3, 0x4ed8aa4a, 0x5b9cca4f, 0x682e6ff3,
  0x748f82ee, 0x78a5636f, 0x84c87814, 0x8cc70208, 0x90befffa, 0xa4506ceb, 0xbef9a3f7, 0xc67178f2]
def st0 : ShaSt := ⟨0x6a09e667, 0xbb67ae85, 0x3c6ef372, 0xa54ff53a, 0x510e527f, 0x9b05688c, 0x1f83d9ab, 0x5be0cd19⟩
/-- the two sums of a round -/
def shaX (t : ShaSt) (k w : W32) : W32 := t.h + (ror t.e 6 ^^^ ror t.e 11 ^^^ ror t.e 25) + ((t.e &&& t.f) ^^^ (~~~t.e &&& t.g)) + k + w
def shaY (t : ShaSt) : W32 := (ror t.a 2 ^^^ ror t.a 13 ^^^ ror t.a 22) + ((t.a &&& t.b) ^^^ (t.a &&& t.c) ^^^ (t.b &&& t.c))
def shaRound (t : ShaSt) (k w : W32) : ShaSt := ⟨shaX t k w + shaY t, t.a, t.b, t.c, t.d + shaX t k w, t.e, t.f, t.g⟩
def rounds (b : List UInt8) (s : ShaSt) : Nat → ShaSt
  | 0 => s
  | i + 1 => shaRound (rounds b s i) (ks.getD i 0) ((wl b 64).getD i 0)
def addSt (s t : ShaSt) : ShaSt := ⟨t.a + s.a, t.b + s.b, t.c + s.c, t.d + s.d, t.e + s.e, t.f + s.f, t.g + s.g, t.h + s.h⟩
/-- the first j words are added -/
def addW (t s : List W32) (j : Nat) : List W32 := (List.zipWith (· + ·) t s).take j ++ t.drop j
theorem length_addW (t s : List W32) (h : t.length = s.length) (j : Nat) (hj : j ≤ t.length) : (addW t s j).length = t.length := by
  unfold addW
  rw [List.length_append, List.length_take, List.length_zipWith, List.length_drop]
  omega
theorem addW_get (t s : List W32) (h : t.length = s.length) (j : Nat) (hj : j < t.length) : (addW t s j).getD j 0 = t.getD j 0 := by
  unfold addW
  rw [List.getD_eq_getElem?_getD, List.getElem?_append_right (by rw [List.length_take, List.length_zipWith]; omega), List.length_take, List.length_zipWith, List.getElem?_drop, List.getD_eq_getElem?_getD]
  congr 2
  omega
theorem addW_set (t s : List W32) (h : t.length = s.length) (j : Nat) (hj : j < t.length) : (addW t s j).set j (t.getD j 0 + s.getD j 0) = addW t s (j + 1) := by
  unfold addW
  have hz : ((List.zipWith (· + ·) t s).take j).length = j := by rw [List.length_take, List.length_zipWith]; omega
  rw [List.set_append_right _ _ (by omega), hz, Nat.sub_self, List.drop_eq_getElem_cons hj, List.set_cons_zero, List.take_succ_eq_append_getElem (by rw [List.length_zipWith]; omega), List.append_assoc]
  simp [hj, show j < s.length by omega]
theorem addW_all (s t : ShaSt) : addW t.words s.words 8 = (addSt s t).words := rfl
def comp (s : ShaSt) (b : List UInt8) : ShaSt := addSt s (rounds b s 64)
/-- how many zeros -/
def zeros (n : Nat) : Nat := (119 - n % 64) % 64
def lenBytes (n : Nat) : Nat → List UInt8
  | 0 => []
  | i + 1 => lenBytes n i ++ [UInt8.ofNat (n * 8 / 2 ^ (56 - 8 * i))]
/-- with the first k zeros, the first j bytes of its length -/
def padZ (l : List UInt8) (k : Nat) : List UInt8 := l ++ [0x80] ++ List.replicate k 0
def padL (l : List UInt8) (j : Nat) : List UInt8 := padZ l (zeros l.length) ++ lenBytes l.length j
theorem padZ_next (l : List UInt8) (k : Nat) : padZ l k ++ [0] = padZ l (k + 1) := by
  unfold padZ
  rw [List.append_assoc, ← List.replicate_succ']
theorem padL_next (l : List UInt8) (j : Nat) (x : UInt8) (hx : x = UInt8.ofNat (l.length * 8 / 2 ^ (56 - 8 * j))) : padL l j ++ [x] = padL l (j + 1) := by
  subst hx
  unfold padL
  rw [List.append_assoc]
  rfl
theorem zeros_lt (N k : Nat) (h : k < zeros N) : (N + 1 + k) % 64 ≠ 56 := by unfold zeros at h; omega
theorem zeros_eq (N : Nat) : (N + 1 + zeros N) % 64 = 56 := by unfold zeros; omega
def padS (l : List UInt8) : List UInt8 := l ++ [0x80] ++ List.replicate (zeros l.length) 0 ++ lenBytes l.length 8
def blks (all : List UInt8) : Nat → ShaSt
  | 0 => st0
  | j + 1 => comp (blks all j) ((all.drop (64 * j)).take 64)
/-- the bytes of words, the highest first -/
def outB (l : List W32) : Nat → List UInt8
  | 0 => []
  | i + 1 => outB l i ++ [UInt8.ofNat ((l.getD (i / 4) 0).toNat / 2 ^ (24 - 8 * (i % 4)))]
theorem length_outB (l : List W32) (i : Nat) : (outB l i).length = i := by
  induction i with
  | zero => rfl
  | succ i ih => simp [outB, ih]
def sha (l : List UInt8) : List UInt8 := outB (blks (padS l) ((padS l).length / 64)).words 32
theorem length_sha (l : List UInt8) : (sha l).length = 32 := length_outB _ _
theorem length_lenBytes (n i : Nat) : (lenBytes n i).length = i := by
  induction i with
  | zero => rfl
  | succ i ih => simp [lenBytes, ih]
theorem padS_eq (l : List UInt8) : padS l = padL l 8 := rfl
theorem length_padS (l : List UInt8) : (padS l).length % 64 = 0 ∧ l.length + 9 ≤ (padS l).length ∧ (padS l).length ≤ l.length + 72 := by
  simp only [padS, List.length_append, List.length_cons, List.length_nil, List.length_replicate, length_lenBytes, zeros]
  omega
theorem wl_get (b : List UInt8) {i j : Nat} (h : j < i) (k : Nat) : (wl b (i + k)).getD j 0 = (wl b i).getD j 0 := by
  induction k with
  | zero => rfl
  | succ k ih =>
    rw [← ih, List.getD_eq_getElem?_getD, List.getD_eq_getElem?_getD]
    show (wl b (i + k) ++ _)[j]?.getD 0 = _
    rw [List.getElem?_append_left (by rw [length_wl]; omega)]
/-! ### in the spelling of the walk -/
theorem byteW_code (x : UInt8) : (x.toNat : Int) % 4294967296 = ((byteW x).toNat : Int) := by
  unfold byteW
  rw [BitVec.toNat_ofNat]
  omega
theorem shl_code (a : W32) (k : Nat) (m : Nat) (hm : m = 2 ^ k) : (a.toNat : Int) * (m : Int) % 4294967296 = ((a <<< k).toNat : Int) := by
  rw [BitVec.toNat_shiftLeft, Nat.shiftLeft_eq, hm]
  omega
theorem be4_code (x0 x1 x2 x3 : UInt8) : bits .or .u32 (bits .or .u32 (bits .or .u32 ((x0.toNat : Int) % 4294967296 * 16777216 % 4294967296) ((x1.toNat : Int) % 4294967296 * 65536 % 4294967296)) ((x2.toNat : Int) % 4294967296 * 256 % 4294967296)) ((x3.toNat : Int) % 4294967296) = ((be4 x0 x1 x2 x3).toNat : Int) := by
  rw [byteW_code, byteW_code, byteW_code, byteW_code]
  have h0 : ((byteW x0).toNat : Int) * 16777216 % 4294967296 = _ := shl_code (byteW x0) 24 16777216 rfl
  have h1 : ((byteW x1).toNat : Int) * 65536 % 4294967296 = _ := shl_code (byteW x1) 16 65536 rfl
  have h2 : ((byteW x2).toNat : Int) * 256 % 4294967296 = _ := shl_code (byteW x2) 8 256 rfl
  rw [h0, h1, h2, u32_or_bv, u32_or_bv, u32_or_bv]
  rfl
theorem shr_code (a : W32) (k : Nat) (m : Nat) (hm : m = 2 ^ k) : (a.toNat : Int) / (m : Int) = ((a >>> k).toNat : Int) := by
  rw [BitVec.toNat_ushiftRight, Nat.shiftRight_eq_div_pow, hm]
  omega
theorem add4_code (a b c d : W32) : ((a.toNat : Int) + b.toNat + c.toNat + d.toNat) % 4294967296 = ((a + b + c + d).toNat : Int) := by
  rw [BitVec.toNat_add, BitVec.toNat_add, BitVec.toNat_add]
  omega
theorem sig0_code (x : W32) : bits .xor .u32 (bits .xor .u32 ((ror x 7).toNat : Int) ((ror x 18).toNat : Int)) ((x.toNat : Int) / 8) = ((sig0 x).toNat : Int) := by
  have h : (x.toNat : Int) / 8 = _ := shr_code x 3 8 rfl
  rw [h, u32_xor_bv, u32_xor_bv]
  rfl
theorem sig1_code (x : W32) : bits .xor .u32 (bits .xor .u32 ((ror x 17).toNat : Int) ((ror x 19).toNat : Int)) ((x.toNat : Int) / 1024) = ((sig1 x).toNat : Int) := by
  have h : (x.toNat : Int) / 1024 = _ := shr_code x 10 1024 rfl
  rw [h, u32_xor_bv, u32_xor_bv]
  rfl
theorem next_code (a b c d : W32) : ((a.toNat : Int) + bits .xor .u32 (bits .xor .u32 ((ror b 7).toNat : Int) ((ror b 18).toNat : Int)) ((b.toNat : Int) / 8) + c.toNat +
    bits .xor .u32 (bits .xor .u32 ((ror d 17).toNat : Int) ((ror d 19).toNat : Int)) ((d.toNat : Int) / 1024)) % 4294967296 = ((a + sig0 b + c + sig1 d).toNat : Int) := by
  rw [sig0_code, sig1_code, add4_code]
theorem next_ref (a b c d : W32) : (bits .xor .u32 (bits .xor .u32 ((ror d 17).toNat : Int) ((ror d 19).toNat : Int)) ((d.toNat : Int) / 1024) + c.toNat +
    bits .xor .u32 (bits .xor .u32 ((ror b 7).toNat : Int) ((ror b 18).toNat : Int)) ((b.toNat : Int) / 8) + a.toNat) % 4294967296 = ((a + sig0 b + c + sig1 d).toNat : Int) := by
  rw [sig0_code, sig1_code, ← add4_code]
  congr 1
  omega
theorem add_code (a b : W32) : IntKind.u32.wrap ((a.toNat : Int) + b.toNat) = ((a + b).toNat : Int) := by
  rw [IntKind.wrap_u32, BitVec.toNat_add]
  omega
theorem add_code' (a b : W32) : ((a.toNat : Int) + b.toNat) % 4294967296 = ((a + b).toNat : Int) := by
  rw [BitVec.toNat_add]
  omega
theorem not_code (a : W32) : bits .xor .u32 (if IntKind.u32.signed = true then -1 else IntKind.u32.max) (a.toNat : Int) = ((~~~a).toNat : Int) := by
  have h : (if IntKind.u32.signed = true then -1 else IntKind.u32.max) = ((BitVec.allOnes 32).toNat : Int) := by decide
  rw [h, u32_xor_bv]
  rw [BitVec.allOnes_xor]
theorem shaX_code (t : ShaSt) (k w : W32) : IntKind.u32.wrap (IntKind.u32.wrap (IntKind.u32.wrap (IntKind.u32.wrap ((t.h.toNat : Int) + bits .xor .u32 (bits .xor .u32 ((ror t.e 6).toNat : Int) ((ror t.e 11).toNat : Int)) ((ror t.e 25).toNat : Int)) +
    bits .xor .u32 (bits .and .u32 (t.e.toNat : Int) (t.f.toNat : Int)) (bits .and .u32 (bits .xor .u32 (if IntKind.u32.signed = true then -1 else IntKind.u32.max) (t.e.toNat : Int)) (t.g.toNat : Int))) + (k.toNat : Int)) + (w.toNat : Int)) = ((shaX t k w).toNat : Int) := by
  rw [not_code, u32_xor_bv, u32_xor_bv, u32_and_bv, u32_and_bv, u32_xor_bv, add_code, add_code, add_code, add_code]
  rfl
theorem shaY_code (t : ShaSt) : IntKind.u32.wrap (bits .xor .u32 (bits .xor .u32 ((ror t.a 2).toNat : Int) ((ror t.a 13).toNat : Int)) ((ror t.a 22).toNat : Int) +
    bits .xor .u32 (bits .xor .u32 (bits .and .u32 (t.a.toNat : Int) (t.b.toNat : Int)) (bits .and .u32 (t.a.toNat : Int) (t.c.toNat : Int))) (bits .and .u32 (t.b.toNat : Int) (t.c.toNat : Int))) = ((shaY t).toNat : Int) := by
  rw [u32_xor_bv, u32_xor_bv, u32_and_bv, u32_and_bv, u32_and_bv, u32_xor_bv, u32_xor_bv, add_code]
  rfl
theorem wl_set (l : List UInt8) (k : Nat) (hk : k < 64) (rest : List W32) (hr : rest.length = 64 - k) (x : W32) (hx : wl l (k + 1) = wl l k ++ [x]) : (wl l k ++ rest).set k x = wl l (k + 1) ++ rest.tail := by
  rw [hx]
  cases rest with
  | nil => simp at hr; omega
  | cons y r =>
    rw [List.set_append_right _ _ (by rw [length_wl]; exact Nat.le_refl _), length_wl, Nat.sub_self]
    simp
theorem wl_low (l : List UInt8) (k : Nat) (hk : k < 16) : wl l (k + 1) = wl l k ++ [be32 l (4 * k)] := by
  show wl l k ++ _ = _
  rw [if_pos hk]
theorem wl_high (l : List UInt8) (k : Nat) (hk : 16 ≤ k) : wl l (k + 1) = wl l k ++ [(wl l k).getD (k - 16) 0 + sig0 ((wl l k).getD (k - 15) 0) + (wl l k).getD (k - 7) 0 + sig1 ((wl l k).getD (k - 2) 0)] := by
  show wl l k ++ _ = _
  rw [if_neg (by omega)]
end Go.Proofs.Ytkncomkncfcecaa
set_option linter.unusedVariables false
set_option linter.unusedSimpArgs false
namespace Go.Proofs.Ytkncomkncfcecaa
open Go.RowKit

def chkW : List W32 → List Value → Bool
  | [], [] => true
  | x :: xs, .int .u32 n :: vs => (n == (x.toNat : Int)) && chkW xs vs
  | _, _ => false
theorem chkW_eq : ∀ (l : List W32) (vs : List Value), chkW l vs = true → vs = wv l
  | [], [], _ => rfl
  | x :: xs, v :: vs, h => by
    unfold chkW at h
    split at h
    · cases ‹_ :: _ = []›
    · rename_i y ys n us h1 h2
      injection h1 with h1 h3
      injection h2 with h2 h4
      subst h1; subst h3; subst h2; subst h4
      simp only [Bool.and_eq_true, beq_iff_eq] at h
      rw [chkW_eq _ _ h.2, h.1]
      rfl
    · cases h
  | [], _ :: _, h => by simp [chkW] at h
  | _ :: _, [], h => by simp [chkW] at h
theorem chkW_arr (l : List W32) (a : Array Value) (h : chkW l a.toList = true) : a = (wv l).toArray := by
  rw [← chkW_eq l _ h]
def chkB : List UInt8 → List Value → Bool
  | [], [] => true
  | x :: xs, .int .u8 n :: vs => (n == (x.toNat : Int)) && chkB xs vs
  | _, _ => false
theorem chkB_eq : ∀ (l : List UInt8) (vs : List Value), chkB l vs = true → vs = bv l
  | [], [], _ => rfl
  | x :: xs, v :: vs, h => by
    unfold chkB at h
    split at h
    · cases ‹_ :: _ = []›
    · rename_i y ys n us h1 h2
      injection h1 with h1 h3
      injection h2 with h2 h4
      subst h1; subst h3; subst h2; subst h4
      simp only [Bool.and_eq_true, beq_iff_eq] at h
      rw [chkB_eq _ _ h.2, h.1]
      rfl
    · cases h
  | [], _ :: _, h => by simp [chkB] at h
  | _ :: _, [], h => by simp [chkB] at h
theorem chkB_arr (l : List UInt8) (a : Array Value) (h : chkB l a.toList = true) : a = (bv l).toArray := by
  rw [← chkB_eq l _ h]
theorem built_of {t : TypeId} {ps : List (Nat × Value)} (l : List W32) (h : ((Try.prog.built t ps).map fun a => chkW l a.toList) = some true) : Try.prog.built t ps = some (wv l).toArray := by
  cases hb : Try.prog.built t ps with
  | none => rw [hb] at h; cases h
  | some a =>
    rw [hb] at h
    simp only [Option.map_some, Option.some.injEq] at h
    rw [chkW_arr l a h]
/-- a table's literal -/
theorem wpList_table {ops : Array Oper} {rest : List Oper} {o : Oper} {a : Act} {w : World} {Q : Exit → Act → World → Prop} (hgd : o.guard = none) (t : TypeId) (parts : Array (Nat × Operand)) (l : List W32) (ho : o.op = .build t parts)
    (hb : ((Try.prog.built t (parts.map fun (i, x) => (i, a.eval x)).toList).map fun a => chkW l a.toList) = some true)
    (h : wpList Try.prog ops Q rest (a.put o.dst (.agg (wv l).toArray)) w) : wpList Try.prog ops Q (o :: rest) a w :=
  wpList_plain hgd fun _ hK => by
    have hb := built_of l hb
    refine wp_build t parts ho (by rw [hb]; rfl) ?_
    rw [hb]
    exact hK _ _ h
/-- a literal of whatever values, its cells said -/
theorem wpList_buildTo {P : Program} {ops : Array Oper} {rest : List Oper} {o : Oper} {a : Act} {w : World} {Q : Exit → Act → World → Prop} (hgd : o.guard = none) (t : TypeId) (parts : Array (Nat × Operand)) (ho : o.op = .build t parts) (cells : Array Value)
    (hb : P.built t (parts.map fun (i, x) => (i, a.eval x)).toList = some cells)
    (h : wpList P ops Q rest (a.put o.dst (.agg cells)) w) : wpList P ops Q (o :: rest) a w :=
  wpList_plain hgd fun _ hK => by
    refine wp_build t parts ho (by rw [hb]; rfl) ?_
    rw [hb]
    exact hK _ _ h
/-- a variable of an array's type is laid -/
theorem run_alloc_row {P : Program} {t : TypeId} {cs : Array Value} (h : (P.info? t).bind (·.zero) = some (.agg cs)) (old : Value) (w : World) :
    (Instr.alloc t true old).run P w = .ok (.pointer (some ⟨w.heap.size, 0, none⟩)) (w.alloc (.cells cs t)) := by
  cases hi : P.info? t with
  | none => rw [hi] at h; cases h
  | some i =>
    rw [hi] at h
    simp only [Option.bind_some] at h
    simp [Instr.alloc, zeroValue, typeInfo, hi, h, newVar, newRow, newObj, go_sem, Value.cells]
    rfl
theorem zero_of {t : TypeId} (l : List W32) (h : ((Try.prog.info? t).bind (·.zero)).map (fun v => match v with | .agg a => chkW l a.toList | _ => false) = some true) : (Try.prog.info? t).bind (·.zero) = some (.agg (wv l).toArray) := by
  cases hz : (Try.prog.info? t).bind (·.zero) with
  | none => rw [hz] at h; cases h
  | some v =>
    rw [hz] at h
    simp only [Option.map_some, Option.some.injEq] at h
    split at h
    · rw [chkW_arr l _ h]
    · cases h
theorem zeroB_of {t : TypeId} (l : List UInt8) (h : ((Try.prog.info? t).bind (·.zero)).map (fun v => match v with | .agg a => chkB l a.toList | _ => false) = some true) : (Try.prog.info? t).bind (·.zero) = some (.agg (bv l).toArray) := by
  cases hz : (Try.prog.info? t).bind (·.zero) with
  | none => rw [hz] at h; cases h
  | some v =>
    rw [hz] at h
    simp only [Option.map_some, Option.some.injEq] at h
    split at h
    · rw [chkB_arr l _ h]
    · cases h
theorem wpList_alloc_row {P : Program} {ops : Array Oper} {rest : List Oper} {o : Oper} {a : Act} {w : World} {Q : Exit → Act → World → Prop} (hgd : o.guard = none) (t : TypeId) (ho : o.op = .alloc t) {cs : Array Value}
    (hz : (P.info? t).bind (·.zero) = some (.agg cs))
    (h : wpList P ops Q rest (a.put o.dst (.pointer (some ⟨w.heap.size, 0, none⟩))) (w.alloc (.cells cs t))) : wpList P ops Q (o :: rest) a w :=
  wpList_plain hgd fun K hK => by
    unfold Oper.wp execOp
    simp only [ho, Sem.run_bind, run_alloc_row hz, Result.andThen_ok]
    exact hK _ _ h
/-- the whole of an array is loaded -/
theorem run_loadRowOp {P : Program} {o : Oper} {A : Act} {W : World} (ty : TypeId) (t : Tmp) (ho : o.op = .load ty (.tmp t)) {g : Nat} {t' : TypeId} {cs : Array Value} {fr : Nat × Nat} {d : TypeDesc} (hx : A.tmps[t]?.getD undef = .pointer (some ⟨g, 0, none⟩)) (hg : W.heap[g]? = some (.cells cs t' fr))
    (hu : P.underlying ty = some d) (hd : (match d with | .struct _ | .array _ _ => true | _ => false) = true) (hi : (P.info? ty).map (·.size) = some cs.size) :
    (execOp A.eval o).run P W = .ok (.value (.agg cs)) W := by
  have hx' : A.eval (.tmp t) = .pointer (some ⟨g, 0, none⟩) := by rw [← hx]; exact Array.getD_eq_getD_getElem? ..
  unfold execOp
  simp only [ho, hx', Instr.loadAt, Instr.sureAddr, Sem.run_bind, Sem.run_pure, Result.andThen_ok, run_loadVar_row W g t' ty cs fr d hg hu hd hi]
theorem wv_one (l : List W32) : (wv l).toArray.all (·.oneCell') = true := by
  rw [List.all_toArray, List.all_eq_true]
  intro v hv
  simp only [wv, List.mem_map] at hv
  obtain ⟨x, _, rfl⟩ := hv
  rfl
theorem bv_one' (l : List UInt8) : (bv l).toArray.all (·.oneCell') = true := by
  rw [List.all_toArray, List.all_eq_true]
  exact bv_one l
/-- a whole array written into a block that is known -/
theorem setRow_block {w : World} {g : Nat} {old cs : Array Value} {t : TypeId} {fr : Nat × Nat} (hg : w.heap[g]? = some (.cells old t fr)) : (w.setRow g cs).heap[g]? = some (.cells cs t fr) := setRow_heap w g old cs t fr hg
theorem below_setRow {B : Nat} {w w' : World} (hb : Below B w w') {g : Nat} (hg : B ≤ g) (cs : Array Value) : Below B w (w'.setRow g cs) :=
  ⟨hb.os, hb.tape, hb.output, by rw [setRow_size]; exact hb.size, fun i hi => by rw [setRow_other w' g i cs (by omega)]; exact hb.block i hi⟩
theorem wv_get (l : List W32) (i : Nat) (h : i < l.length) : (wv l)[i]? = some (.int .u32 ((l.getD i 0).toNat : Int)) := by
  simp [wv, h]
theorem wv_cell {w : World} {g : Nat} {l : List W32} {t : TypeId} {fr : Nat × Nat} (h : w.heap[g]? = some (.cells (wv l).toArray t fr)) {i : Nat} (hi : i < l.length) : w.cell? ⟨g, i, none⟩ = some (.int .u32 ((l.getD i 0).toNat : Int)) :=
  cell_of_block h (by rw [List.getElem?_toArray]; exact wv_get l i hi)
theorem wv_set (l : List W32) (i : Nat) (x : W32) : (wv l).toArray.setIfInBounds i (.int .u32 (x.toNat : Int)) = (wv (l.set i x)).toArray := by
  rw [List.setIfInBounds_toArray]; simp [wv, List.map_set]
theorem wv_setCell {w : World} {g : Nat} {l : List W32} {t : TypeId} {fr : Nat × Nat} (h : w.heap[g]? = some (.cells (wv l).toArray t fr)) (i : Nat) (x : W32) :
    (w.setCell ⟨g, i, none⟩ (.int .u32 (x.toNat : Int))).heap[g]? = some (.cells (wv (l.set i x)).toArray t fr) := by
  rw [← wv_set]; exact block_setCell _ h
end Go.Proofs.Ytkncomkncfcecaa
set_option linter.unusedVariables false
set_option linter.unusedSimpArgs false
namespace Go.Proofs.Ytkncomkncfcecaa
open Go.RowKit
theorem ror_code (x : W32) (n m : Nat) (hm : m + n = 32) : bits .or .u32 ((x.toNat : Int) / 2 ^ n) ((x.toNat : Int) * 2 ^ m % 4294967296) = ((ror x n).toNat : Int) := by
  have h1 : ((x.toNat : Int) / 2 ^ n) = ((x.toNat / 2 ^ n : Nat) : Int) := by simp
  have h2 : ((x.toNat : Int) * 2 ^ m % 4294967296) = ((x.toNat * 2 ^ m % 4294967296 : Nat) : Int) := by simp
  have hx := x.isLt
  rw [h1, h2, u32_or_nat _ _ (Nat.lt_of_le_of_lt (Nat.div_le_self _ _) hx) (Nat.mod_lt _ (by omega))]
  unfold ror
  rw [BitVec.toNat_or, BitVec.toNat_ushiftRight, BitVec.toNat_shiftLeft, Nat.shiftRight_eq_div_pow, Nat.shiftLeft_eq, show 32 - n = m by omega]
theorem ror_code2 (x : W32) (n m : Nat) (hm : m + n = 32) : bits .or .u32 ((x.toNat : Int) * 2 ^ m % 4294967296) ((x.toNat : Int) / 2 ^ n) = ((ror x n).toNat : Int) := by
  rw [← ror_code x n m hm]
  have h1 : ((x.toNat : Int) / 2 ^ n) = ((x.toNat / 2 ^ n : Nat) : Int) := by simp
  have h2 : ((x.toNat : Int) * 2 ^ m % 4294967296) = ((x.toNat * 2 ^ m % 4294967296 : Nat) : Int) := by simp
  have hx := x.isLt
  rw [h1, h2, u32_or_nat _ _ (Nat.lt_of_le_of_lt (Nat.div_le_self _ _) hx) (Nat.mod_lt _ (by omega)), u32_or_nat _ _ (Nat.mod_lt _ (by omega)) (Nat.lt_of_le_of_lt (Nat.div_le_self _ _) hx), Nat.or_comm]
theorem neg31 : ∀ n : Fin 32, 0 < n.1 → bits .and .u64 (IntKind.u64.wrap (-(n.1 : Int))) 31 = ((32 - n.1 : Nat) : Int) := by decide
theorem rotl_any (x : W32) (n m : Nat) (hn : 0 < n) (hn2 : n < 32) (hm : m + n = 32) (w : World) :
    Calls Try.prog 106 #[.int .u32 (x.toNat : Int), .int .i64 (-(n : Int))] w fun e w' => e = .returned (.int .u32 ((ror x n).toNat : Int)) ∧ w = w' := by
  have he := neg31 ⟨n, hn2⟩ hn
  dsimp only at he
  rw [show 32 - n = m by omega] at he
  have hf := ror_code2 x n m hm
  have HF := Lib.hid hf
  have hm2 : (m : Int) < 64 := by omega
  have hmn : (32 : Int) - m = n := by omega
  clear hf
  go_enter Try.func106, Try.ntmps106
  go_wp2_with fail
  go_ret
  rw [← HF.out]
  exact ⟨rfl, rfl⟩
theorem right_any (x : W32) (n : Nat) (hn : 0 < n) (hn2 : n < 32) (w : World) :
    Calls Try.prog 101 #[.int .u32 (x.toNat : Int), .int .i64 (n : Int)] w fun e w' => e = .returned (.int .u32 ((ror x n).toNat : Int)) ∧ w = w' := by
  go_enter Try.func101, Try.ntmps101
  go_wp2_with (go_at_call 106; refine Calls.mono (rotl_any x n (32 - n) hn hn2 (by omega) _) ?_; rintro e w1 ⟨rfl, rfl⟩)
  go_ret
  exact ⟨rfl, rfl⟩
theorem rot_any (x : W32) (n : Nat) (hn : 0 < n) (hn2 : n < 32) (w : World) :
    Calls Try.prog 42 #[.int .u32 (x.toNat : Int), .int .u64 (n : Int)] w fun e w' => e = .returned (.int .u32 ((ror x n).toNat : Int)) ∧ w = w' := by
  have hf := ror_code x n (32 - n) (by omega)
  have HF := Lib.hid hf
  clear hf
  go_enter Try.func42, Try.ntmps42
  go_wp2_with fail
  go_ret
  exact ⟨ret_int HF.out, rfl⟩
theorem right_st (x : W32) (N : Int) (n : Nat) (hN : N = n) (hn : 0 < n) (hn2 : n < 32) (w : World) :
    Calls Try.prog 101 #[.int .u32 (x.toNat : Int), .int .i64 N] w fun e w' => e = .returned (.int .u32 ((ror x n).toNat : Int)) ∧ w' = w := by
  subst hN
  exact (right_any x n hn hn2 w).mono fun _ _ h => ⟨h.1, h.2.symm⟩
theorem rot_st (x : W32) (N : Int) (n : Nat) (hN : N = n) (hn : 0 < n) (hn2 : n < 32) (w : World) :
    Calls Try.prog 42 #[.int .u32 (x.toNat : Int), .int .u64 N] w fun e w' => e = .returned (.int .u32 ((ror x n).toNat : Int)) ∧ w' = w := by
  subst hN
  exact (rot_any x n hn hn2 w).mono fun _ _ h => ⟨h.1, h.2.symm⟩
theorem keysInfo : (Try.prog.info? 81).map (·.size) = some 64 := by kernel_rfl
theorem keysUnder : Try.prog.underlying 81 = some (.array 64 80) := by kernel_rfl
def z64 : List W32 := List.replicate 64 0
theorem length_z64 : z64.length = 64 := List.length_replicate
theorem z64Zero : (Try.prog.info? 81).bind (·.zero) = some (.agg (wv z64).toArray) := zero_of z64 (by kernel_rfl)
theorem size_wv (l : List W32) : (wv l).toArray.size = l.length := by simp [wv]
theorem length_ks : ks.length = 64 := by kernel_rfl
theorem keys_any (w : World) : Calls Try.prog 100 #[] w fun e w' => e = .returned (.agg (wv ks).toArray) ∧ Below w.heap.size w w' := by
  go_enter Try.func100, Try.ntmps100
  go_wp2_with (first
    | (with_reducible refine wpList_alloc_row rfl 81 rfl z64Zero ?_)
    | (with_reducible refine wpList_table rfl 81 _ ks rfl (by kernel_rfl) ?_)
    | (refine wpList_store_row rfl 81 _ _ rfl w.heap.size (wv ks).toArray rfl rfl 81 (wv z64).toArray ?_ keysInfo ?_ (wv_one _) ?_))
  · exact heap_alloc_new _ _
  · kernel_rfl
  · exact bodyPost_ret (v := .agg (wv ks).toArray) (results_cell_row rfl _ _ w.heap.size 81 (wv ks).toArray (0, 0) _ rfl (setRow_block (heap_alloc_new _ _)) keysUnder rfl keysInfo) rfl ⟨rfl, below_setRow ((Below.refl _ _).alloc (Nat.le_refl _) _) (Nat.le_refl _) _⟩
theorem words_any (w : World) : Calls Try.prog 41 #[] w fun e w' => e = .returned (.agg (wv ks).toArray) ∧ Below w.heap.size w w' := by
  go_enter Try.func41, Try.ntmps41
  go_wp2_with (first
    | (with_reducible refine wpList_alloc_row rfl 81 rfl z64Zero ?_)
    | (with_reducible refine wpList_table rfl 81 _ ks rfl (by kernel_rfl) ?_)
    | (refine wpList_store_row rfl 81 _ _ rfl w.heap.size (wv ks).toArray rfl rfl 81 (wv z64).toArray ?_ keysInfo ?_ (wv_one _) ?_))
  · exact heap_alloc_new _ _
  · kernel_rfl
  · exact bodyPost_ret (v := .agg (wv ks).toArray) (results_cell_row rfl _ _ w.heap.size 81 (wv ks).toArray (0, 0) _ rfl (setRow_block (heap_alloc_new _ _)) keysUnder rfl keysInfo) rfl ⟨rfl, below_setRow ((Below.refl _ _).alloc (Nat.le_refl _) _) (Nat.le_refl _) _⟩
theorem stInfo : (Try.prog.info? 129).map (·.size) = some 8 := by kernel_rfl
theorem stUnder : Try.prog.underlying 129 = some (.array 8 80) := by kernel_rfl
def z8 : List W32 := List.replicate 8 0
theorem z8Zero : (Try.prog.info? 129).bind (·.zero) = some (.agg (wv z8).toArray) := zero_of z8 (by kernel_rfl)
theorem begun_any (w : World) : Calls Try.prog 86 #[] w fun e w' => e = .returned (.agg (wv st0.words).toArray) ∧ Below w.heap.size w w' := by
  go_enter Try.func86, Try.ntmps86
  go_wp2_with (first
    | (with_reducible refine wpList_alloc_row rfl 129 rfl z8Zero ?_)
    | (with_reducible refine wpList_table rfl 129 _ st0.words rfl (by kernel_rfl) ?_)
    | (refine wpList_store_row rfl 129 _ _ rfl w.heap.size (wv st0.words).toArray rfl rfl 129 (wv z8).toArray ?_ stInfo ?_ (wv_one _) ?_))
  · exact heap_alloc_new _ _
  · kernel_rfl
  · exact bodyPost_ret (v := .agg (wv st0.words).toArray) (results_cell_row rfl _ _ w.heap.size 129 (wv st0.words).toArray (0, 0) _ rfl (setRow_block (heap_alloc_new _ _)) stUnder rfl stInfo) rfl ⟨rfl, below_setRow ((Below.refl _ _).alloc (Nat.le_refl _) _) (Nat.le_refl _) _⟩
end Go.Proofs.Ytkncomkncfcecaa
