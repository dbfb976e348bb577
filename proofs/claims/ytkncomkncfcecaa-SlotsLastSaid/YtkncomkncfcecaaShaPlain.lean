/- What was written is read as it was: plain. The sum SHA-256 of a list of bytes, plainly. No program in sight. -/
import Derived.Test.YtkncomkncfcecaaReader
import Derived.Test.YtkncomkncfcecaaLib
set_option linter.unusedVariables false
set_option linter.unusedSimpArgs false
namespace Go.Proofs.Ytkncomkncfcecaa
open Go.RowKit

/-- a number that was taken -/
def tkN (t : List UInt8 × List UInt8 × Int) : Int := wrap64 (leN t.1 : Int)
theorem leN_head (l : List UInt8) (h : l.length ≤ 1) : leN l = (l.headD 0).toNat := by
  match l, h with
  | [], _ => rfl
  | [x], _ => simp [leN]
theorem taken_ok (a m : List UInt8) (k : Nat) (h : a.length = k) : taken (a ++ m) 0 k = (a, m, 0) := by
  unfold taken
  rw [if_neg (by simp; omega), if_neg (by simp), ← h, List.take_left, List.drop_left]
theorem leN_le8 (x : Int) : (leN (le8 x) : Int) = x % 18446744073709551616 := by
  have h : ∀ k, k ≤ 8 → (leN ((le8 x).take k) : Int) = x % 18446744073709551616 % 2 ^ (8 * k) := by
    intro k
    induction k with
    | zero => intro _; simp [leN, Int.emod_one]
    | succ k ih =>
      intro hk
      have hkl : ((le8 x).take k).length = k := by rw [List.length_take, length_le8]; omega
      rw [le8_next x k (by omega), leN_append, leN_one, hkl]
      have h1 := ih (by omega)
      have h2 := i64byte_val x k
      have hy : 0 ≤ x % 18446744073709551616 := Int.emod_nonneg _ (by decide)
      generalize x % 18446744073709551616 = y at h1 h2 hy ⊢
      obtain ⟨n, rfl⟩ := Int.eq_ofNat_of_zero_le hy
      have h3 : (2 : Int) ^ (8 * (k + 1)) = 2 ^ (8 * k) * 256 := by
        rw [show 8 * (k + 1) = 8 * k + 8 by omega, Int.pow_add]; rfl
      have h4 : ((256 ^ k : Nat) : Int) = 2 ^ (8 * k) := by rw [Int.pow_mul, Int.natCast_pow]; rfl
      rw [h3, Int.natCast_add, Int.natCast_mul, h1, h2, ← h4]
      generalize 256 ^ k = q
      have h5 := @Nat.mod_mul q 256 n
      have h6 : ((n % (q * 256) : Nat) : Int) = ((n % q + q * (n / q % 256) : Nat) : Int) := by rw [h5]
      simpa using h6.symm
  have := h 8 (Nat.le_refl _)
  rw [le8_all] at this
  rw [this]
  omega
theorem int_back (x : Int) (hx : -9223372036854775808 ≤ x ∧ x ≤ 9223372036854775807) : wrap64 (leN (le8 x) : Int) = x := by
  rw [leN_le8]; unfold wrap64; omega
end Go.Proofs.Ytkncomkncfcecaa
set_option linter.unusedVariables false
set_option linter.unusedSimpArgs false
namespace Go.Proofs.Ytkncomkncfcecaa
open Go.RowKit

abbrev W32 := BitVec 32
/-- a word turned to the right -/
def ror (x : W32) (n : Nat) : W32 := (x >>> n) ||| (x <<< (32 - n))
abbrev uv (x : W32) : Value := .int .u32 (x.toNat : Int)
def wv (l : List W32) : List Value := l.map fun x => .int .u32 (x.toNat : Int)
structure ShaSt where
  a : W32
  b : W32
  c : W32
  d : W32
  e : W32
  f : W32
  g : W32
  h : W32
def ShaSt.words (s : ShaSt) : List W32 := [s.a, s.b, s.c, s.d, s.e, s.f, s.g, s.h]
def sig0 (x : W32) : W32 := ror x 7 ^^^ ror x 18 ^^^ (x >>> 3)
def sig1 (x : W32) : W32 := ror x 17 ^^^ ror x 19 ^^^ (x >>> 10)
def byteW (x : UInt8) : W32 := BitVec.ofNat 32 x.toNat
def be4 (x0 x1 x2 x3 : UInt8) : W32 := (byteW x0 <<< 24) ||| (byteW x1 <<< 16) ||| (byteW x2 <<< 8) ||| byteW x3
def be32 (l : List UInt8) (q : Nat) : W32 := be4 (l.getD q 0) (l.getD (q + 1) 0) (l.getD (q + 2) 0) (l.getD (q + 3) 0)
/-- the first words of a piece -/
def wl (b : List UInt8) : Nat → List W32
  | 0 => []
  | i + 1 => wl b i ++ [if i < 16 then be32 b (4 * i) else (wl b i).getD (i - 16) 0 + sig0 ((wl b i).getD (i - 15) 0) + (wl b i).getD (i - 7) 0 + sig1 ((wl b i).getD (i - 2) 0)]
theorem length_wl (b : List UInt8) (i : Nat) : (wl b i).length = i := by
  induction i with
  | zero => rfl
  | succ i ih => simp [wl, ih]
def ks : List W32 := [
  0x428a2f98, 0x71374491, 0xb5c0fbcf, 0xe9b5dba5, 0x3956c25b, 0x59f111f1, 0x923f82a4, 0xab1c5ed5,
  0xd807aa98, 0x12835b01, 0x243185be, 0x550c7dc3, 0x72be5d74, 0x80deb1fe, 0x9bdc06a7, 0xc19bf174,
  0xe49b69c1, 0xefbe4786, 0x0fc19dc6, 0x240ca1cc, 0x2de92c6f, 0x4a7484aa, 0x5cb0a9dc, 0x76f988da,
  0x983e5152, 0xa831c66d, 0xb00327c8, 0xbf597fc7, 0xc6e00bf3, 0xd5a79147, 0x06ca6351, 0x14292967,
  0x27b70a85, 0x2e1b2138, 0x4d2c6dfc, 0x53380d13, 0x650a7354, 0x766a0abb, 0x81c2c92e, 0x92722c85,
  0xa2bfe8a1, 0xa81a664b, 0xc24b8b70, 0xc76c51a3, 0xd192e819, 0xd6990624, 0xf40e3585, 0x106aa070,
  0x19a4c116, 0x1e376c08, 0x2748774c, 0x34b0bcb5, 0x391c0cb3, 0x4ed8aa4a, 0x5b9cca4f, 0x682e6ff3,
  0x748f82ee, 0x78a5636f, 0x84c87814, 0x8cc70208, 0x90befffa, 0xa4506ceb, 0xbef9a3f7, 0xc67178f2]
def st0 : ShaSt := ⟨0x6a09e667, 0xbb67ae85, 0x3c6ef372, 0xa54ff53a, 0x510e527f, 0x9b05688c, 0x1f83d9ab, 0x5be0cd19⟩
/-- the two sums of a round -/
def shaX (t : ShaSt) (k w : W32) : W32 := t.h + (ror t.e 6 ^^^ ror t.e 11 ^^^ ror t.e 25) + ((t.e &&& t.f) ^^^ (~~~t.e &&& t.g)) + k + w
def shaY (t : ShaSt) : W32 := (ror t.a 2 ^^^ ror t.a 13 ^^^ ror t.a 22) + ((t.a &&& t.b) ^^^ (t.a &&& t.c) ^^^ (t.b &&& t.c))
def shaRound (t : ShaSt) (k w : W32) : ShaSt := ⟨shaX t k w + shaY t, t.a, t.b, t.c, t.d + shaX t k w, t.e, t.f, t.g⟩
def rounds (b : List UInt8) (s : ShaSt) : Nat → ShaSt
  | 0 => s
  | i + 1 => shaRound (rounds b s i) (ks.getD i 0) ((wl b 64).getD i 0)
def addSt (s t : ShaSt) : ShaSt := ⟨t.a + s.a, t.b + s.b, t.c + s.c, t.d + s.d, t.e + s.e, t.f + s.f, t.g + s.g, t.h + s.h⟩
/-- the first j words are added -/
def addW (t s : List W32) (j : Nat) : List W32 := (List.zipWith (· + ·) t s).take j ++ t.drop j
theorem length_addW (t s : List W32) (h : t.length = s.length) (j : Nat) (hj : j ≤ t.length) : (addW t s j).length = t.length := by
  unfold addW
  rw [List.length_append, List.length_take, List.length_zipWith, List.length_drop]
  omega
theorem addW_get (t s : List W32) (h : t.length = s.length) (j : Nat) (hj : j < t.length) : (addW t s j).getD j 0 = t.getD j 0 := by
  unfold addW
  rw [List.getD_eq_getElem?_getD, List.getElem?_append_right (by rw [List.length_take, List.length_zipWith]; omega), List.length_take, List.length_zipWith, List.getElem?_drop, List.getD_eq_getElem?_getD]
  congr 2
  omega
theorem addW_set (t s : List W32) (h : t.length = s.length) (j : Nat) (hj : j < t.length) : (addW t s j).set j (t.getD j 0 + s.getD j 0) = addW t s (j + 1) := by
  unfold addW
  have hz : ((List.zipWith (· + ·) t s).take j).length = j := by rw [List.length_take, List.length_zipWith]; omega
  rw [List.set_append_right _ _ (by omega), hz, Nat.sub_self, List.drop_eq_getElem_cons hj, List.set_cons_zero, List.take_succ_eq_append_getElem (by rw [List.length_zipWith]; omega), List.append_assoc]
  simp [hj, show j < s.length by omega]
theorem addW_all (s t : ShaSt) : addW t.words s.words 8 = (addSt s t).words := rfl
def comp (s : ShaSt) (b : List UInt8) : ShaSt := addSt s (rounds b s 64)
/-- how many zeros -/
def zeros (n : Nat) : Nat := (119 - n % 64) % 64
def lenBytes (n : Nat) : Nat → List UInt8
  | 0 => []
  | i + 1 => lenBytes n i ++ [UInt8.ofNat (n * 8 / 2 ^ (56 - 8 * i))]
/-- with the first k zeros, the first j bytes of its length -/
def padZ (l : List UInt8) (k : Nat) : List UInt8 := l ++ [0x80] ++ List.replicate k 0
def padL (l : List UInt8) (j : Nat) : List UInt8 := padZ l (zeros l.length) ++ lenBytes l.length j
theorem padZ_next (l : List UInt8) (k : Nat) : padZ l k ++ [0] = padZ l (k + 1) := by
  unfold padZ
  rw [List.append_assoc, ← List.replicate_succ']
theorem padL_next (l : List UInt8) (j : Nat) (x : UInt8) (hx : x = UInt8.ofNat (l.length * 8 / 2 ^ (56 - 8 * j))) : padL l j ++ [x] = padL l (j + 1) := by
  subst hx
  unfold padL
  rw [List.append_assoc]
  rfl
theorem zeros_lt (N k : Nat) (h : k < zeros N) : (N + 1 + k) % 64 ≠ 56 := by unfold zeros at h; omega
theorem zeros_eq (N : Nat) : (N + 1 + zeros N) % 64 = 56 := by unfold zeros; omega
def padS (l : List UInt8) : List UInt8 := l ++ [0x80] ++ List.replicate (zeros l.length) 0 ++ lenBytes l.length 8
def blks (all : List UInt8) : Nat → ShaSt
  | 0 => st0
  | j + 1 => comp (blks all j) ((all.drop (64 * j)).take 64)
/-- the bytes of words, the highest first -/
def outB (l : List W32) : Nat → List UInt8
  | 0 => []
  | i + 1 => outB l i ++ [UInt8.ofNat ((l.getD (i / 4) 0).toNat / 2 ^ (24 - 8 * (i % 4)))]
theorem length_outB (l : List W32) (i : Nat) : (outB l i).length = i := by
  induction i with
  | zero => rfl
  | succ i ih => simp [outB, ih]
def sha (l : List UInt8) : List UInt8 := outB (blks (padS l) ((padS l).length / 64)).words 32
theorem length_sha (l : List UInt8) : (sha l).length = 32 := length_outB _ _
theorem padS_eq (l : List UInt8) : padS l = padL l 8 := rfl
/-! ### in the spelling of the walk -/
theorem byteW_code (x : UInt8) : (x.toNat : Int) % 4294967296 = ((byteW x).toNat : Int) := by
  unfold byteW
  rw [BitVec.toNat_ofNat]
  omega
theorem shl_code (a : W32) (k : Nat) (m : Nat) (hm : m = 2 ^ k) : (a.toNat : Int) * (m : Int) % 4294967296 = ((a <<< k).toNat : Int) := by
  rw [BitVec.toNat_shiftLeft, Nat.shiftLeft_eq, hm]
  omega
theorem be4_code (x0 x1 x2 x3 : UInt8) : bits .or .u32 (bits .or .u32 (bits .or .u32 ((x0.toNat : Int) % 4294967296 * 16777216 % 4294967296) ((x1.toNat : Int) % 4294967296 * 65536 % 4294967296)) ((x2.toNat : Int) % 4294967296 * 256 % 4294967296)) ((x3.toNat : Int) % 4294967296) = ((be4 x0 x1 x2 x3).toNat : Int) := by
  rw [byteW_code, byteW_code, byteW_code, byteW_code]
  have h0 : ((byteW x0).toNat : Int) * 16777216 % 4294967296 = _ := shl_code (byteW x0) 24 16777216 rfl
  have h1 : ((byteW x1).toNat : Int) * 65536 % 4294967296 = _ := shl_code (byteW x1) 16 65536 rfl
  have h2 : ((byteW x2).toNat : Int) * 256 % 4294967296 = _ := shl_code (byteW x2) 8 256 rfl
  rw [h0, h1, h2, u32_or_bv, u32_or_bv, u32_or_bv]
  rfl
theorem shr_code (a : W32) (k : Nat) (m : Nat) (hm : m = 2 ^ k) : (a.toNat : Int) / (m : Int) = ((a >>> k).toNat : Int) := by
  rw [BitVec.toNat_ushiftRight, Nat.shiftRight_eq_div_pow, hm]
  omega
theorem add4_code (a b c d : W32) : ((a.toNat : Int) + b.toNat + c.toNat + d.toNat) % 4294967296 = ((a + b + c + d).toNat : Int) := by
  rw [BitVec.toNat_add, BitVec.toNat_add, BitVec.toNat_add]
  omega
theorem sig0_code (x : W32) : bits .xor .u32 (bits .xor .u32 ((ror x 7).toNat : Int) ((ror x 18).toNat : Int)) ((x.toNat : Int) / 8) = ((sig0 x).toNat : Int) := by
  have h : (x.toNat : Int) / 8 = _ := shr_code x 3 8 rfl
  rw [h, u32_xor_bv, u32_xor_bv]
  rfl
theorem sig1_code (x : W32) : bits .xor .u32 (bits .xor .u32 ((ror x 17).toNat : Int) ((ror x 19).toNat : Int)) ((x.toNat : Int) / 1024) = ((sig1 x).toNat : Int) := by
  have h : (x.toNat : Int) / 1024 = _ := shr_code x 10 1024 rfl
  rw [h, u32_xor_bv, u32_xor_bv]
  rfl
theorem next_code (a b c d : W32) : ((a.toNat : Int) + bits .xor .u32 (bits .xor .u32 ((ror b 7).toNat : Int) ((ror b 18).toNat : Int)) ((b.toNat : Int) / 8) + c.toNat +
    bits .xor .u32 (bits .xor .u32 ((ror d 17).toNat : Int) ((ror d 19).toNat : Int)) ((d.toNat : Int) / 1024)) % 4294967296 = ((a + sig0 b + c + sig1 d).toNat : Int) := by
  rw [sig0_code, sig1_code, add4_code]
theorem next_ref (a b c d : W32) : (bits .xor .u32 (bits .xor .u32 ((ror d 17).toNat : Int) ((ror d 19).toNat : Int)) ((d.toNat : Int) / 1024) + c.toNat +
    bits .xor .u32 (bits .xor .u32 ((ror b 7).toNat : Int) ((ror b 18).toNat : Int)) ((b.toNat : Int) / 8) + a.toNat) % 4294967296 = ((a + sig0 b + c + sig1 d).toNat : Int) := by
  rw [sig0_code, sig1_code, ← add4_code]
  congr 1
  omega
theorem add_code (a b : W32) : IntKind.u32.wrap ((a.toNat : Int) + b.toNat) = ((a + b).toNat : Int) := by
  rw [IntKind.wrap_u32, BitVec.toNat_add]
  omega
theorem add_code' (a b : W32) : ((a.toNat : Int) + b.toNat) % 4294967296 = ((a + b).toNat : Int) := by
  rw [BitVec.toNat_add]
  omega
theorem not_code (a : W32) : bits .xor .u32 (if IntKind.u32.signed = true then -1 else IntKind.u32.max) (a.toNat : Int) = ((~~~a).toNat : Int) := by
  have h : (if IntKind.u32.signed = true then -1 else IntKind.u32.max) = ((BitVec.allOnes 32).toNat : Int) := by decide
  rw [h, u32_xor_bv]
  rw [BitVec.allOnes_xor]
theorem shaX_code (t : ShaSt) (k w : W32) : IntKind.u32.wrap (IntKind.u32.wrap (IntKind.u32.wrap (IntKind.u32.wrap ((t.h.toNat : Int) + bits .xor .u32 (bits .xor .u32 ((ror t.e 6).toNat : Int) ((ror t.e 11).toNat : Int)) ((ror t.e 25).toNat : Int)) +
    bits .xor .u32 (bits .and .u32 (t.e.toNat : Int) (t.f.toNat : Int)) (bits .and .u32 (bits .xor .u32 (if IntKind.u32.signed = true then -1 else IntKind.u32.max) (t.e.toNat : Int)) (t.g.toNat : Int))) + (k.toNat : Int)) + (w.toNat : Int)) = ((shaX t k w).toNat : Int) := by
  rw [not_code, u32_xor_bv, u32_xor_bv, u32_and_bv, u32_and_bv, u32_xor_bv, add_code, add_code, add_code, add_code]
  rfl
theorem shaY_code (t : ShaSt) : IntKind.u32.wrap (bits .xor .u32 (bits .xor .u32 ((ror t.a 2).toNat : Int) ((ror t.a 13).toNat : Int)) ((ror t.a 22).toNat : Int) +
    bits .xor .u32 (bits .xor .u32 (bits .and .u32 (t.a.toNat : Int) (t.b.toNat : Int)) (bits .and .u32 (t.a.toNat : Int) (t.c.toNat : Int))) (bits .and .u32 (t.b.toNat : Int) (t.c.toNat : Int))) = ((shaY t).toNat : Int) := by
  rw [u32_xor_bv, u32_xor_bv, u32_and_bv, u32_and_bv, u32_and_bv, u32_xor_bv, u32_xor_bv, add_code]
  rfl
theorem wl_set (l : List UInt8) (k : Nat) (hk : k < 64) (rest : List W32) (hr : rest.length = 64 - k) (x : W32) (hx : wl l (k + 1) = wl l k ++ [x]) : (wl l k ++ rest).set k x = wl l (k + 1) ++ rest.tail := by
  rw [hx]
  cases rest with
  | nil => simp at hr; omega
  | cons y r =>
    rw [List.set_append_right _ _ (by rw [length_wl]; exact Nat.le_refl _), length_wl, Nat.sub_self]
    simp
theorem wl_low (l : List UInt8) (k : Nat) (hk : k < 16) : wl l (k + 1) = wl l k ++ [be32 l (4 * k)] := by
  show wl l k ++ _ = _
  rw [if_pos hk]
theorem wl_high (l : List UInt8) (k : Nat) (hk : 16 ≤ k) : wl l (k + 1) = wl l k ++ [(wl l k).getD (k - 16) 0 + sig0 ((wl l k).getD (k - 15) 0) + (wl l k).getD (k - 7) 0 + sig1 ((wl l k).getD (k - 2) 0)] := by
  show wl l k ++ _ = _
  rw [if_neg (by omega)]
end Go.Proofs.Ytkncomkncfcecaa
