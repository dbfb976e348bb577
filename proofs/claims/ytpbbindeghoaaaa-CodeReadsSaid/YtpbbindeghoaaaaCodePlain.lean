/- Numbers and texts as bytes: plain. -/
import Derived.Test.YtpbbindeghoaaaaLib
namespace Go.Proofs.Ytpbbindeghoaaaa

/-- the k-th byte of a number, the lowest first -/
def i64byte (x : Int) (k : Nat) : UInt8 := UInt8.ofNat ((x % 18446744073709551616).toNat / 256 ^ k)
theorem i64byte_val (x : Int) (k : Nat) : ((i64byte x k).toNat : Int) = x % 18446744073709551616 / 2 ^ (8 * k) % 256 := by
  unfold i64byte
  rw [UInt8.toNat_ofNat']
  have h0 : 0 ≤ x % 18446744073709551616 := Int.emod_nonneg _ (by decide)
  generalize x % 18446744073709551616 = y at h0
  obtain ⟨n, rfl⟩ := Int.eq_ofNat_of_zero_le h0
  have h2 : (2 : Int) ^ (8 * k) = ((256 ^ k : Nat) : Int) := by
    rw [Int.pow_mul, Int.natCast_pow]; rfl
  rw [h2, Int.toNat_natCast, ← Int.natCast_ediv]
  generalize n / 256 ^ k = q
  omega
def le8 (x : Int) : List UInt8 := (List.range 8).map (i64byte x)
theorem length_le8 (x : Int) : (le8 x).length = 8 := by simp [le8]
theorem le8_next (x : Int) (k : Nat) (hk : k < 8) : (le8 x).take (k + 1) = (le8 x).take k ++ [i64byte x k] := by
  rw [List.take_succ_eq_append_getElem (by rw [length_le8]; exact hk)]
  simp [le8]
theorem le8_all (x : Int) : (le8 x).take 8 = le8 x := List.take_of_length_le (by rw [length_le8]; exact Nat.le_refl _)
/-- the lowest byte -/
theorem i64byte0 (x : Int) : ((i64byte x 0).toNat : Int) = x % 256 := by
  rw [i64byte_val]; simp

/-- a text's bytes, at most 65535 -/
def txt (s : List UInt8) : List UInt8 := s.take 65535
def textBytes (s : List UInt8) : List UInt8 := [UInt8.ofNat (txt s).length, UInt8.ofNat ((txt s).length / 256)] ++ txt s
theorem length_txt (s : List UInt8) : (txt s).length = min 65535 s.length := by simp [txt]
theorem length_textBytes (s : List UInt8) : (textBytes s).length = (txt s).length + 2 := by simp [textBytes]

/-- the number of n bytes, the lowest first -/
def leN (l : List UInt8) : Nat := l.foldr (fun x r => x.toNat + 256 * r) 0
theorem leN_append (a b : List UInt8) : leN (a ++ b) = leN a + 256 ^ a.length * leN b := by
  induction a with
  | nil => simp [leN]
  | cons x a ih =>
    have h1 : leN (x :: a ++ b) = x.toNat + 256 * leN (a ++ b) := rfl
    have h2 : leN (x :: a) = x.toNat + 256 * leN a := rfl
    rw [h1, h2, ih, List.length_cons, Nat.pow_succ, Nat.mul_add, ← Nat.mul_assoc, Nat.mul_comm 256 (256 ^ a.length), Nat.add_assoc]
theorem leN_lt (l : List UInt8) : leN l < 256 ^ l.length := by
  induction l with
  | nil => simp [leN]
  | cons x l ih =>
    have h2 : leN (x :: l) = x.toNat + 256 * leN l := rfl
    have := byte_lt x
    rw [h2, List.length_cons, Nat.pow_succ]
    omega
theorem leN_one (x : UInt8) : leN [x] = x.toNat := by simp [leN]
theorem u64_or_join (x y k : Nat) (hx : x < 2 ^ k) (hy : y * 2 ^ k + x < 18446744073709551616) : bits .or .u64 (x : Int) ((y * 2 ^ k : Nat) : Int) = ((x + y * 2 ^ k : Nat) : Int) := by
  have h : x ||| y * 2 ^ k = x + y * 2 ^ k := by
    rw [Nat.or_comm, nat_join k (y * 2 ^ k) x (Nat.mul_mod_left _ _) hx, Nat.add_comm]
  have o : ∀ a : Nat, a < 18446744073709551616 → (BitVec.ofInt 64 (a : Int)).toNat = a := fun a ha => by
    rw [BitVec.ofInt_natCast, BitVec.toNat_ofNat]; exact Nat.mod_eq_of_lt (by omega)
  show IntKind.u64.wrap ((BitVec.ofInt 64 (x : Int) ||| BitVec.ofInt 64 ((y * 2 ^ k : Nat) : Int)).toNat : Int) = _
  rw [BitVec.toNat_or, o x (by omega), o (y * 2 ^ k) (by omega), h, IntWalk.u64_in _ (by omega)]
end Go.Proofs.Ytpbbindeghoaaaa
