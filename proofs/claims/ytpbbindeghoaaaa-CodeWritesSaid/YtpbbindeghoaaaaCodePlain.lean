/- Numbers and texts as bytes: plain. -/
import Derived.Test.YtpbbindeghoaaaaLib
namespace Go.Proofs.Ytpbbindeghoaaaa

/-- the k-th byte of a number, the lowest first -/
def i64byte (x : Int) (k : Nat) : UInt8 := UInt8.ofNat ((x % 18446744073709551616).toNat / 256 ^ k)
theorem i64byte_val (x : Int) (k : Nat) : ((i64byte x k).toNat : Int) = x % 18446744073709551616 / 2 ^ (8 * k) % 256 := by
  unfold i64byte
  rw [UInt8.toNat_ofNat']
  have h0 : 0 ≤ x % 18446744073709551616 := Int.emod_nonneg _ (by decide)
  generalize x % 18446744073709551616 = y at h0
  obtain ⟨n, rfl⟩ := Int.eq_ofNat_of_zero_le h0
  have h2 : (2 : Int) ^ (8 * k) = ((256 ^ k : Nat) : Int) := by
    rw [Int.pow_mul, Int.natCast_pow]; rfl
  rw [h2, Int.toNat_natCast, ← Int.natCast_ediv]
  generalize n / 256 ^ k = q
  omega
def le8 (x : Int) : List UInt8 := (List.range 8).map (i64byte x)
theorem length_le8 (x : Int) : (le8 x).length = 8 := by simp [le8]
theorem le8_next (x : Int) (k : Nat) (hk : k < 8) : (le8 x).take (k + 1) = (le8 x).take k ++ [i64byte x k] := by
  rw [List.take_succ_eq_append_getElem (by rw [length_le8]; exact hk)]
  simp [le8]
theorem le8_all (x : Int) : (le8 x).take 8 = le8 x := List.take_of_length_le (by rw [length_le8]; exact Nat.le_refl _)
/-- the lowest byte -/
theorem i64byte0 (x : Int) : ((i64byte x 0).toNat : Int) = x % 256 := by
  rw [i64byte_val]; simp

/-- a text's bytes, at most 65535 -/
def txt (s : List UInt8) : List UInt8 := s.take 65535
def textBytes (s : List UInt8) : List UInt8 := [UInt8.ofNat (txt s).length, UInt8.ofNat ((txt s).length / 256)] ++ txt s
theorem length_txt (s : List UInt8) : (txt s).length = min 65535 s.length := by simp [txt]
theorem length_textBytes (s : List UInt8) : (textBytes s).length = (txt s).length + 2 := by simp [textBytes]
end Go.Proofs.Ytpbbindeghoaaaa
