/- What was written is read as it was: plain. -/
import Derived.Test.YtcpifcdndhhmgaaReader
set_option linter.unusedVariables false
set_option linter.unusedSimpArgs false
namespace Go.Proofs.Ytcpifcdndhhmgaa
open Go.RowKit

/-- a number that was taken -/
def tkN (t : List UInt8 × List UInt8 × Int) : Int := wrap64 (leN t.1 : Int)
theorem leN_head (l : List UInt8) (h : l.length ≤ 1) : leN l = (l.headD 0).toNat := by
  match l, h with
  | [], _ => rfl
  | [x], _ => simp [leN]
theorem taken_ok (a m : List UInt8) (k : Nat) (h : a.length = k) : taken (a ++ m) 0 k = (a, m, 0) := by
  unfold taken
  rw [if_neg (by simp; omega), if_neg (by simp), ← h, List.take_left, List.drop_left]
theorem text_back (t m : List UInt8) : textOf (textBytes t ++ m) 0 = (txt t, m, 0) := by
  have hl : (txt t).length ≤ 65535 := by rw [length_txt]; omega
  have h1 : taken (textBytes t ++ m) 0 2 = ([UInt8.ofNat (txt t).length, UInt8.ofNat ((txt t).length / 256)], txt t ++ m, 0) := by
    unfold textBytes
    rw [List.append_assoc]
    exact taken_ok _ _ 2 rfl
  have h2 : leN [UInt8.ofNat (txt t).length, UInt8.ofNat ((txt t).length / 256)] = (txt t).length := by
    have e0 := low8 (txt t).length
    have e1 := shr8 (txt t).length hl
    simp only [leN, List.foldr_cons, List.foldr_nil]
    omega
  unfold textOf
  rw [h1]
  dsimp only
  rw [h2]
  exact taken_ok _ _ _ rfl
theorem leN_le8 (x : Int) : (leN (le8 x) : Int) = x % 18446744073709551616 := by
  have h : ∀ k, k ≤ 8 → (leN ((le8 x).take k) : Int) = x % 18446744073709551616 % 2 ^ (8 * k) := by
    intro k
    induction k with
    | zero => intro _; simp [leN, Int.emod_one]
    | succ k ih =>
      intro hk
      have hkl : ((le8 x).take k).length = k := by rw [List.length_take, length_le8]; omega
      rw [le8_next x k (by omega), leN_append, leN_one, hkl]
      have h1 := ih (by omega)
      have h2 := i64byte_val x k
      have hy : 0 ≤ x % 18446744073709551616 := Int.emod_nonneg _ (by decide)
      generalize x % 18446744073709551616 = y at h1 h2 hy ⊢
      obtain ⟨n, rfl⟩ := Int.eq_ofNat_of_zero_le hy
      have h3 : (2 : Int) ^ (8 * (k + 1)) = 2 ^ (8 * k) * 256 := by
        rw [show 8 * (k + 1) = 8 * k + 8 by omega, Int.pow_add]; rfl
      have h4 : ((256 ^ k : Nat) : Int) = 2 ^ (8 * k) := by rw [Int.pow_mul, Int.natCast_pow]; rfl
      rw [h3, Int.natCast_add, Int.natCast_mul, h1, h2, ← h4]
      generalize 256 ^ k = q
      have h5 := @Nat.mod_mul q 256 n
      have h6 : ((n % (q * 256) : Nat) : Int) = ((n % q + q * (n / q % 256) : Nat) : Int) := by rw [h5]
      simpa using h6.symm
  have := h 8 (Nat.le_refl _)
  rw [le8_all] at this
  rw [this]
  omega
theorem int_back (x : Int) (hx : -9223372036854775808 ≤ x ∧ x ≤ 9223372036854775807) : wrap64 (leN (le8 x) : Int) = x := by
  rw [leN_le8]; unfold wrap64; omega
end Go.Proofs.Ytcpifcdndhhmgaa
