/- known and within of the law's package. -/
import Derived.Test.YtdbjclpjplkkfaaChecked
import Derived.Test.YtdbjclpjplkkfaaCrcSum
import Derived.Lib.SlBytesConst
namespace Go.Proofs.Ytdbjclpjplkkfaa
open Go.RowKit

theorem emod_neg_ (x n : Int) (h : x.tmod n < 0) (h0 : 0 < n) : x.tmod n + n = x % n := by
  have := Int.tmod_eq_emod (a := x) (b := n)
  have hb := Int.emod_lt_of_pos x h0
  have hc := Int.emod_nonneg x (Int.ne_of_gt h0)
  split at this <;> omega
theorem emod_pos_ (x n : Int) (h : 0 ≤ x.tmod n) (h0 : 0 < n) : x.tmod n = x % n := by
  have := Int.tmod_eq_emod (a := x) (b := n)
  have hb := Int.emod_lt_of_pos x h0
  have hc := Int.emod_nonneg x (Int.ne_of_gt h0)
  split at this <;> omega

/-- a number from 0 to n - 1 -/
def within (x : Int) (n : Nat) : Nat := (x % (n : Int)).toNat
theorem within_lt (x : Int) (n : Nat) (h : 0 < n) : within x n < n := by
  have := Int.emod_lt_of_pos x (show (0 : Int) < n by omega)
  have := Int.emod_nonneg x (show (n : Int) ≠ 0 by omega)
  unfold within; omega

theorem within_any (x : Int) (n : Nat) (N : Int) (w : World) (hN : N = n) (h0 : 0 < n) (hn : n ≤ 4294967296) :
    Calls Try.prog 12 #[.int .i64 x, .int .i64 N] w fun e w' => e = .returned (.int .i64 (within x n : Int)) ∧ w = w' := by
  subst hN
  have h0' : (0 : Int) < n := by omega
  have h1 : x.tmod n < n := Int.tmod_lt_of_pos x h0'
  have h2 : -(n : Int) < x.tmod n := by
    have := Int.tmod_eq_emod (a := x) (b := n)
    have hc := Int.emod_nonneg x (Int.ne_of_gt h0')
    split at this <;> omega
  have hm := Int.emod_nonneg x (Int.ne_of_gt h0')
  have hW : ((within x n : Nat) : Int) = x % n := by unfold within; omega
  clear hm
  rw [hW]
  clear hW
  go_enter Try.func12, Try.ntmps12
  go_wp2
  · go_ret
    exact ⟨ret_int (emod_neg_ x n (by assumption) h0'), rfl⟩
  · go_ret
    exact ⟨ret_int (emod_pos_ x n (by omega) h0'), rfl⟩

theorem known_sum : (((crc [[49, 50, 51, 52], [53, 54, 55, 56, 57]].flatten).toNat : Nat) : Int) = 3421780262 := by
  have : [[49, 50, 51, 52], [53, 54, 55, 56, 57]].flatten = ([49, 50, 51, 52, 53, 54, 55, 56, 57] : List UInt8) := rfl
  rw [this, crc_known]; rfl

/-- '[]byte' of a constant -/
theorem constBytes (w : World) (B : Nat) (hB : B = w.heap.size) (C : Array Value) (n c : Nat) :
    (convert 25 25 (.slice (some ⟨B, 0, none⟩) n c)).run Try.prog (w.alloc (.cells C 5)) = .ok (.slice (some ⟨B, 0, none⟩) n c) (w.alloc (.cells C 5 (C.size, C.size + 1))) := by
  subst hB
  exact Lib.run_convert_bytes_const (P := Try.prog) w 25 5 C n c Try.underlying25 Try.underlying5
theorem known_any (w : World) : Calls Try.prog 9 #[] w fun e w' => e = .returned (.bool true) ∧ Below w.heap.size w w' := by
  have kc := constBytes
  go_enter Try.func9, Try.ntmps9
  go_wp2_with fail
  refine Calls.mono (crcSum_any _ _ _ [[49, 50, 51, 52], [53, 54, 55, 56, 57]] _ (Ps.lit2 _ (by simp) (Bs.alloc (Bs.litF _ rfl [49, 50, 51, 52] rfl rfl) _) (by omega) (by omega) (Bs.litF _ (by simp) [53, 54, 55, 56, 57] rfl rfl) (by omega) (by omega)) (by omega)) ?_
  rintro e w1 ⟨he, rfl⟩
  rw [known_sum] at he
  subst he
  go_wp2
  go_ret
  exact ⟨rfl, (((Below.refl _ w).alloc (Nat.le_refl _) _).alloc (by simp) _).alloc (by simp; omega) _⟩
end Go.Proofs.Ytdbjclpjplkkfaa
