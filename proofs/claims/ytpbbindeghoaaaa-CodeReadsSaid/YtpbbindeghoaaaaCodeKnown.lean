/- known and within of the law's package. -/
import Derived.Test.YtpbbindeghoaaaaChecked
import Derived.Test.YtpbbindeghoaaaaCodeText
import Derived.Lib.SlBytesConst
namespace Go.Proofs.Ytpbbindeghoaaaa
open Go.RowKit

theorem emod_neg_ (x n : Int) (h : x.tmod n < 0) (h0 : 0 < n) : x.tmod n + n = x % n := by
  have := Int.tmod_eq_emod (a := x) (b := n)
  have hb := Int.emod_lt_of_pos x h0
  have hc := Int.emod_nonneg x (Int.ne_of_gt h0)
  split at this <;> omega
theorem emod_pos_ (x n : Int) (h : 0 ≤ x.tmod n) (h0 : 0 < n) : x.tmod n = x % n := by
  have := Int.tmod_eq_emod (a := x) (b := n)
  have hb := Int.emod_lt_of_pos x h0
  have hc := Int.emod_nonneg x (Int.ne_of_gt h0)
  split at this <;> omega

/-- a number from 0 to n - 1 -/
def within (x : Int) (n : Nat) : Nat := (x % (n : Int)).toNat
theorem within_lt (x : Int) (n : Nat) (h : 0 < n) : within x n < n := by
  have := Int.emod_lt_of_pos x (show (0 : Int) < n by omega)
  have := Int.emod_nonneg x (show (n : Int) ≠ 0 by omega)
  unfold within; omega

theorem within_any (x : Int) (n : Nat) (N : Int) (w : World) (hN : N = n) (h0 : 0 < n) (hn : n ≤ 4294967296) :
    Calls Try.prog 17 #[.int .i64 x, .int .i64 N] w fun e w' => e = .returned (.int .i64 (within x n : Int)) ∧ w = w' := by
  subst hN
  have h0' : (0 : Int) < n := by omega
  have h1 : x.tmod n < n := Int.tmod_lt_of_pos x h0'
  have h2 : -(n : Int) < x.tmod n := by
    have := Int.tmod_eq_emod (a := x) (b := n)
    have hc := Int.emod_nonneg x (Int.ne_of_gt h0')
    split at this <;> omega
  have hm := Int.emod_nonneg x (Int.ne_of_gt h0')
  have hW : ((within x n : Nat) : Int) = x % n := by unfold within; omega
  clear hm
  rw [hW]
  clear hW
  go_enter Try.func17, Try.ntmps17
  go_wp2
  · go_ret
    exact ⟨ret_int (emod_neg_ x n (by assumption) h0'), rfl⟩
  · go_ret
    exact ⟨ret_int (emod_pos_ x n (by omega) h0'), rfl⟩

set_option maxRecDepth 100000 in
theorem known_any (w : World) : Calls Try.prog 10 #[] w fun e w' => e = .returned (.bool true) ∧ Below w.heap.size w w' := by
  go_enter Try.func10, Try.ntmps10
  go_wp2_with (first
    | (go_at_call 11; refine Calls.mono (codeInt_any none 0 0 [] (-2) _ (Bs.nil _ _) (by omega) (by omega)) ?_; rintro e w1 ⟨v1, rfl, hown1, hb1⟩; obtain ⟨g, d, rfl, _, _, _, _⟩ := own_form hown1 (by omega); have c0 := own_cell (j := 0) (x := 254) hown1 (by kernel_rfl); have c7 := own_cell (j := 7) (x := 255) hown1 (by kernel_rfl))
    | (go_at_call 15; refine Calls.mono (codeText_any none 0 0 [] [97, 98] _ (Bs.nil _ _) (by omega) (by omega) (by omega) (by simp)) ?_; rintro e w2 ⟨v2, rfl, hown2, hb2⟩; have hown2 : w2.ownsRow _ _ 1 v2 4 _ := hown2; obtain ⟨A2, c2, rfl, _, _, _, _⟩ := own_slice hown2))
  go_ret
  exact ⟨rfl, below_two hb1 hb2⟩
end Go.Proofs.Ytpbbindeghoaaaa
