/- The document's Parse of a checkpoint. -/
import Derived.Test.YtcpifcdndhhmgaaRetRd
import Derived.Test.YtcpifcdndhhmgaaRetSmall
set_option linter.unusedVariables false
set_option linter.unusedSimpArgs false
namespace Go.Proofs.Ytcpifcdndhhmgaa
open Go.RowKit
attribute [local go_sem] ev_tmp ev_const ev_func ev_global lk_hit lk_miss uponK_value uponK_skip look_tmp look_const look_global look_func valP_value
structure PRInv (b : List UInt8) (seq : Int) (n : Nat) (l : List UInt8) (e : Int) (i : Nat) (ks : List KepS) (rl : List UInt8) (re : Int) : Prop where
  fin : (i = n ∨ re ≠ 0) → parseK b = finK seq ks (ended rl re)
  go : i < n → re = 0 → n ≤ 24 ∧ kepN i ([], l, e) = (ks, rl, re)
  len : ks.length = i
  le : i ≤ 24
theorem finK_ended (seq : Int) (ks : List KepS) (rl : List UInt8) (re : Int) (h : re ≠ 0) : finK seq ks (ended rl re) = (0, [], re) := by rw [ended_bad _ _ h, finK_err _ _ _ h]
theorem PRInv.step {b : List UInt8} {seq : Int} {n : Nat} {l : List UInt8} {e : Int} {i : Nat} {ks : List KepS} {rl : List UInt8} (h : PRInv b seq n l e i ks rl 0) (hi : i < n) (hb : parseK b = bodyK seq n l e) :
    PRInv b seq n l e (i + 1) (stepK (ks, rl, 0)).1 (stepK (ks, rl, 0)).2.1 (stepK (ks, rl, 0)).2.2 := by
  obtain ⟨hn, hk⟩ := h.go hi rfl
  have hk1 : kepN (i + 1) ([], l, e) = stepK (ks, rl, 0) := by rw [kepN, hk]
  refine ⟨fun hh => ?_, fun _ _ => ⟨hn, hk1⟩, by have := h.len; simp [stepK, this], by omega⟩
  by_cases he : (stepK (ks, rl, 0)).2.2 ≠ 0
  · rw [finK_ended _ _ _ _ he, hb, bodyK_stick seq n (i + 1) l e hn (by omega) (by rw [hk1]; exact he), hk1]
  · rcases hh with hh | hh
    · rw [hb, bodyK_few _ _ _ _ (by omega), ← hh, hk1]
    · exact absurd hh he
theorem PRInv.hb {b : List UInt8} {seq : Int} {n : Nat} {l : List UInt8} {e : Int} {i : Nat} {ks : List KepS} {rl : List UInt8} (h : PRInv b seq n l e i ks rl 0) (hi : i < n) : n ≤ 24 := (h.go hi rfl).1
end Go.Proofs.Ytcpifcdndhhmgaa
