/- known and within of the law's package. -/
import Derived.Test.YtdomdnmjabadiaaFlashProg
import Derived.Test.YtdomdnmjabadiaaFlashLaws
namespace Go.Proofs.Ytdomdnmjabadiaa
open Go.RowKit

theorem emod_neg_ (x n : Int) (h : x.tmod n < 0) (h0 : 0 < n) : x.tmod n + n = x % n := by
  have := Int.tmod_eq_emod (a := x) (b := n)
  have hb := Int.emod_lt_of_pos x h0
  have hc := Int.emod_nonneg x (Int.ne_of_gt h0)
  split at this <;> omega
theorem emod_pos_ (x n : Int) (h : 0 ≤ x.tmod n) (h0 : 0 < n) : x.tmod n = x % n := by
  have := Int.tmod_eq_emod (a := x) (b := n)
  have hb := Int.emod_lt_of_pos x h0
  have hc := Int.emod_nonneg x (Int.ne_of_gt h0)
  split at this <;> omega

/-- a number from 0 to n - 1 -/
def within (x : Int) (n : Nat) : Nat := (x % (n : Int)).toNat
theorem within_lt (x : Int) (n : Nat) (h : 0 < n) : within x n < n := by
  have := Int.emod_lt_of_pos x (show (0 : Int) < n by omega)
  have := Int.emod_nonneg x (show (n : Int) ≠ 0 by omega)
  unfold within; omega

theorem within_any (x : Int) (n : Nat) (N : Int) (w : World) (hN : N = n) (h0 : 0 < n) (hn : n ≤ 4294967296) :
    Calls Try.prog 11 #[.int .i64 x, .int .i64 N] w fun e w' => e = .returned (.int .i64 (within x n : Int)) ∧ w = w' := by
  subst hN
  have h0' : (0 : Int) < n := by omega
  have h1 : x.tmod n < n := Int.tmod_lt_of_pos x h0'
  have h2 : -(n : Int) < x.tmod n := by
    have := Int.tmod_eq_emod (a := x) (b := n)
    have hc := Int.emod_nonneg x (Int.ne_of_gt h0')
    split at this <;> omega
  have hm := Int.emod_nonneg x (Int.ne_of_gt h0')
  have hW : ((within x n : Nat) : Int) = x % n := by unfold within; omega
  clear hm
  rw [hW]
  clear hW
  go_enter Try.func11, Try.ntmps11
  go_wp2
  · go_ret
    exact ⟨ret_int (emod_neg_ x n (by assumption) h0'), rfl⟩
  · go_ret
    exact ⟨ret_int (emod_pos_ x n (by omega) h0'), rfl⟩


theorem lit1 (W : World) (t : TypeId) (x : UInt8) {B : Nat} (hB : B = W.heap.size) : Bs (W.alloc (.cells #[.int .u8 (x.toNat : Int)] t)) (some ⟨B, 0, none⟩) 1 [x] := Bs.lit t hB [x] rfl rfl
theorem read_cell {W : World} {A : Option Addr} {n i : Nat} {l : List UInt8} {x : UInt8} (h : Bs W A n l) (hx : l[i]? = some x) : ∃ b o, A = some ⟨b, o, none⟩ ∧ W.cell? ⟨b, o + i, none⟩ = some (.int .u8 (x.toNat : Int)) := by
  have hi : i < l.length := (List.getElem?_eq_some_iff.1 hx).1
  obtain ⟨b, o, e, hc⟩ := h.2 (by rw [← h.len]; omega)
  exact ⟨b, o, e, hc i _ (by simp [bv, hx])⟩

set_option maxRecDepth 100000 in
set_option maxHeartbeats 1000000 in
theorem known_any (w : World) : Calls Try.prog 10 #[] w fun e w' => e = .returned (.bool true) ∧ Below w.heap.size w w' := by
  have p1 : progF newF 0 0 [15] = (0, doneP newF (0 * 1024 + 0 * 16) [15]) := prog_ok newF 0 0 [15] rfl rfl (by omega) (by omega) (by decide) (fits_blank _ _ _ fun k hk => newF_at _ (by omega))
  have hS1 : (doneP newF (0 * 1024 + 0 * 16) [15]).S.getD 0 0 = 15 := by
    rw [doneP_at _ _ _ _ (by rw [newF_len]; omega), if_pos (by omega), pad_at _ _ (by omega) (by decide)]
    rfl
  have hl1 : (doneP newF (0 * 1024 + 0 * 16) [15]).S.length = 6144 := by rw [doneP_len, newF_len]
  have hd1 : (doneP newF (0 * 1024 + 0 * 16) [15]).done = 1 := by show wrap64 (0 + 1) = 1; simp [wrap64]
  have hdd : (doneP newF (0 * 1024 + 0 * 16) [15]).dead = false := rfl
  generalize doneP newF (0 * 1024 + 0 * 16) [15] = f1 at p1 hS1 hl1 hd1 hdd
  have p2 : progF f1 0 0 [255] = (13, f1) := prog_set f1 0 0 [255] hdd (by omega) (by omega) (by decide) (by
    cases h : fits [255] (0 * 1024 + 0 * 16) f1.S 16 with
    | false => rfl
    | true =>
      have := (fits_iff _ _ _ _).1 h 0 (by omega)
      rw [pad_at _ _ (by omega) (by decide)] at this
      rw [show 0 * 1024 + 0 * 16 + 0 = 0 by omega, hS1] at this
      exact absurd this (by decide))
  have hr0 := read_len newF 0 (by omega) newF_len
  have hr1 := read_len f1 0 (by omega) hl1
  have hx1 := read_at f1 0 (by omega) hl1 0 (by omega)
  rw [show 0 * 1024 + 0 = 0 by omega, hS1] at hx1
  have P1 := Lib.hid p1
  have P2 := Lib.hid p2
  have X1 := Lib.hid hx1
  have R0 := Lib.hid hr0
  have R1 := Lib.hid hr1
  clear p1 p2 hx1 hr0 hr1 hS1 hl1 hdd
  go_enter Try.func10, Try.ntmps10
  go_upto_region 4 with (first
    | (go_at_call 12; refine Calls.mono (new_any _) ?_; rintro r w1 ⟨rfl, hf1, hb1⟩)
    | (go_at_call 14; refine Calls.mono (read_any _ _ newF 0 _ hf1) ?_; rintro r w2 ⟨A2, n2, c2, rfl, hB2, hn2, hc2, hb2⟩; obtain rfl : n2 = 1024 := by { rw [← hB2.len]; exact R0.out }))
  have hb2w := below_two hb1 hb2
  go_upto_region 5 with (go_at_call 13; refine Calls.mono (program_any _ _ (fun _ h => h.elim) newF 0 0 _ 1 1 [15] _ ((hf1.below hb2).below ((Below.refl _ _).alloc (Nat.le_refl _) _)) (lit1 w2 _ 15 rfl) (by omega) (by omega)) ?_; rw [P1.out]; rintro r w3 ⟨rfl, hf3, hg3⟩)
  have hb3 := below_grown (hb2w.alloc hb2w.size _) hg3 (Nat.le_trans hb2w.size (by simp)) (Nat.le_refl _)
  have hf3 : FS (fun _ => False) w3 w.heap.size f1 := hf3
  go_upto_region 6 with (go_at_call 13; refine Calls.mono (program_any _ _ (fun _ h => h.elim) f1 0 0 _ 1 1 [255] _ (hf3.below ((Below.refl _ _).alloc (Nat.le_refl _) _)) (lit1 w3 _ 255 rfl) (by omega) (by omega)) ?_; rw [P2.out]; rintro r w4 ⟨rfl, hf4, hg4⟩)
  have hb4 := below_grown (hb3.alloc hb3.size _) hg4 (Nat.le_trans hb3.size (by simp)) (Nat.le_refl _)
  have hf4 : FS (fun _ => False) w4 w.heap.size f1 := hf4
  go_wp2_with (first
    | (go_at_call 14; refine Calls.mono (read_any _ _ f1 0 _ hf4) ?_; rintro r w5 ⟨A5, n5, c5, rfl, hB5, hn5, hc5, hb5⟩; obtain rfl : n5 = 1024 := by { rw [← hB5.len]; exact R1.out }; obtain ⟨b, o, rfl, cx⟩ := read_cell hB5 X1.out; have cx : w5.cell? ⟨b, o, none⟩ = some (.int .u8 15) := cx)
    | (go_at_call 15; refine Calls.mono (ops_any _ _ f1 _ (hf4.below hb5)) ?_; rw [hd1]; rintro r _ ⟨rfl, rfl⟩))
  go_ret
  exact ⟨rfl, below_two hb4 hb5⟩
end Go.Proofs.Ytdomdnmjabadiaa
