/- SlotsStore: the walk. -/
import Derived.Test.YtkncomkncfcecaaSlotKnown
import Derived.Test.YtkncomkncfcecaaShaRef
import Derived.Test.YtkncomkncfcecaaShaWord
set_option linter.unusedVariables false
set_option linter.unusedSimpArgs false
namespace Go.Proofs.Ytkncomkncfcecaa
open Go.RowKit
attribute [local go_sem] ev_tmp ev_const ev_func ev_global lk_hit lk_miss uponK_value uponK_skip look_tmp look_const look_global look_func valP_value
theorem store_law (sl os : Nat) (h1 : sl < 2) (h2 : sl + os = 1) (a b c : List UInt8) (ha : a.length ≤ 1000) (hb : b.length ≤ 1000) (hc : c.length ≤ 1000) :
    ∃ f1 f2 f3 f4 f5, storeP newF sl a = (0, f1) ∧ storeP f1 os b = (0, f2) ∧ storeP f2 sl c = (0, f3) ∧ markP f3 os (sha b) = (0, f4) ∧ bootP f4 = (⟨1, os, sha b⟩, b) ∧ markP f4 sl (sha c) = (0, f5) ∧ bootP f5 = (⟨2, sl, sha c⟩, c) := by
  obtain ⟨f1, e1, L1, _, r1⟩ := store_ok newF live_new sl h1 a ha
  obtain ⟨f2, e2, L2, P2, r2⟩ := store_ok f1 L1 os (by omega) b hb
  obtain ⟨f3, e3, L3, P3, r3⟩ := store_ok f2 L2 sl h1 c hc
  have M3 : Marks f3 0 [] := marks_new.other fun i hi => by rw [r3 i (by omega) (by omega), r2 i (by omega) (by omega), r1 i (by omega) (by omega)]
  obtain ⟨f4, t4, e4, L4, M4, z4, r4⟩ := M3.mark L3 (by omega) os (by omega) (sha b) (length_sha b)
  obtain ⟨f5, t5, e5, L5, M5, z5, r5⟩ := M4.mark L4 (by omega) sl (by omega) (sha c) (length_sha c)
  have k2 : (2 : Int) + (os : Int) = ((2 + os : Nat) : Int) := by omega
  have k3 : (2 : Int) + (sl : Int) = ((2 + sl : Nat) : Int) := by omega
  have i4 : imageP f4 ⟨1, os, sha b⟩ = (b, true) := by
    rw [image_one f4 _ (by show (os : Int) ≠ 2; omega) b [] (by show Packed (readF f4 (2 + (os : Int))) [b]; rw [k2, r4 _ (by omega) (by omega), r3 _ (by omega) (by omega), ← k2]; exact P2), if_pos rfl]
  have i5 : imageP f5 ⟨2, sl, sha c⟩ = (c, true) := by
    rw [image_one f5 _ (by show (sl : Int) ≠ 2; omega) c [] (by show Packed (readF f5 (2 + (sl : Int))) [c]; rw [k3, r5 _ (by omega) (by omega), r4 _ (by omega) (by omega), ← k3]; exact P3), if_pos rfl]
  refine ⟨f1, f2, f3, f4, f5, e1, e2, e3, e4, ?_, e5, ?_⟩
  · rw [M4.boot, bootL_last _ _ _ (by show (imageP f4 ⟨1, os, sha b⟩).2 = true; rw [i4])]
    show ((⟨1, os, sha b⟩ : EntS), (imageP f4 ⟨1, os, sha b⟩).1) = _
    rw [i4]
  · rw [M5.boot, bootL_last _ _ _ (by show (imageP f5 ⟨2, sl, sha c⟩).2 = true; rw [i5])]
    show ((⟨2, sl, sha c⟩ : EntS), (imageP f5 ⟨2, sl, sha c⟩).1) = _
    rw [i5]
set_option maxRecDepth 100000 in
set_option maxHeartbeats 4000000 in
theorem slotsStore_top (A : Option Addr) (n c : Nat) (a : List UInt8) (B : Option Addr) (m d : Nat) (b : List UInt8) (C : Option Addr) (k e : Nat) (y : List UInt8) (z : Int) (w : World)
    (hA : Bs w A n a) (hnc : n ≤ c) (hc : c ≤ 140737488351232) (hB : Bs w B m b) (hmd : m ≤ d) (hd : d ≤ 140737488351232) (hC : Bs w C k y) (hke : k ≤ e) (he : e ≤ 140737488351232) (_ : -9223372036854775808 ≤ z ∧ z ≤ 9223372036854775807) :
    Calls Try.prog 5 #[.slice A n c, .slice B m d, .slice C k e, .int .i64 z] w fun e w' => e = .returned (.bool true) ∧ Below w.heap.size w w' := by
  refine calls_kw Try.func5 rfl Try.ntmps5 rfl [(0, .slice A n c), (1, .slice B m d), (2, .slice C k e), (3, .int .i64 z)] rfl ?_
  repeat (first | refine kw_seq ?_ | refine kw_region ?_ | refine kl_nil ?_ | refine kq_then ?_ | refine kw_iff rfl ?_ | refine kw_skip ?_ | refine kw_block ?_ | refine kl_ung rfl rfl ?_ | refine kl_skipg rfl rfl rfl rfl ?_ | (first | refine kl_move rfl rfl (.inl rfl) rfl rfl ?_ | refine kl_move rfl rfl (.inr rfl) rfl rfl ?_ | refine kl_const rfl rfl (.inl rfl) rfl ?_ | refine kl_const rfl rfl (.inr rfl) rfl ?_) | ((first | refine kl_step rfl rfl rfl fun K hK => ?_ | refine kl_step0 rfl rfl rfl fun K hK => ?_); go_simp; (try go_bits); (first | refine hK _ _ ?_ | refine hK _ ?_); clear hK K))
  refine kl_call rfl rfl rfl Try.func10 rfl (by kernel_rfl) rfl ?_
  refine Calls.mono (known6_any w) ?_
  rintro e w0 ⟨rfl, hb0⟩
  refine ⟨_, rfl, ?_⟩
  have hA0 := hA.keep (.of_below hb0)
  have hB0 := hB.keep (.of_below hb0)
  have hC0 := hC.keep (.of_below hb0)
  have HIA := Lib.hid hA.inQ
  have HIB := Lib.hid hB.inQ
  have HIC := Lib.hid hC.inQ
  have hna := hA.len
  have hnb := hB.len
  have hnk := hC.len
  have HS0 := Lib.hid hb0.size
  clear hA hB hC
  by_cases d0 : n = 0
  · have t0 : ((n : Int) == 0) = true := by rw [beq_iff_eq]; omega
    have t0n : (n == 0) = true := by rw [beq_iff_eq]; omega
    repeat (first | refine kw_seq ?_ | refine kw_region ?_ | refine kl_nil ?_ | refine kq_then ?_ | refine kw_iff rfl ?_ | refine kw_skip ?_ | refine kw_block ?_ | refine kl_ung rfl rfl ?_ | refine kl_skipg rfl rfl rfl rfl ?_ | refine kw_ift rfl ?_ | (first | refine kl_move rfl rfl (.inl rfl) rfl rfl ?_ | refine kl_move rfl rfl (.inr rfl) rfl rfl ?_ | refine kl_const rfl rfl (.inl rfl) rfl ?_ | refine kl_const rfl rfl (.inr rfl) rfl ?_) | ((first | refine kl_step rfl rfl rfl fun K hK => ?_ | refine kl_step0 rfl rfl rfl fun K hK => ?_); go_simp; (try go_bits); (first | refine hK _ _ ?_ | refine hK _ ?_); clear hK K))
    repeat (first | refine kw_seq ?_ | refine kw_block ?_ | refine kw_skip ?_ | refine kw_region ?_ | refine kl_nil ?_ | refine kq_then ?_ | refine kq_block ?_ | refine kw_exit ?_ | refine kq_then_exit ?_ | refine kq_block_here rfl ?_ | refine kq_block_far rfl ?_ | refine kq_again_exit ?_ | refine kw_ret ?_ | refine kq_then_ret ?_ | refine kq_block_ret ?_ | refine kq_again_ret ?_ | refine kw_ift rfl ?_ | refine kw_iff rfl ?_ | refine kl_ung rfl rfl ?_ | refine kl_skipg rfl rfl rfl rfl ?_ | refine kl_skipg0 rfl rfl rfl ?_ | (first | refine kl_move rfl rfl (.inl rfl) rfl rfl ?_ | refine kl_move rfl rfl (.inr rfl) rfl rfl ?_ | refine kl_const rfl rfl (.inl rfl) rfl ?_ | refine kl_const rfl rfl (.inr rfl) rfl ?_) | ((first | refine kl_step rfl rfl rfl fun K hK => ?_ | refine kl_step0 rfl rfl rfl fun K hK => ?_); go_simp; (try go_bits); (first | refine hK _ _ ?_ | refine hK _ ?_); clear hK K))
    exact kq_ret1 rfl rfl ⟨rfl, hb0⟩
  have t0 : ((n : Int) == 0) = false := by rw [beq_eq_false_iff_ne]; omega
  have t0n : (n == 0) = false := by rw [beq_eq_false_iff_ne]; omega
  by_cases d1 : m = 0
  · have t1 : ((m : Int) == 0) = true := by rw [beq_iff_eq]; omega
    have t1n : (m == 0) = true := by rw [beq_iff_eq]; omega
    repeat (first | refine kw_seq ?_ | refine kw_region ?_ | refine kl_nil ?_ | refine kq_then ?_ | refine kw_iff rfl ?_ | refine kw_skip ?_ | refine kw_block ?_ | refine kl_ung rfl rfl ?_ | refine kl_skipg rfl rfl rfl rfl ?_ | refine kw_ift rfl ?_ | (first | refine kl_move rfl rfl (.inl rfl) rfl rfl ?_ | refine kl_move rfl rfl (.inr rfl) rfl rfl ?_ | refine kl_const rfl rfl (.inl rfl) rfl ?_ | refine kl_const rfl rfl (.inr rfl) rfl ?_) | ((first | refine kl_step rfl rfl rfl fun K hK => ?_ | refine kl_step0 rfl rfl rfl fun K hK => ?_); go_simp; (try go_bits); (first | refine hK _ _ ?_ | refine hK _ ?_); clear hK K))
    repeat (first | refine kw_seq ?_ | refine kw_block ?_ | refine kw_skip ?_ | refine kw_region ?_ | refine kl_nil ?_ | refine kq_then ?_ | refine kq_block ?_ | refine kw_exit ?_ | refine kq_then_exit ?_ | refine kq_block_here rfl ?_ | refine kq_block_far rfl ?_ | refine kq_again_exit ?_ | refine kw_ret ?_ | refine kq_then_ret ?_ | refine kq_block_ret ?_ | refine kq_again_ret ?_ | refine kw_ift rfl ?_ | refine kw_iff rfl ?_ | refine kl_ung rfl rfl ?_ | refine kl_skipg rfl rfl rfl rfl ?_ | refine kl_skipg0 rfl rfl rfl ?_ | (first | refine kl_move rfl rfl (.inl rfl) rfl rfl ?_ | refine kl_move rfl rfl (.inr rfl) rfl rfl ?_ | refine kl_const rfl rfl (.inl rfl) rfl ?_ | refine kl_const rfl rfl (.inr rfl) rfl ?_) | ((first | refine kl_step rfl rfl rfl fun K hK => ?_ | refine kl_step0 rfl rfl rfl fun K hK => ?_); go_simp; (try go_bits); (first | refine hK _ _ ?_ | refine hK _ ?_); clear hK K))
    exact kq_ret1 rfl rfl ⟨rfl, hb0⟩
  have t1 : ((m : Int) == 0) = false := by rw [beq_eq_false_iff_ne]; omega
  have t1n : (m == 0) = false := by rw [beq_eq_false_iff_ne]; omega
  by_cases d2 : k = 0
  · have t2 : ((k : Int) == 0) = true := by rw [beq_iff_eq]; omega
    have t2n : (k == 0) = true := by rw [beq_iff_eq]; omega
    repeat (first | refine kw_seq ?_ | refine kw_region ?_ | refine kl_nil ?_ | refine kq_then ?_ | refine kw_iff rfl ?_ | refine kw_skip ?_ | refine kw_block ?_ | refine kl_ung rfl rfl ?_ | refine kl_skipg rfl rfl rfl rfl ?_ | refine kw_ift rfl ?_ | (first | refine kl_move rfl rfl (.inl rfl) rfl rfl ?_ | refine kl_move rfl rfl (.inr rfl) rfl rfl ?_ | refine kl_const rfl rfl (.inl rfl) rfl ?_ | refine kl_const rfl rfl (.inr rfl) rfl ?_) | ((first | refine kl_step rfl rfl rfl fun K hK => ?_ | refine kl_step0 rfl rfl rfl fun K hK => ?_); go_simp; (try go_bits); (first | refine hK _ _ ?_ | refine hK _ ?_); clear hK K))
    repeat (first | refine kw_seq ?_ | refine kw_block ?_ | refine kw_skip ?_ | refine kw_region ?_ | refine kl_nil ?_ | refine kq_then ?_ | refine kq_block ?_ | refine kw_exit ?_ | refine kq_then_exit ?_ | refine kq_block_here rfl ?_ | refine kq_block_far rfl ?_ | refine kq_again_exit ?_ | refine kw_ret ?_ | refine kq_then_ret ?_ | refine kq_block_ret ?_ | refine kq_again_ret ?_ | refine kw_ift rfl ?_ | refine kw_iff rfl ?_ | refine kl_ung rfl rfl ?_ | refine kl_skipg rfl rfl rfl rfl ?_ | refine kl_skipg0 rfl rfl rfl ?_ | (first | refine kl_move rfl rfl (.inl rfl) rfl rfl ?_ | refine kl_move rfl rfl (.inr rfl) rfl rfl ?_ | refine kl_const rfl rfl (.inl rfl) rfl ?_ | refine kl_const rfl rfl (.inr rfl) rfl ?_) | ((first | refine kl_step rfl rfl rfl fun K hK => ?_ | refine kl_step0 rfl rfl rfl fun K hK => ?_); go_simp; (try go_bits); (first | refine hK _ _ ?_ | refine hK _ ?_); clear hK K))
    exact kq_ret1 rfl rfl ⟨rfl, hb0⟩
  have t2 : ((k : Int) == 0) = false := by rw [beq_eq_false_iff_ne]; omega
  have t2n : (k == 0) = false := by rw [beq_eq_false_iff_ne]; omega
  by_cases d3 : 2000 < n + m + k
  · have t3 : decide ((2000 : Int) < (n : Int) + (m : Int) + (k : Int)) = true := by rw [decide_eq_true_eq]; omega
    have t3n : decide (2000 < n + m + k) = true := by rw [decide_eq_true_eq]; omega
    repeat (first | refine kw_seq ?_ | refine kw_region ?_ | refine kl_nil ?_ | refine kq_then ?_ | refine kw_iff rfl ?_ | refine kw_skip ?_ | refine kw_block ?_ | refine kl_ung rfl rfl ?_ | refine kl_skipg rfl rfl rfl rfl ?_ | refine kw_ift rfl ?_ | (first | refine kl_move rfl rfl (.inl rfl) rfl rfl ?_ | refine kl_move rfl rfl (.inr rfl) rfl rfl ?_ | refine kl_const rfl rfl (.inl rfl) rfl ?_ | refine kl_const rfl rfl (.inr rfl) rfl ?_) | ((first | refine kl_step rfl rfl rfl fun K hK => ?_ | refine kl_step0 rfl rfl rfl fun K hK => ?_); go_simp; (try go_bits); (first | refine hK _ _ ?_ | refine hK _ ?_); clear hK K))
    repeat (first | refine kw_seq ?_ | refine kw_block ?_ | refine kw_skip ?_ | refine kw_region ?_ | refine kl_nil ?_ | refine kq_then ?_ | refine kq_block ?_ | refine kw_exit ?_ | refine kq_then_exit ?_ | refine kq_block_here rfl ?_ | refine kq_block_far rfl ?_ | refine kq_again_exit ?_ | refine kw_ret ?_ | refine kq_then_ret ?_ | refine kq_block_ret ?_ | refine kq_again_ret ?_ | refine kw_ift rfl ?_ | refine kw_iff rfl ?_ | refine kl_ung rfl rfl ?_ | refine kl_skipg rfl rfl rfl rfl ?_ | refine kl_skipg0 rfl rfl rfl ?_ | (first | refine kl_move rfl rfl (.inl rfl) rfl rfl ?_ | refine kl_move rfl rfl (.inr rfl) rfl rfl ?_ | refine kl_const rfl rfl (.inl rfl) rfl ?_ | refine kl_const rfl rfl (.inr rfl) rfl ?_) | ((first | refine kl_step rfl rfl rfl fun K hK => ?_ | refine kl_step0 rfl rfl rfl fun K hK => ?_); go_simp; (try go_bits); (first | refine hK _ _ ?_ | refine hK _ ?_); clear hK K))
    exact kq_ret1 rfl rfl ⟨rfl, hb0⟩
  have t3 : decide ((2000 : Int) < (n : Int) + (m : Int) + (k : Int)) = false := by rw [decide_eq_false_iff_not]; omega
  have t3n : decide (2000 < n + m + k) = false := by rw [decide_eq_false_iff_not]; omega
  by_cases d4 : 1000 < n
  · have t4 : decide ((1000 : Int) < (n : Int)) = true := by rw [decide_eq_true_eq]; omega
    have t4n : decide (1000 < n) = true := by rw [decide_eq_true_eq]; omega
    repeat (first | refine kw_seq ?_ | refine kw_region ?_ | refine kl_nil ?_ | refine kq_then ?_ | refine kw_iff rfl ?_ | refine kw_skip ?_ | refine kw_block ?_ | refine kl_ung rfl rfl ?_ | refine kl_skipg rfl rfl rfl rfl ?_ | refine kw_ift rfl ?_ | (first | refine kl_move rfl rfl (.inl rfl) rfl rfl ?_ | refine kl_move rfl rfl (.inr rfl) rfl rfl ?_ | refine kl_const rfl rfl (.inl rfl) rfl ?_ | refine kl_const rfl rfl (.inr rfl) rfl ?_) | ((first | refine kl_step rfl rfl rfl fun K hK => ?_ | refine kl_step0 rfl rfl rfl fun K hK => ?_); go_simp; (try go_bits); (first | refine hK _ _ ?_ | refine hK _ ?_); clear hK K))
    repeat (first | refine kw_seq ?_ | refine kw_block ?_ | refine kw_skip ?_ | refine kw_region ?_ | refine kl_nil ?_ | refine kq_then ?_ | refine kq_block ?_ | refine kw_exit ?_ | refine kq_then_exit ?_ | refine kq_block_here rfl ?_ | refine kq_block_far rfl ?_ | refine kq_again_exit ?_ | refine kw_ret ?_ | refine kq_then_ret ?_ | refine kq_block_ret ?_ | refine kq_again_ret ?_ | refine kw_ift rfl ?_ | refine kw_iff rfl ?_ | refine kl_ung rfl rfl ?_ | refine kl_skipg rfl rfl rfl rfl ?_ | refine kl_skipg0 rfl rfl rfl ?_ | (first | refine kl_move rfl rfl (.inl rfl) rfl rfl ?_ | refine kl_move rfl rfl (.inr rfl) rfl rfl ?_ | refine kl_const rfl rfl (.inl rfl) rfl ?_ | refine kl_const rfl rfl (.inr rfl) rfl ?_) | ((first | refine kl_step rfl rfl rfl fun K hK => ?_ | refine kl_step0 rfl rfl rfl fun K hK => ?_); go_simp; (try go_bits); (first | refine hK _ _ ?_ | refine hK _ ?_); clear hK K))
    exact kq_ret1 rfl rfl ⟨rfl, hb0⟩
  have t4 : decide ((1000 : Int) < (n : Int)) = false := by rw [decide_eq_false_iff_not]; omega
  have t4n : decide (1000 < n) = false := by rw [decide_eq_false_iff_not]; omega
  by_cases d5 : 1000 < m
  · have t5 : decide ((1000 : Int) < (m : Int)) = true := by rw [decide_eq_true_eq]; omega
    have t5n : decide (1000 < m) = true := by rw [decide_eq_true_eq]; omega
    repeat (first | refine kw_seq ?_ | refine kw_region ?_ | refine kl_nil ?_ | refine kq_then ?_ | refine kw_iff rfl ?_ | refine kw_skip ?_ | refine kw_block ?_ | refine kl_ung rfl rfl ?_ | refine kl_skipg rfl rfl rfl rfl ?_ | refine kw_ift rfl ?_ | (first | refine kl_move rfl rfl (.inl rfl) rfl rfl ?_ | refine kl_move rfl rfl (.inr rfl) rfl rfl ?_ | refine kl_const rfl rfl (.inl rfl) rfl ?_ | refine kl_const rfl rfl (.inr rfl) rfl ?_) | ((first | refine kl_step rfl rfl rfl fun K hK => ?_ | refine kl_step0 rfl rfl rfl fun K hK => ?_); go_simp; (try go_bits); (first | refine hK _ _ ?_ | refine hK _ ?_); clear hK K))
    repeat (first | refine kw_seq ?_ | refine kw_block ?_ | refine kw_skip ?_ | refine kw_region ?_ | refine kl_nil ?_ | refine kq_then ?_ | refine kq_block ?_ | refine kw_exit ?_ | refine kq_then_exit ?_ | refine kq_block_here rfl ?_ | refine kq_block_far rfl ?_ | refine kq_again_exit ?_ | refine kw_ret ?_ | refine kq_then_ret ?_ | refine kq_block_ret ?_ | refine kq_again_ret ?_ | refine kw_ift rfl ?_ | refine kw_iff rfl ?_ | refine kl_ung rfl rfl ?_ | refine kl_skipg rfl rfl rfl rfl ?_ | refine kl_skipg0 rfl rfl rfl ?_ | (first | refine kl_move rfl rfl (.inl rfl) rfl rfl ?_ | refine kl_move rfl rfl (.inr rfl) rfl rfl ?_ | refine kl_const rfl rfl (.inl rfl) rfl ?_ | refine kl_const rfl rfl (.inr rfl) rfl ?_) | ((first | refine kl_step rfl rfl rfl fun K hK => ?_ | refine kl_step0 rfl rfl rfl fun K hK => ?_); go_simp; (try go_bits); (first | refine hK _ _ ?_ | refine hK _ ?_); clear hK K))
    exact kq_ret1 rfl rfl ⟨rfl, hb0⟩
  have t5 : decide ((1000 : Int) < (m : Int)) = false := by rw [decide_eq_false_iff_not]; omega
  have t5n : decide (1000 < m) = false := by rw [decide_eq_false_iff_not]; omega
  by_cases d6 : 1000 < k
  · have t6 : decide ((1000 : Int) < (k : Int)) = true := by rw [decide_eq_true_eq]; omega
    have t6n : decide (1000 < k) = true := by rw [decide_eq_true_eq]; omega
    repeat (first | refine kw_seq ?_ | refine kw_region ?_ | refine kl_nil ?_ | refine kq_then ?_ | refine kw_iff rfl ?_ | refine kw_skip ?_ | refine kw_block ?_ | refine kl_ung rfl rfl ?_ | refine kl_skipg rfl rfl rfl rfl ?_ | refine kw_ift rfl ?_ | (first | refine kl_move rfl rfl (.inl rfl) rfl rfl ?_ | refine kl_move rfl rfl (.inr rfl) rfl rfl ?_ | refine kl_const rfl rfl (.inl rfl) rfl ?_ | refine kl_const rfl rfl (.inr rfl) rfl ?_) | ((first | refine kl_step rfl rfl rfl fun K hK => ?_ | refine kl_step0 rfl rfl rfl fun K hK => ?_); go_simp; (try go_bits); (first | refine hK _ _ ?_ | refine hK _ ?_); clear hK K))
    repeat (first | refine kw_seq ?_ | refine kw_block ?_ | refine kw_skip ?_ | refine kw_region ?_ | refine kl_nil ?_ | refine kq_then ?_ | refine kq_block ?_ | refine kw_exit ?_ | refine kq_then_exit ?_ | refine kq_block_here rfl ?_ | refine kq_block_far rfl ?_ | refine kq_again_exit ?_ | refine kw_ret ?_ | refine kq_then_ret ?_ | refine kq_block_ret ?_ | refine kq_again_ret ?_ | refine kw_ift rfl ?_ | refine kw_iff rfl ?_ | refine kl_ung rfl rfl ?_ | refine kl_skipg rfl rfl rfl rfl ?_ | refine kl_skipg0 rfl rfl rfl ?_ | (first | refine kl_move rfl rfl (.inl rfl) rfl rfl ?_ | refine kl_move rfl rfl (.inr rfl) rfl rfl ?_ | refine kl_const rfl rfl (.inl rfl) rfl ?_ | refine kl_const rfl rfl (.inr rfl) rfl ?_) | ((first | refine kl_step rfl rfl rfl fun K hK => ?_ | refine kl_step0 rfl rfl rfl fun K hK => ?_); go_simp; (try go_bits); (first | refine hK _ _ ?_ | refine hK _ ?_); clear hK K))
    exact kq_ret1 rfl rfl ⟨rfl, hb0⟩
  have t6 : decide ((1000 : Int) < (k : Int)) = false := by rw [decide_eq_false_iff_not]; omega
  have t6n : decide (1000 < k) = false := by rw [decide_eq_false_iff_not]; omega
  have hak : a.length ≤ 1000 := by omega
  have hbk : b.length ≤ 1000 := by omega
  have hyk : y.length ≤ 1000 := by omega
  have hn9 : n ≤ 1000 := by omega
  have hm9 : m ≤ 1000 := by omega
  have hk9 : k ≤ 1000 := by omega
  have hz := within_lt z 2 (by omega)
  obtain ⟨sl, hsl⟩ : ∃ sl, within z 2 = sl := ⟨_, rfl⟩
  rw [hsl] at hz
  obtain ⟨os, hos⟩ : ∃ os, 1 - sl = os := ⟨_, rfl⟩
  have u1 : (1 : Int) - (sl : Int) = (os : Int) := by omega
  have u2 : (0 : Int) ≤ sl := by omega
  have u3 : (sl : Int) ≤ 1 := by omega
  have HSL := Lib.hid hsl
  have HSI : Hid (I64 (sl : Int)) := by show I64 _; unfold I64; omega
  have HOI : Hid (I64 (os : Int)) := by show I64 _; unfold I64; omega
  obtain ⟨f1, f2, f3, f4, f5, e1, e2, e3, e4, e5, e6, e7⟩ := store_law sl os hz (by omega) a b y hak hbk hyk
  have E1 := Lib.hid e1
  have E2 := Lib.hid e2
  have E3 := Lib.hid e3
  have E4 := Lib.hid e4
  have E5 := Lib.hid e5
  have E6 := Lib.hid e6
  have E7 := Lib.hid e7
  have HLN := Lib.hid (And.intro hn9 (And.intro hm9 hk9))
  have HNA := Lib.hid (And.intro hna (And.intro hnb hnk))
  clear d0 d1 d2 d3 d4 d5 d6 e1 e2 e3 e4 e5 e6 e7 hak hbk hyk hn9 hm9 hk9 hsl hz hos hna hnb hnk
  repeat (first | refine kw_seq ?_ | refine kw_region ?_ | refine kl_nil ?_ | refine kq_then ?_ | refine kw_iff rfl ?_ | refine kw_skip ?_ | refine kw_block ?_ | refine kl_ung rfl rfl ?_ | refine kl_skipg rfl rfl rfl rfl ?_ | (first | refine kl_move rfl rfl (.inl rfl) rfl rfl ?_ | refine kl_move rfl rfl (.inr rfl) rfl rfl ?_ | refine kl_const rfl rfl (.inl rfl) rfl ?_ | refine kl_const rfl rfl (.inr rfl) rfl ?_) | ((first | refine kl_step rfl rfl rfl fun K hK => ?_ | refine kl_step0 rfl rfl rfl fun K hK => ?_); go_simp; (try go_bits); (first | refine hK _ _ ?_ | refine hK _ ?_); clear hK K))
  refine kl_call rfl rfl rfl Try.func11 rfl (by kernel_rfl) rfl ?_
  refine Calls.mono (within6_any z 2 2 w0 rfl (by omega) (by omega)) ?_
  rintro e _ ⟨rfl, rfl⟩
  refine ⟨_, rfl, ?_⟩
  rw [HSL.out]
  repeat (first | refine kw_seq ?_ | refine kw_region ?_ | refine kl_nil ?_ | refine kq_then ?_ | refine kw_iff rfl ?_ | refine kw_skip ?_ | refine kw_block ?_ | refine kl_ung rfl rfl ?_ | refine kl_skipg rfl rfl rfl rfl ?_ | (first | refine kl_move rfl rfl (.inl rfl) rfl rfl ?_ | refine kl_move rfl rfl (.inr rfl) rfl rfl ?_ | refine kl_const rfl rfl (.inl rfl) rfl ?_ | refine kl_const rfl rfl (.inr rfl) rfl ?_) | ((first | refine kl_step rfl rfl rfl fun K hK => ?_ | refine kl_step0 rfl rfl rfl fun K hK => ?_); go_simp; (try go_bits); (first | refine hK _ _ ?_ | refine hK _ ?_); clear hK K))
  refine kl_call rfl rfl rfl Try.func12 rfl (by kernel_rfl) rfl ?_
  refine Calls.mono (new_any w0) ?_
  rintro e w1 ⟨rfl, hf1, hb1⟩
  refine ⟨_, rfl, ?_⟩
  obtain ⟨g, hg⟩ : ∃ g, w0.heap.size = g := ⟨_, rfl⟩
  have hL1 : Lay w w1 [] := ((Lay.start w).next hb0).next (by exact hb1)
  rw [hg] at hf1 ⊢
  have HG : Hid (w.heap.size ≤ g) := by show _ ≤ _; have := HS0.out; omega
  have HAA : Hid (0 < n → Away g A) := fun h x hx => by have := HIA.out h x hx; have := HG.out; omega
  have HAB : Hid (0 < m → Away g B) := fun h x hx => by have := HIB.out h x hx; have := HG.out; omega
  have HAC : Hid (0 < k → Away g C) := fun h x hx => by have := HIC.out h x hx; have := HG.out; omega
  have hf1 : FS NoB w1 g newF := hf1
  have HA1 := Lib.hid (hA0.keep (.of_below hb1))
  have HB1 := Lib.hid (hB0.keep (.of_below hb1))
  have HC1 := Lib.hid (hC0.keep (.of_below hb1))
  have hL1 := Lib.hid hL1
  clear hg hb1 hb0 hA0 hB0 hC0 t0 t1 t2 t3 t4 t5 t6 t0n t1n t2n t3n t4n t5n t6n
  repeat (first | refine kw_seq ?_ | refine kw_region ?_ | refine kl_nil ?_ | refine kq_then ?_ | refine kw_iff rfl ?_ | refine kw_skip ?_ | refine kw_block ?_ | refine kl_ung rfl rfl ?_ | refine kl_skipg rfl rfl rfl rfl ?_ | (first | refine kl_move rfl rfl (.inl rfl) rfl rfl ?_ | refine kl_move rfl rfl (.inr rfl) rfl rfl ?_ | refine kl_const rfl rfl (.inl rfl) rfl ?_ | refine kl_const rfl rfl (.inr rfl) rfl ?_) | ((first | refine kl_step rfl rfl rfl fun K hK => ?_ | refine kl_step0 rfl rfl rfl fun K hK => ?_); go_simp; (try go_bits); (first | refine hK _ _ ?_ | refine hK _ ?_); clear hK K))
  refine kl_call rfl rfl rfl Try.func17 rfl (by kernel_rfl) rfl ?_
  refine Calls.mono (store_any NoB g (noB g) newF sl A n c a w1 hf1 HSI.out HA1.out HAA.out hnc (by omega)) ?_
  rintro e w2 ⟨rfl, hf2, hg2⟩
  refine ⟨_, rfl, ?_⟩
  rw [E1.out] at hf2 ⊢
  dsimp only at hf2 ⊢
  have hL2 := Lib.hid (hL1.out.grown hg2 HG.out (by simp))
  have HA2 := Lib.hid (HA1.out.grownKeep0 hg2 HAA.out)
  have HB2 := Lib.hid (HB1.out.grownKeep0 hg2 HAB.out)
  have HC2 := Lib.hid (HC1.out.grownKeep0 hg2 HAC.out)
  clear hg2 hf1 hL1 HA1 HB1 HC1
  repeat (first | refine kw_seq ?_ | refine kw_region ?_ | refine kl_nil ?_ | refine kq_then ?_ | refine kw_iff rfl ?_ | refine kw_skip ?_ | refine kw_block ?_ | refine kl_ung rfl rfl ?_ | refine kl_skipg rfl rfl rfl rfl ?_ | (first | refine kl_move rfl rfl (.inl rfl) rfl rfl ?_ | refine kl_move rfl rfl (.inr rfl) rfl rfl ?_ | refine kl_const rfl rfl (.inl rfl) rfl ?_ | refine kl_const rfl rfl (.inr rfl) rfl ?_) | ((first | refine kl_step rfl rfl rfl fun K hK => ?_ | refine kl_step0 rfl rfl rfl fun K hK => ?_); go_simp; (try go_bits); (first | refine hK _ _ ?_ | refine hK _ ?_); clear hK K))
  refine kl_call rfl rfl rfl Try.func17 rfl (by kernel_rfl) rfl ?_
  refine Calls.mono (store_any NoB g (noB g) f1 os B m d b w2 hf2 HOI.out HB2.out HAB.out hmd (by omega)) ?_
  rintro e w3 ⟨rfl, hf3, hg3⟩
  refine ⟨_, rfl, ?_⟩
  rw [E2.out] at hf3 ⊢
  dsimp only at hf3 ⊢
  have hL3 := Lib.hid (hL2.out.grown hg3 HG.out (by simp))
  have HA3 := Lib.hid (HA2.out.grownKeep0 hg3 HAA.out)
  have HB3 := Lib.hid (HB2.out.grownKeep0 hg3 HAB.out)
  have HC3 := Lib.hid (HC2.out.grownKeep0 hg3 HAC.out)
  clear hg3 hf2 hL2 HA2 HB2 HC2
  repeat (first | refine kw_seq ?_ | refine kw_region ?_ | refine kl_nil ?_ | refine kq_then ?_ | refine kw_iff rfl ?_ | refine kw_skip ?_ | refine kw_block ?_ | refine kl_ung rfl rfl ?_ | refine kl_skipg rfl rfl rfl rfl ?_ | (first | refine kl_move rfl rfl (.inl rfl) rfl rfl ?_ | refine kl_move rfl rfl (.inr rfl) rfl rfl ?_ | refine kl_const rfl rfl (.inl rfl) rfl ?_ | refine kl_const rfl rfl (.inr rfl) rfl ?_) | ((first | refine kl_step rfl rfl rfl fun K hK => ?_ | refine kl_step0 rfl rfl rfl fun K hK => ?_); go_simp; (try go_bits); (first | refine hK _ _ ?_ | refine hK _ ?_); clear hK K))
  refine kl_call rfl rfl rfl Try.func17 rfl (by kernel_rfl) rfl ?_
  refine Calls.mono (store_any NoB g (noB g) f2 sl C k e y w3 hf3 HSI.out HC3.out HAC.out hke (by omega)) ?_
  rintro e w4 ⟨rfl, hf4, hg4⟩
  refine ⟨_, rfl, ?_⟩
  rw [E3.out] at hf4 ⊢
  dsimp only at hf4 ⊢
  have hL4 := Lib.hid (hL3.out.grown hg4 HG.out (by simp))
  have HA4 := Lib.hid (HA3.out.grownKeep0 hg4 HAA.out)
  have HB4 := Lib.hid (HB3.out.grownKeep0 hg4 HAB.out)
  have HC4 := Lib.hid (HC3.out.grownKeep0 hg4 HAC.out)
  clear hg4 hf3 hL3 HA3 HB3 HC3
  repeat (first | refine kw_seq ?_ | refine kw_region ?_ | refine kl_nil ?_ | refine kq_then ?_ | refine kw_iff rfl ?_ | refine kw_skip ?_ | refine kw_block ?_ | refine kl_ung rfl rfl ?_ | refine kl_skipg rfl rfl rfl rfl ?_ | (first | refine kl_move rfl rfl (.inl rfl) rfl rfl ?_ | refine kl_move rfl rfl (.inr rfl) rfl rfl ?_ | refine kl_const rfl rfl (.inl rfl) rfl ?_ | refine kl_const rfl rfl (.inr rfl) rfl ?_) | ((first | refine kl_step rfl rfl rfl fun K hK => ?_ | refine kl_step0 rfl rfl rfl fun K hK => ?_); go_simp; (try go_bits); (first | refine hK _ _ ?_ | refine hK _ ?_); clear hK K))
  refine kl_call rfl rfl rfl Try.func18 rfl (by kernel_rfl) rfl ?_
  refine Calls.mono (refSha_any B m d b w4 HB4.out (by have := HLN.out; omega)) ?_
  rintro e w5 ⟨rfl, hb5⟩
  refine ⟨_, rfl, ?_⟩
  have hf5 := hf4.below hb5
  have hL5 := Lib.hid (hL4.out.next hb5)
  have HA5 := Lib.hid (HA4.out.keep (.of_below hb5))
  have HB5 := Lib.hid (HB4.out.keep (.of_below hb5))
  have HC5 := Lib.hid (HC4.out.keep (.of_below hb5))
  clear hf4 hL4 HA4 HB4 HC4 hb5
  repeat (first | refine kw_seq ?_ | refine kw_region ?_ | refine kl_nil ?_ | refine kq_then ?_ | refine kw_iff rfl ?_ | refine kw_skip ?_ | refine kw_block ?_ | refine kl_ung rfl rfl ?_ | refine kl_skipg rfl rfl rfl rfl ?_ | (first | refine kl_move rfl rfl (.inl rfl) rfl rfl ?_ | refine kl_move rfl rfl (.inr rfl) rfl rfl ?_ | refine kl_const rfl rfl (.inl rfl) rfl ?_ | refine kl_const rfl rfl (.inr rfl) rfl ?_) | ((first | refine kl_step rfl rfl rfl fun K hK => ?_ | refine kl_step0 rfl rfl rfl fun K hK => ?_); go_simp; (try go_bits); (first | refine hK _ _ ?_ | refine hK _ ?_); clear hK K))
  refine kl_call rfl rfl rfl Try.func13 rfl (by kernel_rfl) rfl ?_
  refine Calls.mono (mark_any NoB g (noB g) f3 os (sha b) w5 hf5 (length_sha b) HOI.out) ?_
  rintro e w6 ⟨rfl, hf6, hg6⟩
  refine ⟨_, rfl, ?_⟩
  rw [E4.out] at hf6 ⊢
  dsimp only at hf6 ⊢
  have hL6 := Lib.hid (hL5.out.grown hg6 HG.out (by simp))
  have HA6 := Lib.hid (HA5.out.grownKeep0 hg6 HAA.out)
  have HB6 := Lib.hid (HB5.out.grownKeep0 hg6 HAB.out)
  have HC6 := Lib.hid (HC5.out.grownKeep0 hg6 HAC.out)
  clear hg6 hf5 hL5 HA5 HB5 HC5
  have hL6o := hL6.out
  repeat (first | refine kw_seq ?_ | refine kw_region ?_ | refine kl_nil ?_ | refine kq_then ?_ | refine kw_iff rfl ?_ | refine kw_skip ?_ | refine kw_block ?_ | refine kl_ung rfl rfl ?_ | refine kl_skipg rfl rfl rfl rfl ?_ | (first | refine kl_move rfl rfl (.inl rfl) rfl rfl ?_ | refine kl_move rfl rfl (.inr rfl) rfl rfl ?_ | refine kl_const rfl rfl (.inl rfl) rfl ?_ | refine kl_const rfl rfl (.inr rfl) rfl ?_) | ((first | refine kl_step rfl rfl rfl fun K hK => ?_ | refine kl_step0 rfl rfl rfl fun K hK => ?_); go_simp; (try go_bits); (first | refine hK _ _ ?_ | refine hK _ ?_); clear hK K))
  refine kl_call rfl rfl rfl Try.func14 rfl (by kernel_rfl) rfl ?_
  refine Calls.mono (boot_any NoB g f4 w6 hf6) ?_
  rintro e wb7 ⟨A7, n7, c7, rfl, hB7, hT7, hn7, hc7, hb7⟩
  refine ⟨_, rfl, ?_⟩
  rw [E5.out] at hB7 ⊢
  dsimp only at hB7 ⊢
  have hf7 := hf6.below hb7
  have hL7 := hL6o.next hb7
  have hNB7 := hB7.len
  have HAW7 := Lib.hid (boot_away hf7 hB7 hT7)
  clear hT7
  have HB7bm := HB6.out.keep (.of_below hb7)
  have HC7m := HC6.out.keep (.of_below hb7)
  have HA7m := HA6.out.keep (.of_below hb7)
  clear hb7
  repeat (first | (first | refine kl_move rfl rfl (.inl rfl) rfl rfl ?_ | refine kl_move rfl rfl (.inr rfl) rfl rfl ?_ | refine kl_const rfl rfl (.inl rfl) rfl ?_ | refine kl_const rfl rfl (.inr rfl) rfl ?_) | ((first | refine kl_step rfl rfl rfl fun K hK => ?_ | refine kl_step0 rfl rfl rfl fun K hK => ?_); go_simp; (try go_bits); (first | refine hK _ _ ?_ | refine hK _ ?_); clear hK K))
  refine kl_varL (z := (entC entZ).toArray) (cells := (entC ⟨1, os, sha b⟩).toArray) hL7 entZero (entInfo ⟨1, os, sha b⟩ (length_sha b)) (by rw [List.size_toArray, List.size_toArray, entC_len entZ z32_len, entC_len ⟨1, os, sha b⟩ (length_sha b)]) (ent_one ⟨1, os, sha b⟩) rfl rfl rfl rfl rfl rfl rfl rfl rfl ?_
  intro ge7 wv7 hge7 hbv7 hL7'
  have hf7' := hf7.below hbv7
  have hB7' := hB7.keep (.of_below hbv7)
  have HB7b := Lib.hid (HB7bm.keep (.of_below hbv7))
  clear HB7bm HB6
  have HC7 := Lib.hid (HC7m.keep (.of_below hbv7))
  clear HC7m HC6
  have HA7 := Lib.hid (HA7m.keep (.of_below hbv7))
  clear HA7m HA6
  have HNE7 : Hid (ge7 ≠ g) := by show _ ≠ _; have := hf7.lt; omega
  clear hge7 hbv7 hf7 hL7 hB7
  obtain rfl : n7 = m := by have := HNA.out; omega
  have HB7 := Lib.hid hB7'
  have hL7 := Lib.hid hL7'
  have hf7 := hf7'
  clear hf6 hL6 hL6o hf7' hL7' hNB7 hn7 hc7 hB7' HA7
  repeat (first | refine kw_seq ?_ | refine kw_region ?_ | refine kl_nil ?_ | refine kq_then ?_ | refine kw_iff rfl ?_ | refine kw_skip ?_ | refine kw_block ?_ | refine kl_ung rfl rfl ?_ | refine kl_skipg rfl rfl rfl rfl ?_ | (first | refine kl_move rfl rfl (.inl rfl) rfl rfl ?_ | refine kl_move rfl rfl (.inr rfl) rfl rfl ?_ | refine kl_const rfl rfl (.inl rfl) rfl ?_ | refine kl_const rfl rfl (.inr rfl) rfl ?_) | ((first | refine kl_step rfl rfl rfl fun K hK => ?_ | refine kl_step0 rfl rfl rfl fun K hK => ?_); go_simp; (try go_bits); (first | refine hK _ _ ?_ | refine hK _ ?_); clear hK K))
  refine kl_call rfl rfl rfl Try.func18 rfl (by kernel_rfl) rfl ?_
  refine Calls.mono (refSha_any C k e y wv7 HC7.out (by have := HLN.out; omega)) ?_
  rintro e w8 ⟨rfl, hb8⟩
  refine ⟨_, rfl, ?_⟩
  have hf8 := hf7.below hb8
  have hL8 := Lib.hid (hL7.out.next hb8)
  have HB8 := Lib.hid (HB7.out.keep (.of_below hb8))
  have HB8b := Lib.hid (HB7b.out.keep (.of_below hb8))
  have HC8 := Lib.hid (HC7.out.keep (.of_below hb8))
  clear hf7 hL7 HB7 HC7 HB7b hb8
  repeat (first | refine kw_seq ?_ | refine kw_region ?_ | refine kl_nil ?_ | refine kq_then ?_ | refine kw_iff rfl ?_ | refine kw_skip ?_ | refine kw_block ?_ | refine kl_ung rfl rfl ?_ | refine kl_skipg rfl rfl rfl rfl ?_ | (first | refine kl_move rfl rfl (.inl rfl) rfl rfl ?_ | refine kl_move rfl rfl (.inr rfl) rfl rfl ?_ | refine kl_const rfl rfl (.inl rfl) rfl ?_ | refine kl_const rfl rfl (.inr rfl) rfl ?_) | ((first | refine kl_step rfl rfl rfl fun K hK => ?_ | refine kl_step0 rfl rfl rfl fun K hK => ?_); go_simp; (try go_bits); (first | refine hK _ _ ?_ | refine hK _ ?_); clear hK K))
  refine kl_call rfl rfl rfl Try.func13 rfl (by kernel_rfl) rfl ?_
  refine Calls.mono (mark_any NoB g (noB g) f4 sl (sha y) w8 hf8 (length_sha y) HSI.out) ?_
  rintro e w9 ⟨rfl, hf9, hg9⟩
  refine ⟨_, rfl, ?_⟩
  rw [E6.out] at hf9 ⊢
  dsimp only at hf9 ⊢
  have hL9 := Lib.hid (hL8.out.grown hg9 HG.out (fun p hp => by simp at hp; subst hp; exact HNE7.out))
  have HB9 := Lib.hid (HB8.out.grownKeep0 hg9 HAW7.out)
  have HB9b := Lib.hid (HB8b.out.grownKeep0 hg9 HAB.out)
  have HC9 := Lib.hid (HC8.out.grownKeep0 hg9 HAC.out)
  clear hg9 hf8 hL8 HB8 HC8 HB8b
  have hL9o := hL9.out
  repeat (first | refine kw_seq ?_ | refine kw_region ?_ | refine kl_nil ?_ | refine kq_then ?_ | refine kw_iff rfl ?_ | refine kw_skip ?_ | refine kw_block ?_ | refine kl_ung rfl rfl ?_ | refine kl_skipg rfl rfl rfl rfl ?_ | (first | refine kl_move rfl rfl (.inl rfl) rfl rfl ?_ | refine kl_move rfl rfl (.inr rfl) rfl rfl ?_ | refine kl_const rfl rfl (.inl rfl) rfl ?_ | refine kl_const rfl rfl (.inr rfl) rfl ?_) | ((first | refine kl_step rfl rfl rfl fun K hK => ?_ | refine kl_step0 rfl rfl rfl fun K hK => ?_); go_simp; (try go_bits); (first | refine hK _ _ ?_ | refine hK _ ?_); clear hK K))
  refine kl_call rfl rfl rfl Try.func14 rfl (by kernel_rfl) rfl ?_
  refine Calls.mono (boot_any NoB g f5 w9 hf9) ?_
  rintro e wb10 ⟨A10, n10, c10, rfl, hB10, hT10, hn10, hc10, hb10⟩
  refine ⟨_, rfl, ?_⟩
  rw [E7.out] at hB10 ⊢
  dsimp only at hB10 ⊢
  have hf10 := hf9.below hb10
  have hL10 := hL9o.next hb10
  have hNB10 := hB10.len
  have HAW10 := Lib.hid (boot_away hf10 hB10 hT10)
  clear hT10
  have HB10m := HB9.out.keep (.of_below hb10)
  have HB10bm := HB9b.out.keep (.of_below hb10)
  have HC10m := HC9.out.keep (.of_below hb10)
  clear hb10
  repeat (first | (first | refine kl_move rfl rfl (.inl rfl) rfl rfl ?_ | refine kl_move rfl rfl (.inr rfl) rfl rfl ?_ | refine kl_const rfl rfl (.inl rfl) rfl ?_ | refine kl_const rfl rfl (.inr rfl) rfl ?_) | ((first | refine kl_step rfl rfl rfl fun K hK => ?_ | refine kl_step0 rfl rfl rfl fun K hK => ?_); go_simp; (try go_bits); (first | refine hK _ _ ?_ | refine hK _ ?_); clear hK K))
  refine kl_varL (z := (entC entZ).toArray) (cells := (entC ⟨2, sl, sha y⟩).toArray) hL10 entZero (entInfo ⟨2, sl, sha y⟩ (length_sha y)) (by rw [List.size_toArray, List.size_toArray, entC_len entZ z32_len, entC_len ⟨2, sl, sha y⟩ (length_sha y)]) (ent_one ⟨2, sl, sha y⟩) rfl rfl rfl rfl rfl rfl rfl rfl rfl ?_
  intro ge10 wv10 hge10 hbv10 hL10'
  have hf10' := hf10.below hbv10
  have hB10' := hB10.keep (.of_below hbv10)
  have HB10 := Lib.hid (HB10m.keep (.of_below hbv10))
  clear HB10m HB9
  have HB10b := Lib.hid (HB10bm.keep (.of_below hbv10))
  clear HB10bm HB9b
  have HC10 := Lib.hid (HC10m.keep (.of_below hbv10))
  clear HC10m HC9
  have HNE10 : Hid (ge10 ≠ g) := by show _ ≠ _; have := hf10.lt; omega
  clear hge10 hbv10 hf10 hL10 hB10
  have k1 := convB (c := c7) HB10.out
  have k2 := convB (c := d) HB10b.out
  have k3 := convB (c := c10) hB10'
  have k4 := convB (c := e) HC10.out
  have HL10 := Lib.hid hL10'
  clear hf9 hL9 hL9o hL10' hf10' hB10' HB10 HB10b HC10
  repeat (first | refine kw_seq ?_ | refine kw_region ?_ | refine kl_nil ?_ | refine kq_then ?_ | refine kw_iff rfl ?_ | refine kw_skip ?_ | refine kw_block ?_ | refine kl_ung rfl rfl ?_ | refine kl_skipg rfl rfl rfl rfl ?_ | (first | refine kl_move rfl rfl (.inl rfl) rfl rfl ?_ | refine kl_move rfl rfl (.inr rfl) rfl rfl ?_ | refine kl_const rfl rfl (.inl rfl) rfl ?_ | refine kl_const rfl rfl (.inr rfl) rfl ?_) | ((first | refine kl_step rfl rfl rfl fun K hK => ?_ | refine kl_step0 rfl rfl rfl fun K hK => ?_); go_simp; (try go_bits); (first | refine hK _ _ ?_ | refine hK _ ?_); clear hK K))
  repeat (first | refine kw_seq ?_ | refine kw_block ?_ | refine kw_skip ?_ | refine kw_region ?_ | refine kl_nil ?_ | refine kq_then ?_ | refine kq_block ?_ | refine kw_exit ?_ | refine kq_then_exit ?_ | refine kq_block_here rfl ?_ | refine kq_block_far rfl ?_ | refine kq_again_exit ?_ | refine kw_ret ?_ | refine kq_then_ret ?_ | refine kq_block_ret ?_ | refine kq_again_ret ?_ | refine kw_ift rfl ?_ | refine kw_iff rfl ?_ | refine kl_ung rfl rfl ?_ | refine kl_skipg rfl rfl rfl rfl ?_ | refine kl_skipg0 rfl rfl rfl ?_ | (first | refine kl_move rfl rfl (.inl rfl) rfl rfl ?_ | refine kl_move rfl rfl (.inr rfl) rfl rfl ?_ | refine kl_const rfl rfl (.inl rfl) rfl ?_ | refine kl_const rfl rfl (.inr rfl) rfl ?_) | ((first | refine kl_step rfl rfl rfl fun K hK => ?_ | refine kl_step0 rfl rfl rfl fun K hK => ?_); go_simp; (try go_bits); (first | refine hK _ _ ?_ | refine hK _ ?_); clear hK K))
  exact kq_ret1 rfl rfl ⟨by simp, HL10.out.below⟩
end Go.Proofs.Ytkncomkncfcecaa
