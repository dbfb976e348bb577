/- Kinds' values: Wrap of both; which values may be. -/
import Derived.Test.YtcpifcdndhhmgaaRetMem
import Derived.Test.YtcpifcdndhhmgaaKnF
set_option linter.unusedVariables false
set_option linter.unusedSimpArgs false
namespace Go.Proofs.Ytcpifcdndhhmgaa
open Go.RowKit
attribute [local go_sem] ev_tmp ev_const ev_func ev_global lk_hit lk_miss uponK_value uponK_skip look_tmp look_const look_global look_func valP_value
theorem w_u16 (n : Int) : wrap64 (IntKind.u16.wrap n) = IntKind.u16.wrap n := by
  have h : IntKind.u16.wrap n = n % 65536 := rfl
  rw [h]; unfold wrap64; omega
theorem i16_bds (n : Int) : -32768 ≤ IntKind.i16.wrap n ∧ IntKind.i16.wrap n ≤ 32767 := by
  have h : IntKind.i16.wrap n = if 32768 ≤ n % 65536 then n % 65536 - 65536 else n % 65536 := by
    unfold IntKind.wrap; simp [IntKind.signed, IntKind.bits]
  rw [h]; split <;> omega
theorem w_i16 (n : Int) : wrap64 (IntKind.i16.wrap n) = IntKind.i16.wrap n := by
  have h := i16_bds n
  unfold wrap64; omega
theorem w_i32 (n : Int) : Ending.returned (.int .i64 (wrap64 (wrap32 n))) = Ending.returned (.int .i64 (IntKind.i32.wrap n)) := by
  rw [IntWalk.i32_left, show wrap64 (wrap32 n) = wrap32 n by unfold wrap64 wrap32; omega]
set_option maxRecDepth 100000 in
set_option maxHeartbeats 1000000 in
theorem wrap_any (k n : Int) (w : World) : Calls Try.prog 108 #[.int .i64 k, .int .i64 n] w fun e w' => e = .returned (.int .i64 (wrapK k n)) ∧ w = w' := by
  refine calls_kw Try.func108 rfl Try.ntmps108 rfl [(0, .int .i64 k), (1, .int .i64 n)] rfl ?_
  by_cases d1 : k = 1
  case pos =>
    have t1 : (k == 1) = true := by rw [d1]; rfl
    have HW : Hid (wrapK k n = if n = 0 then 0 else 1) := by show _ = _; unfold wrapK; rw [ if_pos d1]
    clear d1
    by_cases h0 : n = 0
    case pos =>
      have t0 : (n != 0) = false := by rw [h0]; rfl
      have HW2 : Hid (wrapK k n = 0) := by show _ = _; rw [HW.out, if_pos h0]
      clear h0
      repeat (first | refine kw_seq ?_ | refine kw_block ?_ | refine kw_skip ?_ | refine kw_region ?_ | refine kl_nil ?_ | refine kq_then ?_ | refine kq_block ?_ | refine kw_exit ?_ | refine kq_then_exit ?_ | refine kq_block_here rfl ?_ | refine kq_block_far rfl ?_ | refine kq_again_exit ?_ | refine kw_ret ?_ | refine kq_then_ret ?_ | refine kq_block_ret ?_ | refine kq_again_ret ?_ | refine kw_ift rfl ?_ | refine kw_iff rfl ?_ | refine kl_ung rfl rfl ?_ | refine kl_skipg rfl rfl rfl rfl ?_ | refine kl_skipg0 rfl rfl rfl ?_ | (first | refine kl_move rfl rfl (.inl rfl) rfl rfl ?_ | refine kl_move rfl rfl (.inr rfl) rfl rfl ?_ | refine kl_const rfl rfl (.inl rfl) rfl ?_ | refine kl_const rfl rfl (.inr rfl) rfl ?_) | ((first | refine kl_step rfl rfl rfl fun K hK => ?_ | refine kl_step0 rfl rfl rfl fun K hK => ?_); go_simp; (try go_bits); (first | refine hK _ _ ?_ | refine hK _ ?_); clear hK K))
      exact kq_ret1 rfl rfl ⟨by rw [HW2.out], rfl⟩
    have t0 : (n != 0) = true := bne_iff_ne.2 h0
    have HW2 : Hid (wrapK k n = 1) := by show _ = _; rw [HW.out, if_neg h0]
    clear h0
    repeat (first | refine kw_seq ?_ | refine kw_block ?_ | refine kw_skip ?_ | refine kw_region ?_ | refine kl_nil ?_ | refine kq_then ?_ | refine kq_block ?_ | refine kw_exit ?_ | refine kq_then_exit ?_ | refine kq_block_here rfl ?_ | refine kq_block_far rfl ?_ | refine kq_again_exit ?_ | refine kw_ret ?_ | refine kq_then_ret ?_ | refine kq_block_ret ?_ | refine kq_again_ret ?_ | refine kw_ift rfl ?_ | refine kw_iff rfl ?_ | refine kl_ung rfl rfl ?_ | refine kl_skipg rfl rfl rfl rfl ?_ | refine kl_skipg0 rfl rfl rfl ?_ | (first | refine kl_move rfl rfl (.inl rfl) rfl rfl ?_ | refine kl_move rfl rfl (.inr rfl) rfl rfl ?_ | refine kl_const rfl rfl (.inl rfl) rfl ?_ | refine kl_const rfl rfl (.inr rfl) rfl ?_) | ((first | refine kl_step rfl rfl rfl fun K hK => ?_ | refine kl_step0 rfl rfl rfl fun K hK => ?_); go_simp; (try go_bits); (first | refine hK _ _ ?_ | refine hK _ ?_); clear hK K))
    exact kq_ret1 rfl rfl ⟨by rw [HW2.out], rfl⟩
  by_cases d2 : k = 2
  case pos =>
    have t1 : (k == 1) = false := by rw [beq_eq_false_iff_ne]; exact d1
    have t2 : (k == 2) = true := by rw [d2]; rfl
    have HW : Hid (wrapK k n = IntKind.u8.wrap n) := by show _ = _; unfold wrapK; rw [if_neg d1, if_pos d2]
    clear d1 d2
    repeat (first | refine kw_seq ?_ | refine kw_block ?_ | refine kw_skip ?_ | refine kw_region ?_ | refine kl_nil ?_ | refine kq_then ?_ | refine kq_block ?_ | refine kw_exit ?_ | refine kq_then_exit ?_ | refine kq_block_here rfl ?_ | refine kq_block_far rfl ?_ | refine kq_again_exit ?_ | refine kw_ret ?_ | refine kq_then_ret ?_ | refine kq_block_ret ?_ | refine kq_again_ret ?_ | refine kw_ift rfl ?_ | refine kw_iff rfl ?_ | refine kl_ung rfl rfl ?_ | refine kl_skipg rfl rfl rfl rfl ?_ | refine kl_skipg0 rfl rfl rfl ?_ | (first | refine kl_move rfl rfl (.inl rfl) rfl rfl ?_ | refine kl_move rfl rfl (.inr rfl) rfl rfl ?_ | refine kl_const rfl rfl (.inl rfl) rfl ?_ | refine kl_const rfl rfl (.inr rfl) rfl ?_) | ((first | refine kl_step rfl rfl rfl fun K hK => ?_ | refine kl_step0 rfl rfl rfl fun K hK => ?_); go_simp; (try go_bits); (first | refine hK _ _ ?_ | refine hK _ ?_); clear hK K))
    exact kq_ret1 rfl rfl ⟨by first | (rw [HW.out]; done) | (rw [HW.out]; rfl) | (rw [HW.out, w_u16]) | (rw [HW.out, w_i16]) | (rw [HW.out]; exact w_i32 n), rfl⟩
  by_cases d3 : k = 3
  case pos =>
    have t1 : (k == 1) = false := by rw [beq_eq_false_iff_ne]; exact d1
    have t2 : (k == 2) = false := by rw [beq_eq_false_iff_ne]; exact d2
    have t3 : (k == 3) = true := by rw [d3]; rfl
    have HW : Hid (wrapK k n = IntKind.u16.wrap n) := by show _ = _; unfold wrapK; rw [if_neg d1, if_neg d2, if_pos d3]
    clear d1 d2 d3
    repeat (first | refine kw_seq ?_ | refine kw_block ?_ | refine kw_skip ?_ | refine kw_region ?_ | refine kl_nil ?_ | refine kq_then ?_ | refine kq_block ?_ | refine kw_exit ?_ | refine kq_then_exit ?_ | refine kq_block_here rfl ?_ | refine kq_block_far rfl ?_ | refine kq_again_exit ?_ | refine kw_ret ?_ | refine kq_then_ret ?_ | refine kq_block_ret ?_ | refine kq_again_ret ?_ | refine kw_ift rfl ?_ | refine kw_iff rfl ?_ | refine kl_ung rfl rfl ?_ | refine kl_skipg rfl rfl rfl rfl ?_ | refine kl_skipg0 rfl rfl rfl ?_ | (first | refine kl_move rfl rfl (.inl rfl) rfl rfl ?_ | refine kl_move rfl rfl (.inr rfl) rfl rfl ?_ | refine kl_const rfl rfl (.inl rfl) rfl ?_ | refine kl_const rfl rfl (.inr rfl) rfl ?_) | ((first | refine kl_step rfl rfl rfl fun K hK => ?_ | refine kl_step0 rfl rfl rfl fun K hK => ?_); go_simp; (try go_bits); (first | refine hK _ _ ?_ | refine hK _ ?_); clear hK K))
    exact kq_ret1 rfl rfl ⟨by first | (rw [HW.out]; done) | (rw [HW.out]; rfl) | (rw [HW.out, w_u16]) | (rw [HW.out, w_i16]) | (rw [HW.out]; exact w_i32 n), rfl⟩
  by_cases d4 : k = 4
  case pos =>
    have t1 : (k == 1) = false := by rw [beq_eq_false_iff_ne]; exact d1
    have t2 : (k == 2) = false := by rw [beq_eq_false_iff_ne]; exact d2
    have t3 : (k == 3) = false := by rw [beq_eq_false_iff_ne]; exact d3
    have t4 : (k == 4) = true := by rw [d4]; rfl
    have HW : Hid (wrapK k n = IntKind.i16.wrap n) := by show _ = _; unfold wrapK; rw [if_neg d1, if_neg d2, if_neg d3, if_pos d4]
    clear d1 d2 d3 d4
    repeat (first | refine kw_seq ?_ | refine kw_block ?_ | refine kw_skip ?_ | refine kw_region ?_ | refine kl_nil ?_ | refine kq_then ?_ | refine kq_block ?_ | refine kw_exit ?_ | refine kq_then_exit ?_ | refine kq_block_here rfl ?_ | refine kq_block_far rfl ?_ | refine kq_again_exit ?_ | refine kw_ret ?_ | refine kq_then_ret ?_ | refine kq_block_ret ?_ | refine kq_again_ret ?_ | refine kw_ift rfl ?_ | refine kw_iff rfl ?_ | refine kl_ung rfl rfl ?_ | refine kl_skipg rfl rfl rfl rfl ?_ | refine kl_skipg0 rfl rfl rfl ?_ | (first | refine kl_move rfl rfl (.inl rfl) rfl rfl ?_ | refine kl_move rfl rfl (.inr rfl) rfl rfl ?_ | refine kl_const rfl rfl (.inl rfl) rfl ?_ | refine kl_const rfl rfl (.inr rfl) rfl ?_) | ((first | refine kl_step rfl rfl rfl fun K hK => ?_ | refine kl_step0 rfl rfl rfl fun K hK => ?_); go_simp; (try go_bits); (first | refine hK _ _ ?_ | refine hK _ ?_); clear hK K))
    exact kq_ret1 rfl rfl ⟨by first | (rw [HW.out]; done) | (rw [HW.out]; rfl) | (rw [HW.out, w_u16]) | (rw [HW.out, w_i16]) | (rw [HW.out]; exact w_i32 n), rfl⟩
  by_cases d5 : k = 5
  case pos =>
    have t1 : (k == 1) = false := by rw [beq_eq_false_iff_ne]; exact d1
    have t2 : (k == 2) = false := by rw [beq_eq_false_iff_ne]; exact d2
    have t3 : (k == 3) = false := by rw [beq_eq_false_iff_ne]; exact d3
    have t4 : (k == 4) = false := by rw [beq_eq_false_iff_ne]; exact d4
    have t5 : (k == 5) = true := by rw [d5]; rfl
    have HW : Hid (wrapK k n = IntKind.i32.wrap n) := by show _ = _; unfold wrapK; rw [if_neg d1, if_neg d2, if_neg d3, if_neg d4, if_pos d5]
    clear d1 d2 d3 d4 d5
    repeat (first | refine kw_seq ?_ | refine kw_block ?_ | refine kw_skip ?_ | refine kw_region ?_ | refine kl_nil ?_ | refine kq_then ?_ | refine kq_block ?_ | refine kw_exit ?_ | refine kq_then_exit ?_ | refine kq_block_here rfl ?_ | refine kq_block_far rfl ?_ | refine kq_again_exit ?_ | refine kw_ret ?_ | refine kq_then_ret ?_ | refine kq_block_ret ?_ | refine kq_again_ret ?_ | refine kw_ift rfl ?_ | refine kw_iff rfl ?_ | refine kl_ung rfl rfl ?_ | refine kl_skipg rfl rfl rfl rfl ?_ | refine kl_skipg0 rfl rfl rfl ?_ | (first | refine kl_move rfl rfl (.inl rfl) rfl rfl ?_ | refine kl_move rfl rfl (.inr rfl) rfl rfl ?_ | refine kl_const rfl rfl (.inl rfl) rfl ?_ | refine kl_const rfl rfl (.inr rfl) rfl ?_) | ((first | refine kl_step rfl rfl rfl fun K hK => ?_ | refine kl_step0 rfl rfl rfl fun K hK => ?_); go_simp; (try go_bits); (first | refine hK _ _ ?_ | refine hK _ ?_); clear hK K))
    exact kq_ret1 rfl rfl ⟨by first | (rw [HW.out]; done) | (rw [HW.out]; rfl) | (rw [HW.out, w_u16]) | (rw [HW.out, w_i16]) | (rw [HW.out]; exact w_i32 n), rfl⟩
  by_cases d6 : k = 6
  case pos =>
    have t1 : (k == 1) = false := by rw [beq_eq_false_iff_ne]; exact d1
    have t2 : (k == 2) = false := by rw [beq_eq_false_iff_ne]; exact d2
    have t3 : (k == 3) = false := by rw [beq_eq_false_iff_ne]; exact d3
    have t4 : (k == 4) = false := by rw [beq_eq_false_iff_ne]; exact d4
    have t5 : (k == 5) = false := by rw [beq_eq_false_iff_ne]; exact d5
    have t6 : (k == 6) = true := by rw [d6]; rfl
    have HW : Hid (wrapK k n = n) := by show _ = _; unfold wrapK; rw [if_neg d1, if_neg d2, if_neg d3, if_neg d4, if_neg d5, if_pos d6]
    clear d1 d2 d3 d4 d5 d6
    repeat (first | refine kw_seq ?_ | refine kw_block ?_ | refine kw_skip ?_ | refine kw_region ?_ | refine kl_nil ?_ | refine kq_then ?_ | refine kq_block ?_ | refine kw_exit ?_ | refine kq_then_exit ?_ | refine kq_block_here rfl ?_ | refine kq_block_far rfl ?_ | refine kq_again_exit ?_ | refine kw_ret ?_ | refine kq_then_ret ?_ | refine kq_block_ret ?_ | refine kq_again_ret ?_ | refine kw_ift rfl ?_ | refine kw_iff rfl ?_ | refine kl_ung rfl rfl ?_ | refine kl_skipg rfl rfl rfl rfl ?_ | refine kl_skipg0 rfl rfl rfl ?_ | (first | refine kl_move rfl rfl (.inl rfl) rfl rfl ?_ | refine kl_move rfl rfl (.inr rfl) rfl rfl ?_ | refine kl_const rfl rfl (.inl rfl) rfl ?_ | refine kl_const rfl rfl (.inr rfl) rfl ?_) | ((first | refine kl_step rfl rfl rfl fun K hK => ?_ | refine kl_step0 rfl rfl rfl fun K hK => ?_); go_simp; (try go_bits); (first | refine hK _ _ ?_ | refine hK _ ?_); clear hK K))
    exact kq_ret1 rfl rfl ⟨by first | (rw [HW.out]; done) | (rw [HW.out]; rfl) | (rw [HW.out, w_u16]) | (rw [HW.out, w_i16]) | (rw [HW.out]; exact w_i32 n), rfl⟩
  have t1 : (k == 1) = false := by rw [beq_eq_false_iff_ne]; exact d1
  have t2 : (k == 2) = false := by rw [beq_eq_false_iff_ne]; exact d2
  have t3 : (k == 3) = false := by rw [beq_eq_false_iff_ne]; exact d3
  have t4 : (k == 4) = false := by rw [beq_eq_false_iff_ne]; exact d4
  have t5 : (k == 5) = false := by rw [beq_eq_false_iff_ne]; exact d5
  have t6 : (k == 6) = false := by rw [beq_eq_false_iff_ne]; exact d6
  have HW : Hid (wrapK k n = 0) := by show _ = _; unfold wrapK; rw [if_neg d1, if_neg d2, if_neg d3, if_neg d4, if_neg d5, if_neg d6]
  clear d1 d2 d3 d4 d5 d6
  repeat (first | refine kw_seq ?_ | refine kw_block ?_ | refine kw_skip ?_ | refine kw_region ?_ | refine kl_nil ?_ | refine kq_then ?_ | refine kq_block ?_ | refine kw_exit ?_ | refine kq_then_exit ?_ | refine kq_block_here rfl ?_ | refine kq_block_far rfl ?_ | refine kq_again_exit ?_ | refine kw_ret ?_ | refine kq_then_ret ?_ | refine kq_block_ret ?_ | refine kq_again_ret ?_ | refine kw_ift rfl ?_ | refine kw_iff rfl ?_ | refine kl_ung rfl rfl ?_ | refine kl_skipg rfl rfl rfl rfl ?_ | refine kl_skipg0 rfl rfl rfl ?_ | (first | refine kl_move rfl rfl (.inl rfl) rfl rfl ?_ | refine kl_move rfl rfl (.inr rfl) rfl rfl ?_ | refine kl_const rfl rfl (.inl rfl) rfl ?_ | refine kl_const rfl rfl (.inr rfl) rfl ?_) | ((first | refine kl_step rfl rfl rfl fun K hK => ?_ | refine kl_step0 rfl rfl rfl fun K hK => ?_); go_simp; (try go_bits); (first | refine hK _ _ ?_ | refine hK _ ?_); clear hK K))
  exact kq_ret1 rfl rfl ⟨by rw [HW.out], rfl⟩
theorem mayK_lo {k : KepS} (h : ¬ 1 ≤ k.kind) : mayK k = false := by simp [mayK, h]
theorem mayK_hi {k : KepS} (h : ¬ k.kind ≤ 6) : mayK k = false := by simp [mayK, h]
theorem mayK_eq {k : KepS} (h1 : 1 ≤ k.kind) (h2 : k.kind ≤ 6) : mayK k = (wrapK k.kind k.value == k.value) := by
  rw [Bool.eq_iff_iff]; simp [mayK, h1, h2]
set_option maxRecDepth 100000 in
set_option maxHeartbeats 1000000 in
theorem may_any (k : KepS) (w : World) : Calls Try.prog 88 #[.agg (kepC k).toArray] w fun e w' => e = .returned (.bool (mayK k)) ∧ Below w.heap.size w w' := by
  refine calls_kw Try.func88 rfl Try.ntmps88 rfl [(0, .agg (kepC k).toArray)] rfl ?_
  refine kw_seq ?_
  refine kw_region ?_
  refine kl_boxL (Lay.start w) rfl rfl rfl rfl rfl ?_
  intro g1 w1 hg1 hb1 hL1
  clear hg1
  repeat (first | refine kl_nil ?_ | (first | refine kl_move rfl rfl (.inl rfl) rfl rfl ?_ | refine kl_move rfl rfl (.inr rfl) rfl rfl ?_ | refine kl_const rfl rfl (.inl rfl) rfl ?_ | refine kl_const rfl rfl (.inr rfl) rfl ?_))
  refine kq_then ?_
  refine kw_seq ?_
  have hR := (Hold.cons (hL1.at_ 0 rfl) (Hold.nil _)).below (Below.refl _ _).drew
  have HB := Lib.hid (below_then hb1 ((Below.refl _ _).drew) hb1.size)
  have c1 : ∀ W, Hold [(g1, .cells (kepC k).toArray 29 (0, 0))] W → W.cell? ⟨g1, 1, none⟩ = some (.int .i64 k.kind) := Hold.cell (cs := kepC k) 0 rfl rfl
  have c2 : ∀ W, Hold [(g1, .cells (kepC k).toArray 29 (0, 0))] W → W.cell? ⟨g1, 2, none⟩ = some (.int .i64 k.value) := Hold.cell (cs := kepC k) 0 rfl rfl
  clear hb1 hL1
  refine kw_region_f (Hold [(g1, .cells (kepC k).toArray 29 (0, 0))]) [true, true, true, true, true, true, true, true, true, true, true, true, true, false, true, true, true, true, true] (by kernel_rfl) (by kernel_rfl) hR ?_
  generalize w1.drew = w2 at *
  by_cases d1 : 1 ≤ k.kind
  case neg =>
    have t1 : decide (1 ≤ k.kind) = false := decide_eq_false d1
    have HM := Lib.hid (mayK_lo d1)
    clear d1
    repeat (first | refine kf_nil ?_ | refine kf_ung rfl rfl ?_ | refine kf_skipg rfl rfl rfl rfl ?_ | (first | refine kf_move rfl rfl (.inl rfl) rfl rfl ?_ | refine kf_move rfl rfl (.inr rfl) rfl rfl ?_ | refine kf_const rfl rfl (.inl rfl) rfl ?_ | refine kf_const rfl rfl (.inr rfl) rfl ?_) | (refine kf_val rfl rfl rfl ?_; apply Exists.intro; refine And.intro (fun W hW N hN => ?_) ?_; · (go_simp; (try go_bits); exact hN)))
    refine kf_skipc rfl rfl rfl rfl hR ?_
    repeat (first | refine kf_nil ?_ | refine kf_ung rfl rfl ?_ | refine kf_skipg rfl rfl rfl rfl ?_ | (first | refine kf_move rfl rfl (.inl rfl) rfl rfl ?_ | refine kf_move rfl rfl (.inr rfl) rfl rfl ?_ | refine kf_const rfl rfl (.inl rfl) rfl ?_ | refine kf_const rfl rfl (.inr rfl) rfl ?_) | (refine kf_val rfl rfl rfl ?_; apply Exists.intro; refine And.intro (fun W hW N hN => ?_) ?_; · (go_simp; (try go_bits); exact hN)))
    refine kq_then ?_
    clear c1 c2
    repeat (first | refine kw_seq ?_ | refine kw_block ?_ | refine kw_skip ?_ | refine kw_region ?_ | refine kl_nil ?_ | refine kq_then ?_ | refine kq_block ?_ | refine kw_exit ?_ | refine kq_then_exit ?_ | refine kq_block_here rfl ?_ | refine kq_block_far rfl ?_ | refine kq_again_exit ?_ | refine kw_ret ?_ | refine kq_then_ret ?_ | refine kq_block_ret ?_ | refine kq_again_ret ?_ | refine kw_ift rfl ?_ | refine kw_iff rfl ?_ | refine kl_ung rfl rfl ?_ | refine kl_skipg rfl rfl rfl rfl ?_ | refine kl_skipg0 rfl rfl rfl ?_ | (first | refine kl_move rfl rfl (.inl rfl) rfl rfl ?_ | refine kl_move rfl rfl (.inr rfl) rfl rfl ?_ | refine kl_const rfl rfl (.inl rfl) rfl ?_ | refine kl_const rfl rfl (.inr rfl) rfl ?_) | ((first | refine kl_step rfl rfl rfl fun K hK => ?_ | refine kl_step0 rfl rfl rfl fun K hK => ?_); go_simp; (try go_bits); (first | refine hK _ _ ?_ | refine hK _ ?_); clear hK K))
    exact kq_ret1 rfl rfl ⟨by rw [HM.out], HB.out⟩
  have t1 : decide (1 ≤ k.kind) = true := decide_eq_true d1
  by_cases d2 : k.kind ≤ 6
  case neg =>
    have t2 : decide (k.kind ≤ 6) = false := decide_eq_false d2
    have HM := Lib.hid (mayK_hi d2)
    clear d1 d2
    repeat (first | refine kf_nil ?_ | refine kf_ung rfl rfl ?_ | refine kf_skipg rfl rfl rfl rfl ?_ | (first | refine kf_move rfl rfl (.inl rfl) rfl rfl ?_ | refine kf_move rfl rfl (.inr rfl) rfl rfl ?_ | refine kf_const rfl rfl (.inl rfl) rfl ?_ | refine kf_const rfl rfl (.inr rfl) rfl ?_) | (refine kf_val rfl rfl rfl ?_; apply Exists.intro; refine And.intro (fun W hW N hN => ?_) ?_; · (go_simp; (try go_bits); exact hN)))
    refine kf_skipc rfl rfl rfl rfl hR ?_
    repeat (first | refine kf_nil ?_ | refine kf_ung rfl rfl ?_ | refine kf_skipg rfl rfl rfl rfl ?_ | (first | refine kf_move rfl rfl (.inl rfl) rfl rfl ?_ | refine kf_move rfl rfl (.inr rfl) rfl rfl ?_ | refine kf_const rfl rfl (.inl rfl) rfl ?_ | refine kf_const rfl rfl (.inr rfl) rfl ?_) | (refine kf_val rfl rfl rfl ?_; apply Exists.intro; refine And.intro (fun W hW N hN => ?_) ?_; · (go_simp; (try go_bits); exact hN)))
    refine kq_then ?_
    clear c1 c2
    repeat (first | refine kw_seq ?_ | refine kw_block ?_ | refine kw_skip ?_ | refine kw_region ?_ | refine kl_nil ?_ | refine kq_then ?_ | refine kq_block ?_ | refine kw_exit ?_ | refine kq_then_exit ?_ | refine kq_block_here rfl ?_ | refine kq_block_far rfl ?_ | refine kq_again_exit ?_ | refine kw_ret ?_ | refine kq_then_ret ?_ | refine kq_block_ret ?_ | refine kq_again_ret ?_ | refine kw_ift rfl ?_ | refine kw_iff rfl ?_ | refine kl_ung rfl rfl ?_ | refine kl_skipg rfl rfl rfl rfl ?_ | refine kl_skipg0 rfl rfl rfl ?_ | (first | refine kl_move rfl rfl (.inl rfl) rfl rfl ?_ | refine kl_move rfl rfl (.inr rfl) rfl rfl ?_ | refine kl_const rfl rfl (.inl rfl) rfl ?_ | refine kl_const rfl rfl (.inr rfl) rfl ?_) | ((first | refine kl_step rfl rfl rfl fun K hK => ?_ | refine kl_step0 rfl rfl rfl fun K hK => ?_); go_simp; (try go_bits); (first | refine hK _ _ ?_ | refine hK _ ?_); clear hK K))
    exact kq_ret1 rfl rfl ⟨by rw [HM.out], HB.out⟩
  have t2 : decide (k.kind ≤ 6) = true := decide_eq_true d2
  have HM := Lib.hid (mayK_eq d1 d2)
  clear d1 d2
  repeat (first | refine kf_nil ?_ | refine kf_ung rfl rfl ?_ | refine kf_skipg rfl rfl rfl rfl ?_ | (first | refine kf_move rfl rfl (.inl rfl) rfl rfl ?_ | refine kf_move rfl rfl (.inr rfl) rfl rfl ?_ | refine kf_const rfl rfl (.inl rfl) rfl ?_ | refine kf_const rfl rfl (.inr rfl) rfl ?_) | (refine kf_val rfl rfl rfl ?_; apply Exists.intro; refine And.intro (fun W hW N hN => ?_) ?_; · (go_simp; (try go_bits); exact hN)))
  refine kf_ch ?_
  (try refine kl_ung rfl rfl ?_)
  refine kl_call rfl rfl rfl Try.func108 rfl (by kernel_rfl) rfl ?_
  refine Calls.mono (wrap_any k.kind k.value w2) ?_
  rintro e _ ⟨rfl, rfl⟩
  refine ⟨_, rfl, ?_⟩
  refine kl_nil ?_
  refine kq_f hR ?_
  obtain ⟨z, hz⟩ : ∃ z, wrapK k.kind k.value = z := ⟨_, rfl⟩
  rw [hz] at HM ⊢
  clear hz
  repeat (first | refine kf_nil ?_ | refine kf_ung rfl rfl ?_ | refine kf_skipg rfl rfl rfl rfl ?_ | (first | refine kf_move rfl rfl (.inl rfl) rfl rfl ?_ | refine kf_move rfl rfl (.inr rfl) rfl rfl ?_ | refine kf_const rfl rfl (.inl rfl) rfl ?_ | refine kf_const rfl rfl (.inr rfl) rfl ?_) | (refine kf_val rfl rfl rfl ?_; apply Exists.intro; refine And.intro (fun W hW N hN => ?_) ?_; · (go_simp; (try go_bits); exact hN)))
  refine kq_then ?_
  clear c1 c2
  repeat (first | refine kw_seq ?_ | refine kw_block ?_ | refine kw_skip ?_ | refine kw_region ?_ | refine kl_nil ?_ | refine kq_then ?_ | refine kq_block ?_ | refine kw_exit ?_ | refine kq_then_exit ?_ | refine kq_block_here rfl ?_ | refine kq_block_far rfl ?_ | refine kq_again_exit ?_ | refine kw_ret ?_ | refine kq_then_ret ?_ | refine kq_block_ret ?_ | refine kq_again_ret ?_ | refine kw_ift rfl ?_ | refine kw_iff rfl ?_ | refine kl_ung rfl rfl ?_ | refine kl_skipg rfl rfl rfl rfl ?_ | refine kl_skipg0 rfl rfl rfl ?_ | (first | refine kl_move rfl rfl (.inl rfl) rfl rfl ?_ | refine kl_move rfl rfl (.inr rfl) rfl rfl ?_ | refine kl_const rfl rfl (.inl rfl) rfl ?_ | refine kl_const rfl rfl (.inr rfl) rfl ?_) | ((first | refine kl_step rfl rfl rfl fun K hK => ?_ | refine kl_step0 rfl rfl rfl fun K hK => ?_); go_simp; (try go_bits); (first | refine hK _ _ ?_ | refine hK _ ?_); clear hK K))
  exact kq_ret1 rfl rfl ⟨by rw [HM.out], HB.out⟩
set_option maxRecDepth 100000 in
set_option maxHeartbeats 1000000 in
theorem parse1_any (k : KepS) (w : World) : Calls Try.prog 87 #[.agg (kepC k).toArray] w fun e w' => e = .returned (.bool (!mayK k)) ∧ Below w.heap.size w w' := by
  refine calls_kw Try.func87 rfl Try.ntmps87 rfl [(0, .agg (kepC k).toArray)] rfl ?_
  refine kw_seq ?_
  refine kw_region ?_
  refine kl_boxL (Lay.start w) rfl rfl rfl rfl rfl ?_
  intro g1 w1 hg1 hb1 hL1
  clear hg1
  repeat (first | refine kw_seq ?_ | refine kw_region ?_ | refine kl_nil ?_ | refine kq_then ?_ | refine kl_getL hL1 0 rfl Try.underlying29 rfl (kepInfo k) rfl rfl rfl rfl rfl ?_ | (first | refine kl_move rfl rfl (.inl rfl) rfl rfl ?_ | refine kl_move rfl rfl (.inr rfl) rfl rfl ?_ | refine kl_const rfl rfl (.inl rfl) rfl ?_ | refine kl_const rfl rfl (.inr rfl) rfl ?_))
  refine kl_call rfl rfl rfl Try.func88 rfl (by kernel_rfl) rfl ?_
  refine Calls.mono (may_any k w1) ?_
  rintro e w2 ⟨rfl, hb2⟩
  refine ⟨_, rfl, ?_⟩
  have HB := Lib.hid (below_then hb1 hb2 hb1.size)
  clear hb1 hb2 hL1
  cases mayK k <;> (repeat (first | refine kw_seq ?_ | refine kw_block ?_ | refine kw_skip ?_ | refine kw_region ?_ | refine kl_nil ?_ | refine kq_then ?_ | refine kq_block ?_ | refine kw_exit ?_ | refine kq_then_exit ?_ | refine kq_block_here rfl ?_ | refine kq_block_far rfl ?_ | refine kq_again_exit ?_ | refine kw_ret ?_ | refine kq_then_ret ?_ | refine kq_block_ret ?_ | refine kq_again_ret ?_ | refine kw_ift rfl ?_ | refine kw_iff rfl ?_ | refine kl_ung rfl rfl ?_ | refine kl_skipg rfl rfl rfl rfl ?_ | refine kl_skipg0 rfl rfl rfl ?_ | (first | refine kl_move rfl rfl (.inl rfl) rfl rfl ?_ | refine kl_move rfl rfl (.inr rfl) rfl rfl ?_ | refine kl_const rfl rfl (.inl rfl) rfl ?_ | refine kl_const rfl rfl (.inr rfl) rfl ?_) | ((first | refine kl_step rfl rfl rfl fun K hK => ?_ | refine kl_step0 rfl rfl rfl fun K hK => ?_); go_simp; (try go_bits); (first | refine hK _ _ ?_ | refine hK _ ?_); clear hK K))) <;> exact kq_ret1 rfl rfl ⟨rfl, HB.out⟩
def mayV : Value := .func (.func 87) #[] #[]
def idxK (l : List KepS) : Int := match l.findIdx? (fun y => !mayK y) with | some k => (k : Int) | none => -1
theorem idxK_hit (l : List KepS) (k : Nat) (y : KepS) (hy : l[k]? = some y) (hn : (l.take k).all mayK = true) (h : mayK y = false) : idxK l = k := by
  have : l.findIdx? (fun y => !mayK y) = some k := by
    rw [List.findIdx?_eq_some_iff_getElem]
    have hk := (List.getElem?_eq_some_iff.1 hy).1
    refine ⟨hk, ?_, fun j hj => ?_⟩
    · have : l[k] = y := (List.getElem?_eq_some_iff.1 hy).2
      rw [this, h]; rfl
    · have h1 := List.all_eq_true.1 hn l[j] (by rw [List.mem_take_iff_getElem]; exact ⟨j, by omega, rfl⟩)
      rw [h1]; simp
  unfold idxK
  rw [this]
theorem idxK_none (l : List KepS) (hn : l.all mayK = true) : idxK l = -1 := by
  have : l.findIdx? (fun y => !mayK y) = none := by
    rw [List.findIdx?_eq_none_iff]
    intro y hy
    have := List.all_eq_true.1 hn y hy
    rw [this]; rfl
  unfold idxK
  rw [this]
theorem idxK_any (l : List KepS) : (l.any fun k => !mayK k) = decide (0 ≤ idxK l) := by
  unfold idxK
  cases h : l.findIdx? (fun y => !mayK y) with
  | none =>
    rw [List.findIdx?_eq_none_iff] at h
    have : (l.any fun k => !mayK k) = false := List.any_eq_false.2 fun x hx => by rw [h x hx]; simp
    rw [this]; rfl
  | some k =>
    rw [List.findIdx?_eq_some_iff_getElem] at h
    obtain ⟨hk, h1, _⟩ := h
    have : (l.any fun k => !mayK k) = true := List.any_eq_true.2 ⟨l[k], List.getElem_mem hk, h1⟩
    rw [this]
    exact (decide_eq_true (by dsimp only; omega)).symm
set_option maxRecDepth 100000 in
set_option maxHeartbeats 1000000 in
theorem indexK_any (A : Option Addr) (n c : Nat) (l : List KepS) (w : World) (hA : KeS w A n l) (hn : n ≤ 1099511627776) :
    Calls Try.prog 107 #[.slice A n c, mayV] w fun e w' => e = .returned (.int .i64 (idxK l)) ∧ Below w.heap.size w w' := by
  have HL := Lib.hid hA.len
  have HC : Hid (mayV = .func (.func 87) #[] #[]) := rfl
  refine calls_kw Try.func107 rfl Try.ntmps107 rfl [(0, .slice A n c), (1, mayV)] rfl ?_
  repeat (first | refine kw_seq ?_ | refine kw_skip ?_ | refine kw_region ?_ | refine kl_nil ?_ | refine kq_then ?_ | refine kq_block ?_ | refine kw_exit ?_ | refine kq_then_exit ?_ | refine kq_block_here rfl ?_ | refine kq_block_far rfl ?_ | refine kq_again_exit ?_ | refine kw_ret ?_ | refine kq_then_ret ?_ | refine kq_block_ret ?_ | refine kq_again_ret ?_ | refine kw_ift rfl ?_ | refine kw_iff rfl ?_ | refine kl_ung rfl rfl ?_ | refine kl_skipg rfl rfl rfl rfl ?_ | refine kl_skipg0 rfl rfl rfl ?_ | (first | refine kl_move rfl rfl (.inl rfl) rfl rfl ?_ | refine kl_move rfl rfl (.inr rfl) rfl rfl ?_ | refine kl_const rfl rfl (.inl rfl) rfl ?_ | refine kl_const rfl rfl (.inr rfl) rfl ?_) | ((first | refine kl_step rfl rfl rfl fun K hK => ?_ | refine kl_step0 rfl rfl rfl fun K hK => ?_); go_simp; (try go_bits); (first | refine hK _ _ ?_ | refine hK _ ?_); clear hK K))
  refine KW.less [0, 1, 7, 8] ?_
  simp only [nrm, lk, Nat.reduceBEq, cond_true, cond_false]
  refine kw_block ?_
  refine kw_loop (fun m L wr => ∃ k, k ≤ n ∧ m = n - k ∧ Hid (Below w.heap.size w wr) ∧ Hid ((l.take k).all mayK = true) ∧ L = [(0, .slice A n c), (1, mayV), (7, .int .i64 (n : Int)), (8, .int .i64 (k : Int))]) ⟨0, by omega, rfl, Below.refl _ _, by show _ = _; simp, rfl⟩ ?_
  rintro m L wr ⟨k, hk, rfl, hb, htk, rfl⟩
  by_cases hlt : k < n
  case neg =>
    obtain rfl : n = k := by omega
    have t1 : decide ((n : Int) < (n : Int)) = false := by simp
    have hany : l.all mayK = true := by have := htk.out; rwa [List.take_of_length_le (by rw [HL.out]; exact Nat.le_refl _)] at this
    have HA := Lib.hid (idxK_none l hany)
    clear hany hlt
    repeat (first | refine kw_seq ?_ | refine kw_block ?_ | refine kw_skip ?_ | refine kw_region ?_ | refine kl_nil ?_ | refine kq_then ?_ | refine kq_block ?_ | refine kw_exit ?_ | refine kq_then_exit ?_ | refine kq_block_here rfl ?_ | refine kq_block_far rfl ?_ | refine kq_again_exit ?_ | refine kw_ret ?_ | refine kq_then_ret ?_ | refine kq_block_ret ?_ | refine kq_again_ret ?_ | refine kw_ift rfl ?_ | refine kw_iff rfl ?_ | refine kl_ung rfl rfl ?_ | refine kl_skipg rfl rfl rfl rfl ?_ | refine kl_skipg0 rfl rfl rfl ?_ | (first | refine kl_move rfl rfl (.inl rfl) rfl rfl ?_ | refine kl_move rfl rfl (.inr rfl) rfl rfl ?_ | refine kl_const rfl rfl (.inl rfl) rfl ?_ | refine kl_const rfl rfl (.inr rfl) rfl ?_) | ((first | refine kl_step rfl rfl rfl fun K hK => ?_ | refine kl_step0 rfl rfl rfl fun K hK => ?_); go_simp; (try go_bits); (first | refine hK _ _ ?_ | refine hK _ ?_); clear hK K))
    exact kq_ret1 rfl rfl ⟨by rw [HA.out], hb.out⟩
  have hk1 : (k : Int) < n := by omega
  have hk0 : (0 : Int) ≤ k := by omega
  obtain ⟨g, o, y, rfl, hra, hx, hgx⟩ := hA.next hlt
  have HRA := Lib.hid (rangeAt_below hra hb.out)
  clear hra
  obtain ⟨ok, hok⟩ : ∃ ok, o + k * 3 = ok := ⟨_, rfl⟩
  rw [hok] at HRA
  repeat (first | refine kw_seq ?_ | refine kw_block ?_ | refine kw_region ?_ | refine kl_nil ?_ | refine kq_then ?_ | refine kw_ift rfl ?_ | refine kw_skip ?_ | refine kl_load_mid 29 g ok _ _ HRA.out Try.underlying29 rfl (kepInfoL y) rfl rfl rfl rfl rfl ?_ | (first | refine kl_move rfl rfl (.inl rfl) rfl rfl ?_ | refine kl_move rfl rfl (.inr rfl) rfl rfl ?_ | refine kl_const rfl rfl (.inl rfl) rfl ?_ | refine kl_const rfl rfl (.inr rfl) rfl ?_) | ((first | refine kl_step rfl rfl rfl fun K hK => ?_ | refine kl_step0 rfl rfl rfl fun K hK => ?_); go_simp; (try go_bits); (first | refine hK _ _ ?_ | refine hK _ ?_); clear hK K))
  clear HRA
  refine kl_callv rfl rfl rfl (by exact rfl) Try.func87 rfl (by kernel_rfl) rfl ?_
  refine Calls.mono (parse1_any y wr) ?_
  rintro e w2 ⟨rfl, hb2⟩
  refine ⟨_, rfl, ?_⟩
  have hb3 := below_then hb.out hb2 hb.out.size
  clear hb2
  cases hpx : mayK y
  case false =>
    have HA := Lib.hid (idxK_hit l k y hgx.out htk.out hpx)
    repeat (first | refine kw_seq ?_ | refine kw_block ?_ | refine kw_skip ?_ | refine kw_region ?_ | refine kl_nil ?_ | refine kq_then ?_ | refine kq_block ?_ | refine kw_exit ?_ | refine kq_then_exit ?_ | refine kq_block_here rfl ?_ | refine kq_block_far rfl ?_ | refine kq_again_exit ?_ | refine kw_ret ?_ | refine kq_then_ret ?_ | refine kq_block_ret ?_ | refine kq_again_ret ?_ | refine kw_ift rfl ?_ | refine kw_iff rfl ?_ | refine kl_ung rfl rfl ?_ | refine kl_skipg rfl rfl rfl rfl ?_ | refine kl_skipg0 rfl rfl rfl ?_ | (first | refine kl_move rfl rfl (.inl rfl) rfl rfl ?_ | refine kl_move rfl rfl (.inr rfl) rfl rfl ?_ | refine kl_const rfl rfl (.inl rfl) rfl ?_ | refine kl_const rfl rfl (.inr rfl) rfl ?_) | ((first | refine kl_step rfl rfl rfl fun K hK => ?_ | refine kl_step0 rfl rfl rfl fun K hK => ?_); go_simp; (try go_bits); (first | refine hK _ _ ?_ | refine hK _ ?_); clear hK K))
    exact kq_ret1 rfl rfl ⟨by rw [HA.out], hb3⟩
  have hn1 : Hid ((l.take (k + 1)).all mayK = true) := by
    show _ = _
    rw [hx.out, List.all_append, htk.out]
    simp [hpx]
  obtain ⟨nk, hnk⟩ : ∃ nk, k + 1 = nk := ⟨_, rfl⟩
  have i3 : (k : Int) + 1 = (nk : Int) := by omega
  have i4 : IntKind.i64.wrap ((k : Int) + 1) = (nk : Int) := by rw [i3, IntWalk.i64_in _ (by omega)]
  rw [hnk] at hn1
  have HNK := Lib.hid (And.intro hnk hlt)
  clear hnk hlt
  repeat (first | refine kw_seq ?_ | refine kw_region ?_ | refine kl_nil ?_ | refine kq_then ?_ | refine kq_block ?_ | refine kw_ift rfl ?_ | refine kw_iff rfl ?_ | refine kw_skip ?_ | (first | refine kl_move rfl rfl (.inl rfl) rfl rfl ?_ | refine kl_move rfl rfl (.inr rfl) rfl rfl ?_ | refine kl_const rfl rfl (.inl rfl) rfl ?_ | refine kl_const rfl rfl (.inr rfl) rfl ?_) | ((first | refine kl_step rfl rfl rfl fun K hK => ?_ | refine kl_step0 rfl rfl rfl fun K hK => ?_); go_simp; (try go_bits); (first | refine hK _ _ ?_ | refine hK _ ?_); clear hK K))
  refine kq_again (n - nk) [0, 1, 7, 8] (by have := HNK.out; omega) ?_
  exact ⟨nk, by have := HNK.out; omega, rfl, hb3, hn1, rfl⟩
set_option maxRecDepth 100000 in
set_option maxHeartbeats 1000000 in
theorem containsK_any (A : Option Addr) (n c : Nat) (l : List KepS) (w : World) (hA : KeS w A n l) (hn : n ≤ 1099511627776) :
    Calls Try.prog 86 #[.slice A n c, mayV] w fun e w' => e = .returned (.bool (l.any fun k => !mayK k)) ∧ Below w.heap.size w w' := by
  have HC : Hid (mayV = .func (.func 87) #[] #[]) := rfl
  refine calls_kw Try.func86 rfl Try.ntmps86 rfl [(0, .slice A n c), (1, mayV)] rfl ?_
  repeat (first | refine kw_seq ?_ | refine kw_region ?_ | refine kl_nil ?_ | refine kq_then ?_ | (first | refine kl_move rfl rfl (.inl rfl) rfl rfl ?_ | refine kl_move rfl rfl (.inr rfl) rfl rfl ?_ | refine kl_const rfl rfl (.inl rfl) rfl ?_ | refine kl_const rfl rfl (.inr rfl) rfl ?_))
  refine kl_call rfl rfl rfl Try.func107 rfl (by kernel_rfl) rfl ?_
  refine Calls.mono (indexK_any A n c l w hA hn) ?_
  rintro e w1 ⟨rfl, hb1⟩
  refine ⟨_, rfl, ?_⟩
  have HX := Lib.hid (idxK_any l)
  obtain ⟨z, hz⟩ : ∃ z, idxK l = z := ⟨_, rfl⟩
  rw [hz] at HX ⊢
  clear hz
  repeat (first | refine kw_seq ?_ | refine kw_block ?_ | refine kw_skip ?_ | refine kw_region ?_ | refine kl_nil ?_ | refine kq_then ?_ | refine kq_block ?_ | refine kw_exit ?_ | refine kq_then_exit ?_ | refine kq_block_here rfl ?_ | refine kq_block_far rfl ?_ | refine kq_again_exit ?_ | refine kw_ret ?_ | refine kq_then_ret ?_ | refine kq_block_ret ?_ | refine kq_again_ret ?_ | refine kw_ift rfl ?_ | refine kw_iff rfl ?_ | refine kl_ung rfl rfl ?_ | refine kl_skipg rfl rfl rfl rfl ?_ | refine kl_skipg0 rfl rfl rfl ?_ | (first | refine kl_move rfl rfl (.inl rfl) rfl rfl ?_ | refine kl_move rfl rfl (.inr rfl) rfl rfl ?_ | refine kl_const rfl rfl (.inl rfl) rfl ?_ | refine kl_const rfl rfl (.inr rfl) rfl ?_) | ((first | refine kl_step rfl rfl rfl fun K hK => ?_ | refine kl_step0 rfl rfl rfl fun K hK => ?_); go_simp; (try go_bits); (first | refine hK _ _ ?_ | refine hK _ ?_); clear hK K))
  exact kq_ret1 rfl rfl ⟨by rw [HX.out], hb1⟩
end Go.Proofs.Ytcpifcdndhhmgaa
