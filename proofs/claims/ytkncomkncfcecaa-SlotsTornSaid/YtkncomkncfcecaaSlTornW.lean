/- SlotsTorn: the walk. -/
import Derived.Test.YtkncomkncfcecaaRecTornP
import Derived.Test.YtkncomkncfcecaaSlTornP
import Derived.Test.YtkncomkncfcecaaDuo
import Derived.Test.YtkncomkncfcecaaShaRef
import Derived.Test.YtkncomkncfcecaaRefFlash2
import Derived.Test.YtkncomkncfcecaaCrcSum
import Derived.Test.YtkncomkncfcecaaKnF
set_option linter.unusedVariables false
set_option linter.unusedSimpArgs false
namespace Go.Proofs.Ytkncomkncfcecaa
open Go.RowKit
attribute [local go_sem] ev_tmp ev_const ev_func ev_global lk_hit lk_miss uponK_value uponK_skip look_tmp look_const look_global look_func valP_value
theorem boot_seq (f : FlashSt) : 0 ≤ (bootP f).1.seq ∧ (bootP f).1.seq ≤ 1073741824 := by
  unfold bootP
  cases h : (allP f).find? (fun p => (imageP f p.1).2) with
  | none => exact ⟨by show (0 : Int) ≤ 0; omega, by show (0 : Int) ≤ 1073741824; omega⟩
  | some p => have := (allP_good f p (List.mem_of_find?_eq_some h)).1.seq; exact ⟨by show 0 ≤ p.1.seq; omega, this.2⟩
set_option maxRecDepth 100000 in
set_option maxHeartbeats 8000000 in
theorem slotsTorn_top (A : Option Addr) (n c : Nat) (a : List UInt8) (z y : Int) (M : Option Addr) (k e : Nat) (mk : List UInt8) (w : World)
    (hA : Bs w A n a) (hnc : n ≤ c) (hc : c ≤ 140737488351232) (_ : -9223372036854775808 ≤ z ∧ z ≤ 9223372036854775807) (_ : -9223372036854775808 ≤ y ∧ y ≤ 9223372036854775807) (hM : Bs w M k mk) (_ : k ≤ e) (_ : e ≤ 140737488351232) :
    Calls Try.prog 8 #[.slice A n c, .int .i64 z, .int .i64 y, .slice M k e] w fun e w' => e = .returned (.bool true) ∧ Below w.heap.size w w' := by
  have hla := hA.len
  have HA := Lib.hid hA
  have HM := Lib.hid hM
  clear hA hM
  refine calls_kw Try.func8 rfl Try.ntmps8 rfl [(0, .slice A n c), (1, .int .i64 z), (2, .int .i64 y), (3, .slice M k e)] rfl ?_
  repeat (first | refine kw_seq ?_ | refine kw_region ?_ | refine kl_nil ?_ | refine kq_then ?_ | refine kw_iff rfl ?_ | refine kw_skip ?_ | refine kw_block ?_ | refine kl_ung rfl rfl ?_ | refine kl_skipg rfl rfl rfl rfl ?_ | (first | refine kl_move rfl rfl (.inl rfl) rfl rfl ?_ | refine kl_move rfl rfl (.inr rfl) rfl rfl ?_ | refine kl_const rfl rfl (.inl rfl) rfl ?_ | refine kl_const rfl rfl (.inr rfl) rfl ?_) | ((first | refine kl_step rfl rfl rfl fun K hK => ?_ | refine kl_step0 rfl rfl rfl fun K hK => ?_); go_simp; (try go_bits); (first | refine hK _ _ ?_ | refine hK _ ?_); clear hK K))
  refine kl_call rfl rfl rfl Try.func10 rfl (by kernel_rfl) rfl ?_
  refine Calls.mono (known6_any w) ?_
  rintro e w0 ⟨rfl, hb0⟩
  refine ⟨_, rfl, ?_⟩
  by_cases d0 : n = 0
  · have t0 : ((n : Int) == 0) = true := by rw [beq_iff_eq]; omega
    have t0n : (n == 0) = true := by rw [beq_iff_eq]; omega
    repeat (first | refine kw_seq ?_ | refine kw_region ?_ | refine kl_nil ?_ | refine kq_then ?_ | refine kw_iff rfl ?_ | refine kw_skip ?_ | refine kw_block ?_ | refine kl_ung rfl rfl ?_ | refine kl_skipg rfl rfl rfl rfl ?_ | refine kw_ift rfl ?_ | (first | refine kl_move rfl rfl (.inl rfl) rfl rfl ?_ | refine kl_move rfl rfl (.inr rfl) rfl rfl ?_ | refine kl_const rfl rfl (.inl rfl) rfl ?_ | refine kl_const rfl rfl (.inr rfl) rfl ?_) | ((first | refine kl_step rfl rfl rfl fun K hK => ?_ | refine kl_step0 rfl rfl rfl fun K hK => ?_); go_simp; (try go_bits); (first | refine hK _ _ ?_ | refine hK _ ?_); clear hK K))
    repeat (first | refine kw_seq ?_ | refine kw_block ?_ | refine kw_skip ?_ | refine kw_region ?_ | refine kl_nil ?_ | refine kq_then ?_ | refine kq_block ?_ | refine kw_exit ?_ | refine kq_then_exit ?_ | refine kq_block_here rfl ?_ | refine kq_block_far rfl ?_ | refine kq_again_exit ?_ | refine kw_ret ?_ | refine kq_then_ret ?_ | refine kq_block_ret ?_ | refine kq_again_ret ?_ | refine kw_ift rfl ?_ | refine kw_iff rfl ?_ | refine kl_ung rfl rfl ?_ | refine kl_skipg rfl rfl rfl rfl ?_ | refine kl_skipg0 rfl rfl rfl ?_ | (first | refine kl_move rfl rfl (.inl rfl) rfl rfl ?_ | refine kl_move rfl rfl (.inr rfl) rfl rfl ?_ | refine kl_const rfl rfl (.inl rfl) rfl ?_ | refine kl_const rfl rfl (.inr rfl) rfl ?_) | ((first | refine kl_step rfl rfl rfl fun K hK => ?_ | refine kl_step0 rfl rfl rfl fun K hK => ?_); go_simp; (try go_bits); (first | refine hK _ _ ?_ | refine hK _ ?_); clear hK K))
    exact kq_ret1 rfl rfl ⟨rfl, hb0⟩
  have t0 : ((n : Int) == 0) = false := by rw [beq_eq_false_iff_ne]; omega
  have t0n : (n == 0) = false := by rw [beq_eq_false_iff_ne]; omega
  by_cases d1 : 200 < n
  · have t1 : decide ((200 : Int) < (n : Int)) = true := by rw [decide_eq_true_eq]; omega
    have t1n : decide (200 < n) = true := by rw [decide_eq_true_eq]; omega
    repeat (first | refine kw_seq ?_ | refine kw_region ?_ | refine kl_nil ?_ | refine kq_then ?_ | refine kw_iff rfl ?_ | refine kw_skip ?_ | refine kw_block ?_ | refine kl_ung rfl rfl ?_ | refine kl_skipg rfl rfl rfl rfl ?_ | refine kw_ift rfl ?_ | (first | refine kl_move rfl rfl (.inl rfl) rfl rfl ?_ | refine kl_move rfl rfl (.inr rfl) rfl rfl ?_ | refine kl_const rfl rfl (.inl rfl) rfl ?_ | refine kl_const rfl rfl (.inr rfl) rfl ?_) | ((first | refine kl_step rfl rfl rfl fun K hK => ?_ | refine kl_step0 rfl rfl rfl fun K hK => ?_); go_simp; (try go_bits); (first | refine hK _ _ ?_ | refine hK _ ?_); clear hK K))
    repeat (first | refine kw_seq ?_ | refine kw_block ?_ | refine kw_skip ?_ | refine kw_region ?_ | refine kl_nil ?_ | refine kq_then ?_ | refine kq_block ?_ | refine kw_exit ?_ | refine kq_then_exit ?_ | refine kq_block_here rfl ?_ | refine kq_block_far rfl ?_ | refine kq_again_exit ?_ | refine kw_ret ?_ | refine kq_then_ret ?_ | refine kq_block_ret ?_ | refine kq_again_ret ?_ | refine kw_ift rfl ?_ | refine kw_iff rfl ?_ | refine kl_ung rfl rfl ?_ | refine kl_skipg rfl rfl rfl rfl ?_ | refine kl_skipg0 rfl rfl rfl ?_ | (first | refine kl_move rfl rfl (.inl rfl) rfl rfl ?_ | refine kl_move rfl rfl (.inr rfl) rfl rfl ?_ | refine kl_const rfl rfl (.inl rfl) rfl ?_ | refine kl_const rfl rfl (.inr rfl) rfl ?_) | ((first | refine kl_step rfl rfl rfl fun K hK => ?_ | refine kl_step0 rfl rfl rfl fun K hK => ?_); go_simp; (try go_bits); (first | refine hK _ _ ?_ | refine hK _ ?_); clear hK K))
    exact kq_ret1 rfl rfl ⟨rfl, hb0⟩
  have t1 : decide ((200 : Int) < (n : Int)) = false := by rw [decide_eq_false_iff_not]; omega
  have t1n : decide (200 < n) = false := by rw [decide_eq_false_iff_not]; omega
  by_cases d2 : 20 < k
  · have t2 : decide ((20 : Int) < (k : Int)) = true := by rw [decide_eq_true_eq]; omega
    have t2n : decide (20 < k) = true := by rw [decide_eq_true_eq]; omega
    repeat (first | refine kw_seq ?_ | refine kw_region ?_ | refine kl_nil ?_ | refine kq_then ?_ | refine kw_iff rfl ?_ | refine kw_skip ?_ | refine kw_block ?_ | refine kl_ung rfl rfl ?_ | refine kl_skipg rfl rfl rfl rfl ?_ | refine kw_ift rfl ?_ | (first | refine kl_move rfl rfl (.inl rfl) rfl rfl ?_ | refine kl_move rfl rfl (.inr rfl) rfl rfl ?_ | refine kl_const rfl rfl (.inl rfl) rfl ?_ | refine kl_const rfl rfl (.inr rfl) rfl ?_) | ((first | refine kl_step rfl rfl rfl fun K hK => ?_ | refine kl_step0 rfl rfl rfl fun K hK => ?_); go_simp; (try go_bits); (first | refine hK _ _ ?_ | refine hK _ ?_); clear hK K))
    repeat (first | refine kw_seq ?_ | refine kw_block ?_ | refine kw_skip ?_ | refine kw_region ?_ | refine kl_nil ?_ | refine kq_then ?_ | refine kq_block ?_ | refine kw_exit ?_ | refine kq_then_exit ?_ | refine kq_block_here rfl ?_ | refine kq_block_far rfl ?_ | refine kq_again_exit ?_ | refine kw_ret ?_ | refine kq_then_ret ?_ | refine kq_block_ret ?_ | refine kq_again_ret ?_ | refine kw_ift rfl ?_ | refine kw_iff rfl ?_ | refine kl_ung rfl rfl ?_ | refine kl_skipg rfl rfl rfl rfl ?_ | refine kl_skipg0 rfl rfl rfl ?_ | (first | refine kl_move rfl rfl (.inl rfl) rfl rfl ?_ | refine kl_move rfl rfl (.inr rfl) rfl rfl ?_ | refine kl_const rfl rfl (.inl rfl) rfl ?_ | refine kl_const rfl rfl (.inr rfl) rfl ?_) | ((first | refine kl_step rfl rfl rfl fun K hK => ?_ | refine kl_step0 rfl rfl rfl fun K hK => ?_); go_simp; (try go_bits); (first | refine hK _ _ ?_ | refine hK _ ?_); clear hK K))
    exact kq_ret1 rfl rfl ⟨rfl, hb0⟩
  have t2 : decide ((20 : Int) < (k : Int)) = false := by rw [decide_eq_false_iff_not]; omega
  have t2n : decide (20 < k) = false := by rw [decide_eq_false_iff_not]; omega
  obtain ⟨f1, e1, I1⟩ := torn_start a (by omega)
  have E1 := Lib.hid e1
  have J1 := Lib.hid I1
  have HNK : Hid (n ≤ 200 ∧ k ≤ 20 ∧ a.length = n) := ⟨by omega, by omega, hla⟩
  clear e1 I1 d0 d1 d2 hla
  repeat (first | refine kw_seq ?_ | refine kw_block ?_ | refine kw_skip ?_ | refine kw_region ?_ | refine kl_nil ?_ | refine kq_then ?_ | refine kq_block ?_ | refine kw_exit ?_ | refine kq_then_exit ?_ | refine kq_block_here rfl ?_ | refine kq_block_far rfl ?_ | refine kq_again_exit ?_ | refine kw_ret ?_ | refine kq_then_ret ?_ | refine kq_block_ret ?_ | refine kq_again_ret ?_ | refine kw_ift rfl ?_ | refine kw_iff rfl ?_ | refine kl_ung rfl rfl ?_ | refine kl_skipg rfl rfl rfl rfl ?_ | refine kl_skipg0 rfl rfl rfl ?_ | (first | refine kl_move rfl rfl (.inl rfl) rfl rfl ?_ | refine kl_move rfl rfl (.inr rfl) rfl rfl ?_ | refine kl_const rfl rfl (.inl rfl) rfl ?_ | refine kl_const rfl rfl (.inr rfl) rfl ?_) | ((first | refine kl_step rfl rfl rfl fun K hK => ?_ | refine kl_step0 rfl rfl rfl fun K hK => ?_); go_simp; (try go_bits); (first | refine hK _ _ ?_ | refine hK _ ?_); clear hK K))
  refine kl_call rfl rfl rfl Try.func12 rfl (by kernel_rfl) rfl ?_
  refine Calls.mono (new_any w0) ?_
  rintro e w1 ⟨rfl, hf1, hb1⟩
  refine ⟨_, rfl, ?_⟩
  repeat (first | refine kw_seq ?_ | refine kw_block ?_ | refine kw_skip ?_ | refine kw_region ?_ | refine kl_nil ?_ | refine kq_then ?_ | refine kq_block ?_ | refine kw_exit ?_ | refine kq_then_exit ?_ | refine kq_block_here rfl ?_ | refine kq_block_far rfl ?_ | refine kq_again_exit ?_ | refine kw_ret ?_ | refine kq_then_ret ?_ | refine kq_block_ret ?_ | refine kq_again_ret ?_ | refine kw_ift rfl ?_ | refine kw_iff rfl ?_ | refine kl_ung rfl rfl ?_ | refine kl_skipg rfl rfl rfl rfl ?_ | refine kl_skipg0 rfl rfl rfl ?_ | (first | refine kl_move rfl rfl (.inl rfl) rfl rfl ?_ | refine kl_move rfl rfl (.inr rfl) rfl rfl ?_ | refine kl_const rfl rfl (.inl rfl) rfl ?_ | refine kl_const rfl rfl (.inr rfl) rfl ?_) | ((first | refine kl_step rfl rfl rfl fun K hK => ?_ | refine kl_step0 rfl rfl rfl fun K hK => ?_); go_simp; (try go_bits); (first | refine hK _ _ ?_ | refine hK _ ?_); clear hK K))
  refine kl_call rfl rfl rfl Try.func20 rfl (by kernel_rfl) rfl ?_
  refine Calls.mono (refNew_any w1) ?_
  rintro e w2 ⟨rfl, hf2, hb2⟩
  refine ⟨_, rfl, ?_⟩
  have hD2 := Duo.start w w0 w1 w2 hb0 hf1 hb1 hf2 hb2
  obtain ⟨g, hg⟩ : ∃ g, w0.heap.size = g := ⟨_, rfl⟩
  obtain ⟨x, hx⟩ : ∃ x, w1.heap.size = x := ⟨_, rfl⟩
  rw [hg, hx] at hD2 ⊢
  have HD2 := Lib.hid hD2
  clear hf1 hb1 hf2 hb2 hg hx t0 t0n t1 t1n t2 t2n hb0 hD2
  have HAG : Hid (0 < n → Away g A) := fun h0 u hu => by have := HA.out.inQ h0 u hu; have := HD2.out.ge; omega
  have HAX : Hid (0 < n → Away x A) := fun h0 u hu => by have := HA.out.inQ h0 u hu; have := HD2.out.ge; have := HD2.out.lt; omega
  repeat (first | refine kw_seq ?_ | refine kw_block ?_ | refine kw_skip ?_ | refine kw_region ?_ | refine kl_nil ?_ | refine kq_then ?_ | refine kq_block ?_ | refine kw_exit ?_ | refine kq_then_exit ?_ | refine kq_block_here rfl ?_ | refine kq_block_far rfl ?_ | refine kq_again_exit ?_ | refine kw_ret ?_ | refine kq_then_ret ?_ | refine kq_block_ret ?_ | refine kq_again_ret ?_ | refine kw_ift rfl ?_ | refine kw_iff rfl ?_ | refine kl_ung rfl rfl ?_ | refine kl_skipg rfl rfl rfl rfl ?_ | refine kl_skipg0 rfl rfl rfl ?_ | (first | refine kl_move rfl rfl (.inl rfl) rfl rfl ?_ | refine kl_move rfl rfl (.inr rfl) rfl rfl ?_ | refine kl_const rfl rfl (.inl rfl) rfl ?_ | refine kl_const rfl rfl (.inr rfl) rfl ?_) | ((first | refine kl_step rfl rfl rfl fun K hK => ?_ | refine kl_step0 rfl rfl rfl fun K hK => ?_); go_simp; (try go_bits); (first | refine hK _ _ ?_ | refine hK _ ?_); clear hK K))
  refine kl_call rfl rfl rfl Try.func17 rfl (by kernel_rfl) rfl ?_
  refine Calls.mono (store_any (NeQ g x) g neq_g newF 0 A n c a w2 HD2.out.fs (by unfold I64; omega) (HA.out.keep HD2.out.keeps) HAG.out hnc (by omega)) ?_
  rintro e w3 ⟨rfl, hf3, hg3⟩
  refine ⟨_, rfl, ?_⟩
  have HD3 := Lib.hid (HD2.out.fst hf3 hg3)
  rw [E1.out] at HD3 ⊢
  clear HD2 hf3 hg3
  repeat (first | refine kw_seq ?_ | refine kw_block ?_ | refine kw_skip ?_ | refine kw_region ?_ | refine kl_nil ?_ | refine kq_then ?_ | refine kq_block ?_ | refine kw_exit ?_ | refine kq_then_exit ?_ | refine kq_block_here rfl ?_ | refine kq_block_far rfl ?_ | refine kq_again_exit ?_ | refine kw_ret ?_ | refine kq_then_ret ?_ | refine kq_block_ret ?_ | refine kq_again_ret ?_ | refine kw_ift rfl ?_ | refine kw_iff rfl ?_ | refine kl_ung rfl rfl ?_ | refine kl_skipg rfl rfl rfl rfl ?_ | refine kl_skipg0 rfl rfl rfl ?_ | (first | refine kl_move rfl rfl (.inl rfl) rfl rfl ?_ | refine kl_move rfl rfl (.inr rfl) rfl rfl ?_ | refine kl_const rfl rfl (.inl rfl) rfl ?_ | refine kl_const rfl rfl (.inr rfl) rfl ?_) | ((first | refine kl_step rfl rfl rfl fun K hK => ?_ | refine kl_step0 rfl rfl rfl fun K hK => ?_); go_simp; (try go_bits); (first | refine hK _ _ ?_ | refine hK _ ?_); clear hK K))
  refine kl_call rfl rfl rfl Try.func21 rfl (by kernel_rfl) rfl ?_
  refine Calls.mono (storeR_any (NeQ g x) x neq_x newF 0 A n c a w3 HD3.out.rf (by unfold I64; omega) (HA.out.keep HD3.out.keeps) HAX.out hnc (by omega)) ?_
  rintro e w4 ⟨rfl, hf4, hg4⟩
  refine ⟨_, rfl, ?_⟩
  have HD4 := Lib.hid (HD3.out.snd hf4 hg4)
  rw [E1.out] at HD4 ⊢
  dsimp only at HD4 ⊢
  clear HD3 hf4 hg4 E1
  repeat (first | refine kw_seq ?_ | refine kw_block ?_ | refine kw_skip ?_ | refine kw_region ?_ | refine kl_nil ?_ | refine kq_then ?_ | refine kq_block ?_ | refine kw_exit ?_ | refine kq_then_exit ?_ | refine kq_block_here rfl ?_ | refine kq_block_far rfl ?_ | refine kq_again_exit ?_ | refine kw_ret ?_ | refine kq_then_ret ?_ | refine kq_block_ret ?_ | refine kq_again_ret ?_ | refine kw_ift rfl ?_ | refine kw_iff rfl ?_ | refine kl_ung rfl rfl ?_ | refine kl_skipg rfl rfl rfl rfl ?_ | refine kl_skipg0 rfl rfl rfl ?_ | (first | refine kl_move rfl rfl (.inl rfl) rfl rfl ?_ | refine kl_move rfl rfl (.inr rfl) rfl rfl ?_ | refine kl_const rfl rfl (.inl rfl) rfl ?_ | refine kl_const rfl rfl (.inr rfl) rfl ?_) | ((first | refine kl_step rfl rfl rfl fun K hK => ?_ | refine kl_step0 rfl rfl rfl fun K hK => ?_); go_simp; (try go_bits); (first | refine hK _ _ ?_ | refine hK _ ?_); clear hK K))
  refine kl_call rfl rfl rfl Try.func18 rfl (by kernel_rfl) rfl ?_
  refine Calls.mono (refSha_any A n c a w4 (HA.out.keep HD4.out.keeps) (by have := HNK.out; omega)) ?_
  rintro e w5 ⟨rfl, hb5⟩
  refine ⟨_, rfl, ?_⟩
  have HD5 := Lib.hid (HD4.out.next hb5)
  clear HD4 hb5
  obtain ⟨S, hS⟩ : ∃ S, sha a = S := ⟨_, rfl⟩
  have HSL : Hid (S.length = 32) := by show _ = _; rw [← hS]; exact length_sha a
  rw [hS]
  have HSA := Lib.hid hS
  clear hS
  repeat (first | (first | refine kl_move rfl rfl (.inl rfl) rfl rfl ?_ | refine kl_move rfl rfl (.inr rfl) rfl rfl ?_ | refine kl_const rfl rfl (.inl rfl) rfl ?_ | refine kl_const rfl rfl (.inr rfl) rfl ?_) | ((first | refine kl_step rfl rfl rfl fun K hK => ?_ | refine kl_step0 rfl rfl rfl fun K hK => ?_); go_simp; (try go_bits); (first | refine hK _ _ ?_ | refine hK _ ?_); clear hK K))
  refine kl_varL (z := (bv z32).toArray) (cells := (bv S).toArray) (⟨HD5.out.bel, trivial⟩ : Lay w w5 []) hashZero (hash_1 S HSL.out) (by rw [List.size_toArray, List.size_toArray, length_bv, length_bv, z32_len, HSL.out]) (by simp [Value.oneCell', bv]) rfl rfl rfl rfl rfl rfl rfl rfl rfl ?_
  intro gs w6 hgs hb6 hL6
  have HNG : Hid (gs ≠ g) := by show _ ≠ _; have := HD5.out.lt; have := HD5.out.xlt; omega
  have HNX : Hid (gs ≠ x) := by show _ ≠ _; have := HD5.out.xlt; omega
  have HD6 := Lib.hid (HD5.out.next hb6)
  have HL6 := Lib.hid hL6
  clear HD5 hb6 hL6 hgs
  obtain ⟨q, hq⟩ : ∃ q, within y 40 = q := ⟨_, rfl⟩
  obtain ⟨q2, hq2⟩ : ∃ q2, within z 40 = q2 := ⟨_, rfl⟩
  have HQ := Lib.hid hq2
  have HQL : Hid (q2 < 40) := by show _ < _; rw [← hq2]; exact within_lt z 40 (by omega)
  clear hq hq2 q
  repeat (first | refine kw_seq ?_ | refine kw_region ?_ | refine kl_nil ?_ | refine kq_then ?_ | refine kw_iff rfl ?_ | refine kw_skip ?_ | refine kl_ung rfl rfl ?_ | refine kl_skipg rfl rfl rfl rfl ?_ | (first | refine kl_move rfl rfl (.inl rfl) rfl rfl ?_ | refine kl_move rfl rfl (.inr rfl) rfl rfl ?_ | refine kl_const rfl rfl (.inl rfl) rfl ?_ | refine kl_const rfl rfl (.inr rfl) rfl ?_) | ((first | refine kl_step rfl rfl rfl fun K hK => ?_ | refine kl_step0 rfl rfl rfl fun K hK => ?_); go_simp; (try go_bits); (first | refine hK _ _ ?_ | refine hK _ ?_); clear hK K))
  refine KW.less [0, 1, 2, 3, 9, 10, 11, 12] ?_
  simp only [nrm, lk, Nat.reduceBEq, cond_true, cond_false]
  refine kw_block ?_
  refine kw_loop (fun mm L W => ∃ i f, i ≤ q2 + 1 ∧ mm = q2 + 1 - i ∧ Hid (NInv a i f) ∧ Hid (Duo w W g x f f) ∧ Hid (Lay w W [(gs, (bv S).toArray, 29)]) ∧ L = [(0, .slice A n c), (1, .int .i64 z), (2, .int .i64 y), (3, .slice M k e), (9, .pointer (some ⟨g, 0, none⟩)), (10, .pointer (some ⟨x, 0, none⟩)), (11, .pointer (some ⟨gs, 0, none⟩)), (12, .int .i64 (i : Int))]) ⟨0, f1, by omega, rfl, J1, HD6, HL6, rfl⟩ ?_
  clear J1 HD6 HL6 f1
  rintro mm L W ⟨i, f, hi, rfl, I, D, LL, rfl⟩
  repeat (first | refine kw_seq ?_ | refine kw_region ?_ | refine kl_nil ?_ | refine kq_then ?_ | refine kw_skip ?_ | (first | refine kl_move rfl rfl (.inl rfl) rfl rfl ?_ | refine kl_move rfl rfl (.inr rfl) rfl rfl ?_ | refine kl_const rfl rfl (.inl rfl) rfl ?_ | refine kl_const rfl rfl (.inr rfl) rfl ?_) | ((first | refine kl_step rfl rfl rfl fun K hK => ?_ | refine kl_step0 rfl rfl rfl fun K hK => ?_); go_simp; (try go_bits); (first | refine hK _ _ ?_ | refine hK _ ?_); clear hK K))
  refine kl_call rfl rfl rfl Try.func11 rfl (by kernel_rfl) rfl ?_
  refine Calls.mono (within6_any z 40 40 W rfl (by omega) (by omega)) ?_
  rintro e _ ⟨rfl, rfl⟩
  refine ⟨_, rfl, ?_⟩
  rw [HQ.out]
  by_cases hil : i ≤ q2
  case pos =>
    have t1 : decide ((i : Int) ≤ (q2 : Int)) = true := by rw [decide_eq_true_eq]; omega
    have t1n : decide (i ≤ q2) = true := decide_eq_true hil
    obtain ⟨i1, hi1⟩ : ∃ i1, i + 1 = i1 := ⟨_, rfl⟩
    have i3 : (i : Int) + 1 = (i1 : Int) := by omega
    have i4 : (0 : Int) ≤ i1 := by omega
    have i5 : (i1 : Int) ≤ 41 := by have := HQL.out; omega
    have i6 : (0 : Int) ≤ i := by omega
    have i7 : (i : Int) ≤ 40 := by have := HQL.out; omega
    obtain ⟨r, hr⟩ : ∃ r, i % 2 = r := ⟨_, rfl⟩
    have b2 : Int.tmod (i : Int) 2 = (r : Int) := by rw [← hr]; rfl
    have b3 : (0 : Int) ≤ r := by omega
    have b4 : (r : Int) ≤ 1 := by omega
    obtain ⟨s, hs⟩ : ∃ s, 2 * r = s := ⟨_, rfl⟩
    have b5 : (2 : Int) * (r : Int) = (s : Int) := by omega
    have HSI : Hid (I64 (s : Int)) := by show I64 _; unfold I64; omega
    obtain ⟨f3, s1, s2⟩ := I.out.step (by have := HQL.out; omega) (s : Int) (by omega)
    rw [HSA.out] at s1
    rw [hi1] at s2
    have E3 := Lib.hid s1
    have I3 := Lib.hid s2
    have HI := Lib.hid (And.intro hi1 hil)
    clear hil hi hi1 hr hs s1 s2 I
    repeat (first | refine kw_seq ?_ | refine kw_block ?_ | refine kw_region ?_ | refine kl_nil ?_ | refine kq_then ?_ | refine kw_ift rfl ?_ | refine kw_skip ?_ | refine kl_getL LL.out 0 rfl Try.underlying29 rfl (hash_1 S HSL.out) rfl rfl rfl rfl rfl ?_ | (first | refine kl_move rfl rfl (.inl rfl) rfl rfl ?_ | refine kl_move rfl rfl (.inr rfl) rfl rfl ?_ | refine kl_const rfl rfl (.inl rfl) rfl ?_ | refine kl_const rfl rfl (.inr rfl) rfl ?_) | ((first | refine kl_step rfl rfl rfl fun K hK => ?_ | refine kl_step0 rfl rfl rfl fun K hK => ?_); go_simp; (try go_bits); (first | refine hK _ _ ?_ | refine hK _ ?_); clear hK K))
    refine kl_call rfl rfl rfl Try.func13 rfl (by kernel_rfl) rfl ?_
    refine Calls.mono (mark_any (NeQ g x) g neq_g f (s : Int) S W D.out.fs HSL.out HSI.out) ?_
    rintro e w3 ⟨rfl, hf3, hg3⟩
    refine ⟨_, rfl, ?_⟩
    have D3 := Lib.hid (D.out.fst hf3 hg3)
    rw [E3.out] at D3 ⊢
    dsimp only at D3 ⊢
    have L3 := Lib.hid (LL.out.grown hg3 D.out.ge (fun p hp => by simp at hp; subst hp; exact HNG.out))
    clear hf3 hg3 D LL
    repeat (first | refine kw_seq ?_ | refine kw_region ?_ | refine kl_nil ?_ | refine kq_then ?_ | refine kw_iff rfl ?_ | refine kw_skip ?_ | refine kl_ung rfl rfl ?_ | refine kl_getL L3.out 0 rfl Try.underlying29 rfl (hash_1 S HSL.out) rfl rfl rfl rfl rfl ?_ | (first | refine kl_move rfl rfl (.inl rfl) rfl rfl ?_ | refine kl_move rfl rfl (.inr rfl) rfl rfl ?_ | refine kl_const rfl rfl (.inl rfl) rfl ?_ | refine kl_const rfl rfl (.inr rfl) rfl ?_) | ((first | refine kl_step rfl rfl rfl fun K hK => ?_ | refine kl_step0 rfl rfl rfl fun K hK => ?_); go_simp; (try go_bits); (first | refine hK _ _ ?_ | refine hK _ ?_); clear hK K))
    refine kl_call rfl rfl rfl Try.func22 rfl (by kernel_rfl) rfl ?_
    refine Calls.mono (markR_any (NeQ g x) x neq_x f (s : Int) S w3 D3.out.rf HSL.out HSI.out) ?_
    rintro e w4 ⟨rfl, hf4, hg4⟩
    refine ⟨_, rfl, ?_⟩
    have D4 := Lib.hid (D3.out.snd hf4 hg4)
    rw [E3.out] at D4 ⊢
    dsimp only at D4 ⊢
    have L4 := Lib.hid (L3.out.grown hg4 (by have := D3.out.ge; have := D3.out.lt; omega) (fun p hp => by simp at hp; subst hp; exact HNX.out))
    clear hf4 hg4 D3 L3
    repeat (first | refine kw_seq ?_ | refine kw_block ?_ | refine kw_region ?_ | refine kl_nil ?_ | refine kq_then ?_ | refine kq_block ?_ | refine kw_iff rfl ?_ | refine kw_skip ?_ | refine kl_ung rfl rfl ?_ | (first | refine kl_move rfl rfl (.inl rfl) rfl rfl ?_ | refine kl_move rfl rfl (.inr rfl) rfl rfl ?_ | refine kl_const rfl rfl (.inl rfl) rfl ?_ | refine kl_const rfl rfl (.inr rfl) rfl ?_) | ((first | refine kl_step rfl rfl rfl fun K hK => ?_ | refine kl_step0 rfl rfl rfl fun K hK => ?_); go_simp; (try go_bits); (first | refine hK _ _ ?_ | refine hK _ ?_); clear hK K))
    refine kq_again (q2 + 1 - i1) [0, 1, 2, 3, 9, 10, 11, 12] (by have := HI.out; omega) ?_
    exact ⟨i1, f3, by have := HI.out; omega, rfl, I3, D4, L4, rfl⟩
  have t1 : decide ((i : Int) ≤ (q2 : Int)) = false := by rw [decide_eq_false_iff_not]; omega
  have t1n : decide (i ≤ q2) = false := decide_eq_false hil
  have HI41 : Hid (i ≤ 41) := by show _ ≤ _; have := HQL.out; omega
  clear hil hi
  repeat (first | refine kw_seq ?_ | refine kw_region ?_ | refine kl_nil ?_ | refine kq_then ?_ | refine kq_block ?_ | refine kw_iff rfl ?_ | refine kw_exit ?_ | refine kq_then_exit ?_ | refine kq_again_exit ?_ | refine kq_block_here rfl ?_ | refine kw_skip ?_ | (first | refine kl_move rfl rfl (.inl rfl) rfl rfl ?_ | refine kl_move rfl rfl (.inr rfl) rfl rfl ?_ | refine kl_const rfl rfl (.inl rfl) rfl ?_ | refine kl_const rfl rfl (.inr rfl) rfl ?_) | ((first | refine kl_step rfl rfl rfl fun K hK => ?_ | refine kl_step0 rfl rfl rfl fun K hK => ?_); go_simp; (try go_bits); (first | refine hK _ _ ?_ | refine hK _ ?_); clear hK K))
  clear t1 t1n HQ HQL
  refine kl_call rfl rfl rfl Try.func14 rfl (by kernel_rfl) rfl ?_
  refine Calls.mono (boot_any (NeQ g x) g f W D.out.fs) ?_
  rintro e wb7 ⟨A7, n7, c7, rfl, hB7, hT7, hn7, hc7, hb7⟩
  refine ⟨_, rfl, ?_⟩
  obtain ⟨E0, hE0⟩ : ∃ E0, (bootP f).1 = E0 := ⟨_, rfl⟩
  have HE0L : Hid (E0.sum.length = 32) := by show _ = _; rw [← hE0]; exact boot_sum f
  rw [hE0]
  have HE0 := Lib.hid hE0
  have D7 := Lib.hid (D.out.next hb7)
  have L7 := Lib.hid (LL.out.next hb7)
  clear hE0 D LL hb7 hB7 hT7 hn7 hc7
  repeat (first | (first | refine kl_move rfl rfl (.inl rfl) rfl rfl ?_ | refine kl_move rfl rfl (.inr rfl) rfl rfl ?_ | refine kl_const rfl rfl (.inl rfl) rfl ?_ | refine kl_const rfl rfl (.inr rfl) rfl ?_) | ((first | refine kl_step rfl rfl rfl fun K hK => ?_ | refine kl_step0 rfl rfl rfl fun K hK => ?_); go_simp; (try go_bits); (first | refine hK _ _ ?_ | refine hK _ ?_); clear hK K))
  refine kl_varL (z := (entC entZ).toArray) (cells := (entC E0).toArray) L7.out entZero (entInfo E0 HE0L.out) (by rw [List.size_toArray, List.size_toArray, entC_len entZ z32_len, entC_len E0 HE0L.out]) (ent_one E0) rfl rfl rfl rfl rfl rfl rfl rfl rfl ?_
  intro ge w8 hge hb8 hL8
  have HEG : Hid (ge ≠ g) := by show _ ≠ _; have := D7.out.lt; have := D7.out.xlt; omega
  have HEX : Hid (ge ≠ x) := by show _ ≠ _; have := D7.out.xlt; omega
  have D8 := Lib.hid (D7.out.next hb8)
  have L8 := Lib.hid hL8
  clear D7 L7 hb8 hL8 hge
  have hk := within_lt y 7 (by omega)
  obtain ⟨q, hq⟩ : ∃ q, within y 7 = q := ⟨_, rfl⟩
  rw [hq] at hk
  obtain ⟨r, hr⟩ : ∃ r, 1 + q = r := ⟨_, rfl⟩
  have j1 : (1 : Int) + (q : Int) = (r : Int) := by omega
  have j2 : (0 : Int) ≤ r := by omega
  have j3 : (r : Int) ≤ 7 := by omega
  have HQ := Lib.hid hq
  have HR0 : Hid (0 < r) := by show _ < _; omega
  have HRI : Hid (-9223372036854775808 ≤ (r : Int) ∧ (r : Int) ≤ 9223372036854775807) := by show _ ∧ _; omega
  clear hq hr hk
  repeat (first | refine kw_seq ?_ | refine kw_skip ?_ | refine kw_region ?_ | refine kl_nil ?_ | refine kq_then ?_ | refine kq_block ?_ | refine kw_exit ?_ | refine kq_then_exit ?_ | refine kq_block_here rfl ?_ | refine kq_block_far rfl ?_ | refine kq_again_exit ?_ | refine kw_ret ?_ | refine kq_then_ret ?_ | refine kq_block_ret ?_ | refine kq_again_ret ?_ | refine kw_ift rfl ?_ | refine kw_iff rfl ?_ | refine kl_ung rfl rfl ?_ | refine kl_skipg rfl rfl rfl rfl ?_ | refine kl_skipg0 rfl rfl rfl ?_ | (first | refine kl_move rfl rfl (.inl rfl) rfl rfl ?_ | refine kl_move rfl rfl (.inr rfl) rfl rfl ?_ | refine kl_const rfl rfl (.inl rfl) rfl ?_ | refine kl_const rfl rfl (.inr rfl) rfl ?_) | ((first | refine kl_step rfl rfl rfl fun K hK => ?_ | refine kl_step0 rfl rfl rfl fun K hK => ?_); go_simp; (try go_bits); (first | refine hK _ _ ?_ | refine hK _ ?_); clear hK K))
  refine kw_region_f (fun _ => True) [true, true, true, true, false, true, true, false] (by kernel_rfl) (by kernel_rfl) trivial ?_
  have D9 := Lib.hid (D8.out.next ((Below.refl _ _).drew))
  have L9 := Lib.hid (L8.out.next ((Below.refl _ _).drew))
  clear D8 L8
  generalize w8.drew = w9 at D9 L9 ⊢
  repeat (first | refine kf_nil ?_ | refine kf_ung rfl rfl ?_ | refine kf_skipg rfl rfl rfl rfl ?_ | (first | refine kf_move rfl rfl (.inl rfl) rfl rfl ?_ | refine kf_move rfl rfl (.inr rfl) rfl rfl ?_ | refine kf_const rfl rfl (.inl rfl) rfl ?_ | refine kf_const rfl rfl (.inr rfl) rfl ?_) | (refine kf_val rfl rfl rfl ?_; apply Exists.intro; refine And.intro (fun W hW N hN => ?_) ?_; · (go_simp; (try go_bits); exact hN)))
  refine kf_ch ?_
  refine kl_call rfl rfl rfl Try.func11 rfl (by kernel_rfl) rfl ?_
  refine Calls.mono (within6_any y 7 7 _ rfl (by omega) (by omega)) ?_
  rintro e _ ⟨rfl, rfl⟩
  rw [HQ.out]
  refine ⟨_, rfl, ?_⟩
  refine kl_nil ?_
  refine kq_f trivial ?_
  repeat (first | refine kf_nil ?_ | refine kf_ung rfl rfl ?_ | refine kf_skipg rfl rfl rfl rfl ?_ | (first | refine kf_move rfl rfl (.inl rfl) rfl rfl ?_ | refine kf_move rfl rfl (.inr rfl) rfl rfl ?_ | refine kf_const rfl rfl (.inl rfl) rfl ?_ | refine kf_const rfl rfl (.inr rfl) rfl ?_) | (refine kf_val rfl rfl rfl ?_; apply Exists.intro; refine And.intro (fun W hW N hN => ?_) ?_; · (go_simp; (try go_bits); exact hN)))
  refine kf_ch ?_
  refine kl_call rfl rfl rfl Try.func23 rfl (by kernel_rfl) rfl ?_
  refine Calls.mono (stop_any (NeQ g x) g f r M k e mk w9 D9.out.fs D9.out.fresh HRI.out (HM.out.keep D9.out.keeps) (by have := HNK.out; omega)) ?_
  rintro e w10 ⟨rfl, hf10, hg10⟩
  have D10 := Lib.hid (D9.out.fst hf10 hg10)
  have L10 := Lib.hid (L9.out.grown hg10 D9.out.ge (fun p hp => by simp at hp; rcases hp with rfl | rfl; exact HEG.out; exact HNG.out))
  clear D9 L9 hf10 hg10
  refine ⟨_, rfl, ?_⟩
  refine kl_nil ?_
  refine kq_f trivial ?_
  repeat (first | refine kf_nil ?_ | refine kf_ung rfl rfl ?_ | refine kf_skipg rfl rfl rfl rfl ?_ | (first | refine kf_move rfl rfl (.inl rfl) rfl rfl ?_ | refine kf_move rfl rfl (.inr rfl) rfl rfl ?_ | refine kf_const rfl rfl (.inl rfl) rfl ?_ | refine kf_const rfl rfl (.inr rfl) rfl ?_) | (refine kf_val rfl rfl rfl ?_; apply Exists.intro; refine And.intro (fun W hW N hN => ?_) ?_; · (go_simp; (try go_bits); exact hN)))
  refine kq_then ?_
  repeat (first | refine kw_seq ?_ | refine kw_skip ?_ | refine kw_region ?_ | refine kl_nil ?_ | refine kq_then ?_ | refine kq_block ?_ | refine kw_exit ?_ | refine kq_then_exit ?_ | refine kq_block_here rfl ?_ | refine kq_block_far rfl ?_ | refine kq_again_exit ?_ | refine kw_ret ?_ | refine kq_then_ret ?_ | refine kq_block_ret ?_ | refine kq_again_ret ?_ | refine kw_ift rfl ?_ | refine kw_iff rfl ?_ | refine kl_ung rfl rfl ?_ | refine kl_skipg rfl rfl rfl rfl ?_ | refine kl_skipg0 rfl rfl rfl ?_ | (first | refine kl_move rfl rfl (.inl rfl) rfl rfl ?_ | refine kl_move rfl rfl (.inr rfl) rfl rfl ?_ | refine kl_const rfl rfl (.inl rfl) rfl ?_ | refine kl_const rfl rfl (.inr rfl) rfl ?_) | ((first | refine kl_step rfl rfl rfl fun K hK => ?_ | refine kl_step0 rfl rfl rfl fun K hK => ?_); go_simp; (try go_bits); (first | refine hK _ _ ?_ | refine hK _ ?_); clear hK K))
  refine kl_call rfl rfl rfl Try.func11 rfl (by kernel_rfl) rfl ?_
  refine Calls.mono (within6_any y 7 7 _ rfl (by omega) (by omega)) ?_
  rintro e _ ⟨rfl, rfl⟩
  refine ⟨_, rfl, ?_⟩
  rw [HQ.out]
  repeat (first | refine kw_seq ?_ | refine kw_skip ?_ | refine kw_region ?_ | refine kl_nil ?_ | refine kq_then ?_ | refine kq_block ?_ | refine kw_exit ?_ | refine kq_then_exit ?_ | refine kq_block_here rfl ?_ | refine kq_block_far rfl ?_ | refine kq_again_exit ?_ | refine kw_ret ?_ | refine kq_then_ret ?_ | refine kq_block_ret ?_ | refine kq_again_ret ?_ | refine kw_ift rfl ?_ | refine kw_iff rfl ?_ | refine kl_ung rfl rfl ?_ | refine kl_skipg rfl rfl rfl rfl ?_ | refine kl_skipg0 rfl rfl rfl ?_ | (first | refine kl_move rfl rfl (.inl rfl) rfl rfl ?_ | refine kl_move rfl rfl (.inr rfl) rfl rfl ?_ | refine kl_const rfl rfl (.inl rfl) rfl ?_ | refine kl_const rfl rfl (.inr rfl) rfl ?_) | ((first | refine kl_step rfl rfl rfl fun K hK => ?_ | refine kl_step0 rfl rfl rfl fun K hK => ?_); go_simp; (try go_bits); (first | refine hK _ _ ?_ | refine hK _ ?_); clear hK K))
  refine kl_call rfl rfl rfl Try.func24 rfl (by kernel_rfl) rfl ?_
  refine Calls.mono (refStop_any (NeQ g x) x neq_x f r M k e mk w10 D10.out.rf D10.out.fresh HRI.out (HM.out.keep D10.out.keeps) (by have := HNK.out; omega)) ?_
  rintro e w11 ⟨rfl, hf11, hg11⟩
  refine ⟨_, rfl, ?_⟩
  have D11 := Lib.hid (D10.out.snd hf11 hg11)
  have L11 := Lib.hid (L10.out.grown hg11 (by have := D10.out.ge; have := D10.out.lt; omega) (fun p hp => by simp at hp; rcases hp with rfl | rfl; exact HEX.out; exact HNX.out))
  clear D10 L10 hf11 hg11
  obtain ⟨R, hR⟩ : ∃ R, markP (stopF f (r : Int) mk) 0 S = R := ⟨_, rfl⟩
  have HT := torn_law a i f I.out (by have := HI41.out; omega) r HR0.out mk R (by rw [HSA.out]; exact hR)
  have HT := Lib.hid HT
  have HR := Lib.hid hR
  clear hR I
  repeat (first | refine kw_seq ?_ | refine kw_region ?_ | refine kl_nil ?_ | refine kq_then ?_ | refine kl_getL L11.out 1 rfl Try.underlying29 rfl (hash_1 S HSL.out) rfl rfl rfl rfl rfl ?_ | (first | refine kl_move rfl rfl (.inl rfl) rfl rfl ?_ | refine kl_move rfl rfl (.inr rfl) rfl rfl ?_ | refine kl_const rfl rfl (.inl rfl) rfl ?_ | refine kl_const rfl rfl (.inr rfl) rfl ?_) | ((first | refine kl_step rfl rfl rfl fun K hK => ?_ | refine kl_step0 rfl rfl rfl fun K hK => ?_); go_simp; (try go_bits); (first | refine hK _ _ ?_ | refine hK _ ?_); clear hK K))
  refine kl_call rfl rfl rfl Try.func13 rfl (by kernel_rfl) rfl ?_
  refine Calls.mono (mark_any (NeQ g x) g neq_g _ 0 S w11 D11.out.fs HSL.out (by unfold I64; omega)) ?_
  rintro e w12 ⟨rfl, hf12, hg12⟩
  refine ⟨_, rfl, ?_⟩
  have D12 := Lib.hid (D11.out.fst hf12 hg12)
  rw [HR.out] at D12 ⊢
  have L12 := Lib.hid (L11.out.grown hg12 D11.out.ge (fun p hp => by simp at hp; rcases hp with rfl | rfl; exact HEG.out; exact HNG.out))
  clear hf12 hg12 D11 L11
  repeat (first | refine kw_seq ?_ | refine kw_region ?_ | refine kl_nil ?_ | refine kq_then ?_ | refine kl_getL L12.out 1 rfl Try.underlying29 rfl (hash_1 S HSL.out) rfl rfl rfl rfl rfl ?_ | (first | refine kl_move rfl rfl (.inl rfl) rfl rfl ?_ | refine kl_move rfl rfl (.inr rfl) rfl rfl ?_ | refine kl_const rfl rfl (.inl rfl) rfl ?_ | refine kl_const rfl rfl (.inr rfl) rfl ?_) | ((first | refine kl_step rfl rfl rfl fun K hK => ?_ | refine kl_step0 rfl rfl rfl fun K hK => ?_); go_simp; (try go_bits); (first | refine hK _ _ ?_ | refine hK _ ?_); clear hK K))
  refine kl_call rfl rfl rfl Try.func22 rfl (by kernel_rfl) rfl ?_
  refine Calls.mono (markR_any (NeQ g x) x neq_x _ 0 S w12 D12.out.rf HSL.out (by unfold I64; omega)) ?_
  rintro e w13 ⟨rfl, hf13, hg13⟩
  refine ⟨_, rfl, ?_⟩
  have D13 := Lib.hid (D12.out.snd hf13 hg13)
  rw [HR.out] at D13 ⊢
  have L13 := Lib.hid (L12.out.grown hg13 (by have := D12.out.ge; have := D12.out.lt; omega) (fun p hp => by simp at hp; rcases hp with rfl | rfl; exact HEX.out; exact HNX.out))
  clear hf13 hg13 D12 L12 HR
  obtain ⟨v, F⟩ := R
  dsimp only at D13 HT ⊢
  have e1 : (v != v) = false := by simp
  repeat (first | refine kw_seq ?_ | refine kw_region ?_ | refine kl_nil ?_ | refine kq_then ?_ | refine kw_iff rfl ?_ | refine kw_skip ?_ | (first | refine kl_move rfl rfl (.inl rfl) rfl rfl ?_ | refine kl_move rfl rfl (.inr rfl) rfl rfl ?_ | refine kl_const rfl rfl (.inl rfl) rfl ?_ | refine kl_const rfl rfl (.inr rfl) rfl ?_) | ((first | refine kl_step rfl rfl rfl fun K hK => ?_ | refine kl_step0 rfl rfl rfl fun K hK => ?_); go_simp; (try go_bits); (first | refine hK _ _ ?_ | refine hK _ ?_); clear hK K))
  clear e1
  refine kl_call rfl rfl rfl Try.func25 rfl (by kernel_rfl) rfl ?_
  refine Calls.mono (start_any (NeQ g x) g _ w13 D13.out.fs) ?_
  rintro e w14 ⟨rfl, hf14, hg14⟩
  refine ⟨_, rfl, ?_⟩
  have D14 := Lib.hid (D13.out.fst hf14 hg14)
  have L14 := Lib.hid (L13.out.grown hg14 D13.out.ge (fun p hp => by simp at hp; rcases hp with rfl | rfl; exact HEG.out; exact HNG.out))
  clear hf14 hg14 D13 L13
  repeat (first | refine kw_seq ?_ | refine kw_skip ?_ | refine kw_region ?_ | refine kl_nil ?_ | refine kq_then ?_ | refine kq_block ?_ | refine kw_exit ?_ | refine kq_then_exit ?_ | refine kq_block_here rfl ?_ | refine kq_block_far rfl ?_ | refine kq_again_exit ?_ | refine kw_ret ?_ | refine kq_then_ret ?_ | refine kq_block_ret ?_ | refine kq_again_ret ?_ | refine kw_ift rfl ?_ | refine kw_iff rfl ?_ | refine kl_ung rfl rfl ?_ | refine kl_skipg rfl rfl rfl rfl ?_ | refine kl_skipg0 rfl rfl rfl ?_ | (first | refine kl_move rfl rfl (.inl rfl) rfl rfl ?_ | refine kl_move rfl rfl (.inr rfl) rfl rfl ?_ | refine kl_const rfl rfl (.inl rfl) rfl ?_ | refine kl_const rfl rfl (.inr rfl) rfl ?_) | ((first | refine kl_step rfl rfl rfl fun K hK => ?_ | refine kl_step0 rfl rfl rfl fun K hK => ?_); go_simp; (try go_bits); (first | refine hK _ _ ?_ | refine hK _ ?_); clear hK K))
  refine kl_call rfl rfl rfl Try.func26 rfl (by kernel_rfl) rfl ?_
  refine Calls.mono (refStart_any (NeQ g x) x _ w14 D14.out.rf) ?_
  rintro e w15 ⟨rfl, hf15, hg15⟩
  refine ⟨_, rfl, ?_⟩
  have D15 := Lib.hid (D14.out.snd hf15 hg15)
  have L15 := Lib.hid (L14.out.grown hg15 (by have := D14.out.ge; have := D14.out.lt; omega) (fun p hp => by simp at hp; rcases hp with rfl | rfl; exact HEX.out; exact HNX.out))
  clear hf15 hg15 D14 L14
  obtain ⟨G, hG⟩ : ∃ G, startF F = G := ⟨_, rfl⟩
  rw [hG] at D15 HT
  clear hG
  repeat (first | refine kw_seq ?_ | refine kw_skip ?_ | refine kw_region ?_ | refine kl_nil ?_ | refine kq_then ?_ | refine kq_block ?_ | refine kw_exit ?_ | refine kq_then_exit ?_ | refine kq_block_here rfl ?_ | refine kq_block_far rfl ?_ | refine kq_again_exit ?_ | refine kw_ret ?_ | refine kq_then_ret ?_ | refine kq_block_ret ?_ | refine kq_again_ret ?_ | refine kw_ift rfl ?_ | refine kw_iff rfl ?_ | refine kl_ung rfl rfl ?_ | refine kl_skipg rfl rfl rfl rfl ?_ | refine kl_skipg0 rfl rfl rfl ?_ | (first | refine kl_move rfl rfl (.inl rfl) rfl rfl ?_ | refine kl_move rfl rfl (.inr rfl) rfl rfl ?_ | refine kl_const rfl rfl (.inl rfl) rfl ?_ | refine kl_const rfl rfl (.inr rfl) rfl ?_) | ((first | refine kl_step rfl rfl rfl fun K hK => ?_ | refine kl_step0 rfl rfl rfl fun K hK => ?_); go_simp; (try go_bits); (first | refine hK _ _ ?_ | refine hK _ ?_); clear hK K))
  refine kl_call rfl rfl rfl Try.func14 rfl (by kernel_rfl) rfl ?_
  refine Calls.mono (boot_any (NeQ g x) g G w15 D15.out.fs) ?_
  rintro e w16 ⟨A8, n8, c8, rfl, hB8, hT8, hn8, hc8, hb16⟩
  refine ⟨_, rfl, ?_⟩
  obtain ⟨E1, hE1⟩ : ∃ E1, (bootP G).1 = E1 := ⟨_, rfl⟩
  have HE1L : Hid (E1.sum.length = 32) := by show _ = _; rw [← hE1]; exact boot_sum G
  rw [hE1, HE0.out, HSA.out] at HT
  rw [hE1]
  have HE1 := Lib.hid hE1
  have D16 := Lib.hid (D15.out.next hb16)
  have L16 := Lib.hid (L15.out.next hb16)
  clear hE1 D15 L15 hb16 hB8 hT8 hn8 hc8
  repeat (first | (first | refine kl_move rfl rfl (.inl rfl) rfl rfl ?_ | refine kl_move rfl rfl (.inr rfl) rfl rfl ?_ | refine kl_const rfl rfl (.inl rfl) rfl ?_ | refine kl_const rfl rfl (.inr rfl) rfl ?_) | ((first | refine kl_step rfl rfl rfl fun K hK => ?_ | refine kl_step0 rfl rfl rfl fun K hK => ?_); go_simp; (try go_bits); (first | refine hK _ _ ?_ | refine hK _ ?_); clear hK K))
  refine kl_varL (z := (entC entZ).toArray) (cells := (entC E1).toArray) L16.out entZero (entInfo E1 HE1L.out) (by rw [List.size_toArray, List.size_toArray, entC_len entZ z32_len, entC_len E1 HE1L.out]) (ent_one E1) rfl rfl rfl rfl rfl rfl rfl rfl rfl ?_
  intro gn w17 hgn hb17 hL17
  have D17 := Lib.hid (D16.out.next hb17)
  have L17 := Lib.hid hL17
  clear D16 L16 hb17 hL17 hgn
  repeat (first | refine kw_seq ?_ | refine kw_skip ?_ | refine kw_region ?_ | refine kl_nil ?_ | refine kq_then ?_ | refine kq_block ?_ | refine kw_exit ?_ | refine kq_then_exit ?_ | refine kq_block_here rfl ?_ | refine kq_block_far rfl ?_ | refine kq_again_exit ?_ | refine kw_ret ?_ | refine kq_then_ret ?_ | refine kq_block_ret ?_ | refine kq_again_ret ?_ | refine kw_ift rfl ?_ | refine kw_iff rfl ?_ | refine kl_ung rfl rfl ?_ | refine kl_skipg rfl rfl rfl rfl ?_ | refine kl_skipg0 rfl rfl rfl ?_ | (first | refine kl_move rfl rfl (.inl rfl) rfl rfl ?_ | refine kl_move rfl rfl (.inr rfl) rfl rfl ?_ | refine kl_const rfl rfl (.inl rfl) rfl ?_ | refine kl_const rfl rfl (.inr rfl) rfl ?_) | ((first | refine kl_step rfl rfl rfl fun K hK => ?_ | refine kl_step0 rfl rfl rfl fun K hK => ?_); go_simp; (try go_bits); (first | refine hK _ _ ?_ | refine hK _ ?_); clear hK K))
  refine kl_call rfl rfl rfl Try.func27 rfl (by kernel_rfl) rfl ?_
  refine Calls.mono (bootR_any (NeQ g x) x G w17 D17.out.rf) ?_
  rintro e w18 ⟨A9, n9, c9, rfl, hB9, hT9, hn9, hc9, hb18⟩
  refine ⟨_, rfl, ?_⟩
  rw [HE1.out]
  have D18 := Lib.hid (D17.out.next hb18)
  have L18 := Lib.hid (L17.out.next hb18)
  clear D17 L17 hb18 hB9 hT9 hn9 hc9
  repeat (first | (first | refine kl_move rfl rfl (.inl rfl) rfl rfl ?_ | refine kl_move rfl rfl (.inr rfl) rfl rfl ?_ | refine kl_const rfl rfl (.inl rfl) rfl ?_ | refine kl_const rfl rfl (.inr rfl) rfl ?_) | ((first | refine kl_step rfl rfl rfl fun K hK => ?_ | refine kl_step0 rfl rfl rfl fun K hK => ?_); go_simp; (try go_bits); (first | refine hK _ _ ?_ | refine hK _ ?_); clear hK K))
  refine kl_varL (z := (entC entZ).toArray) (cells := (entC E1).toArray) L18.out rentZero (rentInfo E1 HE1L.out) (by rw [List.size_toArray, List.size_toArray, entC_len entZ z32_len, entC_len E1 HE1L.out]) (ent_one E1) rfl rfl rfl rfl rfl rfl rfl rfl rfl ?_
  intro gr w19 hgr hb19 hL19
  have D19 := Lib.hid (D18.out.next hb19)
  have L19 := Lib.hid hL19
  clear D18 L18 hb19 hL19 hgr
  repeat (first | (first | refine kl_move rfl rfl (.inl rfl) rfl rfl ?_ | refine kl_move rfl rfl (.inr rfl) rfl rfl ?_ | refine kl_const rfl rfl (.inl rfl) rfl ?_ | refine kl_const rfl rfl (.inr rfl) rfl ?_) | refine kl_nil ?_)
  refine kq_then ?_
  refine kw_seq ?_
  have D20 := Lib.hid (D19.out.next ((Below.refl _ _).drew))
  have L20 := Lib.hid (L19.out.next ((Below.refl _ _).drew))
  have hR := (Hold.cons (L20.out.at_ 0 rfl) (Hold.cons (L20.out.at_ 1 rfl) (Hold.nil _)))
  have he : ∀ W, (Op.equalIn 10000 59 (.agg (entC E1).toArray) (.agg (entC E1).toArray)).run Try.prog W = .ok true W := fun W => by rw [reqEnt W E1 E1 HE1L.out HE1L.out, eqE_self]
  refine kw_region_f (Hold [(gr, .cells (entC E1).toArray 59 (0, 0)), (gn, .cells (entC E1).toArray 31 (0, 0))]) [true, false, true, true] (by kernel_rfl) (by kernel_rfl) hR ?_
  clear D19 L19
  generalize w19.drew = w20 at *
  repeat (first | refine kf_nil ?_ | refine kf_ung rfl rfl ?_ | refine kf_skipg rfl rfl rfl rfl ?_ | refine kf_load_row 1 rfl Try.underlying31 rfl (entInfoL E1 HE1L.out) rfl rfl rfl rfl rfl ?_ | refine kf_load_row 0 rfl Try.underlying59 rfl (rentInfoL E1 HE1L.out) rfl rfl rfl rfl rfl ?_ | (first | refine kf_move rfl rfl (.inl rfl) rfl rfl ?_ | refine kf_move rfl rfl (.inr rfl) rfl rfl ?_ | refine kf_const rfl rfl (.inl rfl) rfl ?_ | refine kf_const rfl rfl (.inr rfl) rfl ?_) | (refine kf_val rfl rfl rfl ?_; apply Exists.intro; refine And.intro (fun W hW N hN => ?_) ?_; · (go_simp; (try go_bits); exact hN)))
  refine kf_ch ?_
  refine kl_call rfl rfl rfl Try.func28 rfl (by kernel_rfl) rfl ?_
  refine Calls.mono (of_any E1 w20 HE1L.out) ?_
  rintro e w21 ⟨rfl, hb21⟩
  refine ⟨_, rfl, ?_⟩
  refine kl_nil ?_
  refine kq_f (hR.below hb21) ?_
  have D21 := Lib.hid (D20.out.next hb21)
  have L21 := Lib.hid (L20.out.next hb21)
  clear D20 L20 hb21 hR
  repeat (first | refine kf_nil ?_ | refine kf_ung rfl rfl ?_ | refine kf_skipg rfl rfl rfl rfl ?_ | refine kf_load_row 1 rfl Try.underlying31 rfl (entInfoL E1 HE1L.out) rfl rfl rfl rfl rfl ?_ | refine kf_load_row 0 rfl Try.underlying59 rfl (rentInfoL E1 HE1L.out) rfl rfl rfl rfl rfl ?_ | (first | refine kf_move rfl rfl (.inl rfl) rfl rfl ?_ | refine kf_move rfl rfl (.inr rfl) rfl rfl ?_ | refine kf_const rfl rfl (.inl rfl) rfl ?_ | refine kf_const rfl rfl (.inr rfl) rfl ?_) | (refine kf_val rfl rfl rfl ?_; apply Exists.intro; refine And.intro (fun W hW N hN => ?_) ?_; · (go_simp; (try go_bits); exact hN)))
  refine kq_then ?_
  clear he
  repeat (first | refine kw_seq ?_ | refine kw_region ?_ | refine kl_nil ?_ | refine kq_then ?_ | refine kw_iff rfl ?_ | refine kw_skip ?_ | (first | refine kl_move rfl rfl (.inl rfl) rfl rfl ?_ | refine kl_move rfl rfl (.inr rfl) rfl rfl ?_ | refine kl_const rfl rfl (.inl rfl) rfl ?_ | refine kl_const rfl rfl (.inr rfl) rfl ?_) | ((first | refine kl_step rfl rfl rfl fun K hK => ?_ | refine kl_step0 rfl rfl rfl fun K hK => ?_); go_simp; (try go_bits); (first | refine hK _ _ ?_ | refine hK _ ?_); clear hK K))
  refine kl_call rfl rfl rfl Try.func27 rfl (by kernel_rfl) rfl ?_
  refine Calls.mono (bootR_any (NeQ g x) x G w21 D21.out.rf) ?_
  rintro e w22 ⟨A10, n10, c10, rfl, hB10, hT10, hn10, hc10, hb22⟩
  refine ⟨_, rfl, ?_⟩
  rw [HE1.out]
  have D22 := Lib.hid (D21.out.next hb22)
  have L22 := Lib.hid (L21.out.next hb22)
  clear D21 L21 hb22 hB10 hT10 hn10 hc10
  repeat (first | (first | refine kl_move rfl rfl (.inl rfl) rfl rfl ?_ | refine kl_move rfl rfl (.inr rfl) rfl rfl ?_ | refine kl_const rfl rfl (.inl rfl) rfl ?_ | refine kl_const rfl rfl (.inr rfl) rfl ?_) | ((first | refine kl_step rfl rfl rfl fun K hK => ?_ | refine kl_step0 rfl rfl rfl fun K hK => ?_); go_simp; (try go_bits); (first | refine hK _ _ ?_ | refine hK _ ?_); clear hK K))
  refine kl_varL (z := (entC entZ).toArray) (cells := (entC E1).toArray) L22.out rentZero (rentInfo E1 HE1L.out) (by rw [List.size_toArray, List.size_toArray, entC_len entZ z32_len, entC_len E1 HE1L.out]) (ent_one E1) rfl rfl rfl rfl rfl rfl rfl rfl rfl ?_
  intro gq w23 hgq hb23 hL23
  have D23 := Lib.hid (D22.out.next hb23)
  have L23 := Lib.hid hL23
  clear D22 L22 hb23 hL23 hgq
  repeat (first | (first | refine kl_move rfl rfl (.inl rfl) rfl rfl ?_ | refine kl_move rfl rfl (.inr rfl) rfl rfl ?_ | refine kl_const rfl rfl (.inl rfl) rfl ?_ | refine kl_const rfl rfl (.inr rfl) rfl ?_) | refine kl_nil ?_)
  refine kq_then ?_
  refine kw_seq ?_
  have D24 := Lib.hid (D23.out.next ((Below.refl _ _).drew))
  have L24 := Lib.hid (L23.out.next ((Below.refl _ _).drew))
  have hR := (Hold.cons (L24.out.at_ 0 rfl) (Hold.cons (L24.out.at_ 3 rfl) (Hold.nil _)))
  obtain ⟨bb, hbb⟩ : ∃ bb, eqE E1 E0 = bb := ⟨_, rfl⟩
  have he : ∀ W, (Op.equalIn 10000 59 (.agg (entC E1).toArray) (.agg (entC E0).toArray)).run Try.prog W = .ok bb W := fun W => by rw [reqEnt W E1 E0 HE1L.out HE0L.out, hbb]
  have he2 : ∀ W, (Op.equalIn 10000 31 (.agg (entC E1).toArray) (.agg (entC E0).toArray)).run Try.prog W = .ok bb W := fun W => by rw [eqEnt W E1 E0 HE1L.out HE0L.out, hbb]
  have HBB := Lib.hid hbb
  have hb0 := boot_seq f
  rw [HE0.out] at hb0
  obtain ⟨hb1, hb2⟩ := hb0
  obtain ⟨p, hp⟩ : ∃ p, E0.seq + 1 = p := ⟨_, rfl⟩
  rw [hp] at HT
  have c1 : ∀ W, Hold [(gq, .cells (entC E1).toArray 59 (0, 0)), (ge, .cells (entC E0).toArray 31 (0, 0))] W → W.cell? ⟨gq, 0, none⟩ = some (.int .i64 E1.seq) := Hold.cell (cs := entC E1) 0 rfl rfl
  have c2 : ∀ W, Hold [(gq, .cells (entC E1).toArray 59 (0, 0)), (ge, .cells (entC E0).toArray 31 (0, 0))] W → W.cell? ⟨gq, 1, none⟩ = some (.int .i64 E1.slot) := Hold.cell (cs := entC E1) 0 rfl rfl
  have c3 : ∀ W, Hold [(gq, .cells (entC E1).toArray 59 (0, 0)), (ge, .cells (entC E0).toArray 31 (0, 0))] W → W.cell? ⟨ge, 0, none⟩ = some (.int .i64 E0.seq) := Hold.cell (cs := entC E0) 1 rfl rfl
  clear hbb
  refine kw_region_f (Hold [(gq, .cells (entC E1).toArray 59 (0, 0)), (ge, .cells (entC E0).toArray 31 (0, 0))]) [true, true, false, true, true, true, true, true, true, true, true, true, true, true, true, true, true] (by kernel_rfl) (by kernel_rfl) hR ?_
  clear D23 L23
  generalize w23.drew = w24 at *
  repeat (first | refine kf_nil ?_ | refine kf_ung rfl rfl ?_ | refine kf_skipg rfl rfl rfl rfl ?_ | refine kf_load_row 0 rfl Try.underlying59 rfl (rentInfoL E1 HE1L.out) rfl rfl rfl rfl rfl ?_ | refine kf_load_row 1 rfl Try.underlying31 rfl (entInfoL E0 HE0L.out) rfl rfl rfl rfl rfl ?_ | (first | refine kf_move rfl rfl (.inl rfl) rfl rfl ?_ | refine kf_move rfl rfl (.inr rfl) rfl rfl ?_ | refine kf_const rfl rfl (.inl rfl) rfl ?_ | refine kf_const rfl rfl (.inr rfl) rfl ?_) | (refine kf_val rfl rfl rfl ?_; apply Exists.intro; refine And.intro (fun W hW N hN => ?_) ?_; · (go_simp; (try go_bits); exact hN)))
  refine kf_ch ?_
  refine kl_call rfl rfl rfl Try.func28 rfl (by kernel_rfl) rfl ?_
  refine Calls.mono (of_any E0 w24 HE0L.out) ?_
  rintro e w25 ⟨rfl, hb25⟩
  refine ⟨_, rfl, ?_⟩
  refine kl_nil ?_
  refine kq_f (hR.below hb25) ?_
  have D25 := Lib.hid (D24.out.next hb25)
  have L25 := Lib.hid (L24.out.next hb25)
  clear D24 L24 hb25 hR
  have HT2 := HT.out
  clear HT
  rcases HT2 with ⟨h1, h2⟩ | ⟨h1, h2⟩ | ⟨h1, h2, h3, h4⟩
  · obtain rfl : bb = false := by rw [← HBB.out, Bool.eq_false_iff]; intro h; exact h1 ((eqE_iff _ _).1 h)
    by_cases hs : E1.seq = p
    · have q1 : (E1.seq != p) = false := by rw [hs]; simp
      have q2 : (E1.slot != 0) = true := bne_iff_ne.2 (h2.resolve_left (fun h => h hs))
      clear hs h1 h2
      repeat (first | refine kf_nil ?_ | refine kf_ung rfl rfl ?_ | refine kf_skipg rfl rfl rfl rfl ?_ | (first | refine kf_move rfl rfl (.inl rfl) rfl rfl ?_ | refine kf_move rfl rfl (.inr rfl) rfl rfl ?_ | refine kf_const rfl rfl (.inl rfl) rfl ?_ | refine kf_const rfl rfl (.inr rfl) rfl ?_) | (refine kf_val rfl rfl rfl ?_; apply Exists.intro; refine And.intro (fun W hW N hN => ?_) ?_; · (go_simp; (try go_bits); exact hN)))
      refine kq_then ?_
      clear he he2 c1 c2 c3
      repeat (first | refine kw_seq ?_ | refine kw_block ?_ | refine kw_skip ?_ | refine kw_region ?_ | refine kl_nil ?_ | refine kq_then ?_ | refine kq_block ?_ | refine kw_exit ?_ | refine kq_then_exit ?_ | refine kq_block_here rfl ?_ | refine kq_block_far rfl ?_ | refine kq_again_exit ?_ | refine kw_ret ?_ | refine kq_then_ret ?_ | refine kq_block_ret ?_ | refine kq_again_ret ?_ | refine kw_ift rfl ?_ | refine kw_iff rfl ?_ | refine kl_ung rfl rfl ?_ | refine kl_skipg rfl rfl rfl rfl ?_ | refine kl_skipg0 rfl rfl rfl ?_ | (first | refine kl_move rfl rfl (.inl rfl) rfl rfl ?_ | refine kl_move rfl rfl (.inr rfl) rfl rfl ?_ | refine kl_const rfl rfl (.inl rfl) rfl ?_ | refine kl_const rfl rfl (.inr rfl) rfl ?_) | ((first | refine kl_step rfl rfl rfl fun K hK => ?_ | refine kl_step0 rfl rfl rfl fun K hK => ?_); go_simp; (try go_bits); (first | refine hK _ _ ?_ | refine hK _ ?_); clear hK K))
      exact kq_ret1 rfl rfl ⟨rfl, D25.out.bel⟩
    · have q1 : (E1.seq != p) = true := bne_iff_ne.2 hs
      clear hs h1 h2
      repeat (first | refine kf_nil ?_ | refine kf_ung rfl rfl ?_ | refine kf_skipg rfl rfl rfl rfl ?_ | (first | refine kf_move rfl rfl (.inl rfl) rfl rfl ?_ | refine kf_move rfl rfl (.inr rfl) rfl rfl ?_ | refine kf_const rfl rfl (.inl rfl) rfl ?_ | refine kf_const rfl rfl (.inr rfl) rfl ?_) | (refine kf_val rfl rfl rfl ?_; apply Exists.intro; refine And.intro (fun W hW N hN => ?_) ?_; · (go_simp; (try go_bits); exact hN)))
      refine kq_then ?_
      clear he he2 c1 c2 c3
      repeat (first | refine kw_seq ?_ | refine kw_block ?_ | refine kw_skip ?_ | refine kw_region ?_ | refine kl_nil ?_ | refine kq_then ?_ | refine kq_block ?_ | refine kw_exit ?_ | refine kq_then_exit ?_ | refine kq_block_here rfl ?_ | refine kq_block_far rfl ?_ | refine kq_again_exit ?_ | refine kw_ret ?_ | refine kq_then_ret ?_ | refine kq_block_ret ?_ | refine kq_again_ret ?_ | refine kw_ift rfl ?_ | refine kw_iff rfl ?_ | refine kl_ung rfl rfl ?_ | refine kl_skipg rfl rfl rfl rfl ?_ | refine kl_skipg0 rfl rfl rfl ?_ | (first | refine kl_move rfl rfl (.inl rfl) rfl rfl ?_ | refine kl_move rfl rfl (.inr rfl) rfl rfl ?_ | refine kl_const rfl rfl (.inl rfl) rfl ?_ | refine kl_const rfl rfl (.inr rfl) rfl ?_) | ((first | refine kl_step rfl rfl rfl fun K hK => ?_ | refine kl_step0 rfl rfl rfl fun K hK => ?_); go_simp; (try go_bits); (first | refine hK _ _ ?_ | refine hK _ ?_); clear hK K))
      exact kq_ret1 rfl rfl ⟨rfl, D25.out.bel⟩
  · obtain rfl : bb = true := by rw [← HBB.out]; exact (eqE_iff _ _).2 h1
    have q1 : (v != 0) = true := bne_iff_ne.2 h2
    clear h1 h2
    repeat (first | refine kf_nil ?_ | refine kf_ung rfl rfl ?_ | refine kf_skipg rfl rfl rfl rfl ?_ | (first | refine kf_move rfl rfl (.inl rfl) rfl rfl ?_ | refine kf_move rfl rfl (.inr rfl) rfl rfl ?_ | refine kf_const rfl rfl (.inl rfl) rfl ?_ | refine kf_const rfl rfl (.inr rfl) rfl ?_) | (refine kf_val rfl rfl rfl ?_; apply Exists.intro; refine And.intro (fun W hW N hN => ?_) ?_; · (go_simp; (try go_bits); exact hN)))
    refine kq_then ?_
    clear he c1 c2 c3
    repeat (first | refine kw_seq ?_ | refine kw_block ?_ | refine kw_skip ?_ | refine kw_region ?_ | refine kl_nil ?_ | refine kq_then ?_ | refine kq_block ?_ | refine kw_exit ?_ | refine kq_then_exit ?_ | refine kq_block_here rfl ?_ | refine kq_block_far rfl ?_ | refine kq_again_exit ?_ | refine kw_ret ?_ | refine kq_then_ret ?_ | refine kq_block_ret ?_ | refine kq_again_ret ?_ | refine kw_ift rfl ?_ | refine kw_iff rfl ?_ | refine kl_ung rfl rfl ?_ | refine kl_skipg rfl rfl rfl rfl ?_ | refine kl_skipg0 rfl rfl rfl ?_ | refine kl_getL L25.out 2 rfl Try.underlying31 rfl (entInfo E1 HE1L.out) rfl rfl rfl rfl rfl ?_ | refine kl_getL L25.out 3 rfl Try.underlying31 rfl (entInfo E0 HE0L.out) rfl rfl rfl rfl rfl ?_ | refine kl_load_mid 29 gn 2 _ _ q5 Try.underlying29 rfl (hashSize _ HE1L.out) rfl rfl rfl rfl rfl ?_ | refine kl_getL L25.out 4 rfl Try.underlying29 rfl (hash_1 S HSL.out) rfl rfl rfl rfl rfl ?_ | (first | refine kl_move rfl rfl (.inl rfl) rfl rfl ?_ | refine kl_move rfl rfl (.inr rfl) rfl rfl ?_ | refine kl_const rfl rfl (.inl rfl) rfl ?_ | refine kl_const rfl rfl (.inr rfl) rfl ?_) | ((first | refine kl_step rfl rfl rfl fun K hK => ?_ | refine kl_step0 rfl rfl rfl fun K hK => ?_); go_simp; (try go_bits); (first | refine hK _ _ ?_ | refine hK _ ?_); clear hK K))
    exact kq_ret1 rfl rfl ⟨rfl, D25.out.bel⟩
  · obtain rfl : bb = false := by rw [← HBB.out, Bool.eq_false_iff]; intro h; exact h1 ((eqE_iff _ _).1 h)
    have q1 : (E1.seq != p) = false := by rw [h2]; simp
    have q2 : (E1.slot != 0) = false := by rw [h3]; rfl
    have q3 : (E1.seq == p) = true := by rw [h2]; simp
    have q4 : (E1.slot == 0) = true := by rw [h3]; rfl
    have q5 := row_sum (L25.out.at_ 2 rfl)
    have q6 := row_seq (L25.out.at_ 2 rfl)
    have q7 := row_slot (L25.out.at_ 2 rfl)
    have q8 := row_seq (L25.out.at_ 3 rfl)
    have he3 : ∀ W, (Op.equalIn 10000 29 (.agg (bv E1.sum).toArray) (.agg (bv S).toArray)).run Try.prog W = .ok true W := fun W => by rw [eqH W _ _ HE1L.out HSL.out, h4]; simp
    clear h1 h2 h3 h4
    repeat (first | refine kf_nil ?_ | refine kf_ung rfl rfl ?_ | refine kf_skipg rfl rfl rfl rfl ?_ | (first | refine kf_move rfl rfl (.inl rfl) rfl rfl ?_ | refine kf_move rfl rfl (.inr rfl) rfl rfl ?_ | refine kf_const rfl rfl (.inl rfl) rfl ?_ | refine kf_const rfl rfl (.inr rfl) rfl ?_) | (refine kf_val rfl rfl rfl ?_; apply Exists.intro; refine And.intro (fun W hW N hN => ?_) ?_; · (go_simp; (try go_bits); exact hN)))
    refine kq_then ?_
    clear he c1 c2 c3
    repeat (first | refine kw_seq ?_ | refine kw_block ?_ | refine kw_skip ?_ | refine kw_region ?_ | refine kl_nil ?_ | refine kq_then ?_ | refine kq_block ?_ | refine kw_exit ?_ | refine kq_then_exit ?_ | refine kq_block_here rfl ?_ | refine kq_block_far rfl ?_ | refine kq_again_exit ?_ | refine kw_ret ?_ | refine kq_then_ret ?_ | refine kq_block_ret ?_ | refine kq_again_ret ?_ | refine kw_ift rfl ?_ | refine kw_iff rfl ?_ | refine kl_ung rfl rfl ?_ | refine kl_skipg rfl rfl rfl rfl ?_ | refine kl_skipg0 rfl rfl rfl ?_ | refine kl_getL L25.out 2 rfl Try.underlying31 rfl (entInfo E1 HE1L.out) rfl rfl rfl rfl rfl ?_ | refine kl_getL L25.out 3 rfl Try.underlying31 rfl (entInfo E0 HE0L.out) rfl rfl rfl rfl rfl ?_ | refine kl_load_mid 29 gn 2 _ _ q5 Try.underlying29 rfl (hashSize _ HE1L.out) rfl rfl rfl rfl rfl ?_ | refine kl_getL L25.out 4 rfl Try.underlying29 rfl (hash_1 S HSL.out) rfl rfl rfl rfl rfl ?_ | (first | refine kl_move rfl rfl (.inl rfl) rfl rfl ?_ | refine kl_move rfl rfl (.inr rfl) rfl rfl ?_ | refine kl_const rfl rfl (.inl rfl) rfl ?_ | refine kl_const rfl rfl (.inr rfl) rfl ?_) | ((first | refine kl_step rfl rfl rfl fun K hK => ?_ | refine kl_step0 rfl rfl rfl fun K hK => ?_); go_simp; (try go_bits); (first | refine hK _ _ ?_ | refine hK _ ?_); clear hK K))
    exact kq_ret1 rfl rfl ⟨rfl, D25.out.bel⟩
end Go.Proofs.Ytkncomkncfcecaa
