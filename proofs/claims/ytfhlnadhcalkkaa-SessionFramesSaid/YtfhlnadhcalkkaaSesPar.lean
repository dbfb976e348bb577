/- session.Parse. -/
import Derived.Test.YtfhlnadhcalkkaaSesParM
import Derived.Test.YtfhlnadhcalkkaaOpen
namespace Go.Proofs.Ytfhlnadhcalkkaa
open Go.RowKit
attribute [local go_sem] ev_tmp ev_const ev_func ev_global lk_hit lk_miss uponK_value uponK_skip look_tmp look_const look_global look_func valP_value
theorem kindE_out {K : Int} (e : Int) (hk : K < 1 ∨ 5 < K) : kindE K e = if e = 0 then 3 else e := by unfold kindE; rw [if_pos hk]
theorem kindE_in {K : Int} (e : Int) (hk : ¬ (K < 1 ∨ 5 < K)) : kindE K e = e := by
  unfold kindE
  by_cases h : e = 0
  · rw [if_pos h, if_neg hk, h]
  · rw [if_neg h]
theorem opened_len (b : List UInt8) : (opened b).1.length ≤ b.length := by
  unfold opened
  split
  · simp
  · split
    · simp
    · split
      · simp
      · rw [List.length_take, List.length_drop]; omega
theorem opened_n (b : List UInt8) : (opened b).2.1 ≤ b.length := by
  unfold opened
  split
  · simp
  · split
    · simp
    · split
      · simp
      · simp only; omega
set_option maxRecDepth 100000 in
set_option maxHeartbeats 1000000 in
theorem parse_any (A : Option Addr) (n c : Nat) (b : List UInt8) (w : World) (hA : Bs w A n b) (hn : n ≤ 1000000) (hc : n ≤ c) (hc2 : c ≤ 9223372036854775807) :
    Calls Try.prog 27 #[.slice A n c] w (ParseP b w) := by
  have HLN := Lib.hid hA.len
  have HON : Hid ((opened b).2.1 ≤ n) := Lib.hid (by rw [← hA.len]; exact opened_n b)
  have HOL : Hid ((opened b).1.length ≤ n) := Lib.hid (by rw [← hA.len]; exact opened_len b)
  refine calls_kw Try.func27 rfl Try.ntmps27 rfl [(0, .slice A n c)] rfl ?_
  refine kw_seq ?_
  refine kw_region ?_
  refine kl_zeroL (Lay.start w) frmZero rfl rfl rfl rfl ?_
  intro g2 w1 eg hb1 hL
  replace hA := hA.keep (.of_below hb1)
  clear eg hb1
  repeat (first | refine kw_seq ?_ | refine kw_block ?_ | refine kw_skip ?_ | refine kw_region ?_ | refine kl_nil ?_ | refine kq_then ?_ | refine kq_block ?_ | refine kw_exit ?_ | refine kq_then_exit ?_ | refine kq_block_here rfl ?_ | refine kq_block_far rfl ?_ | refine kq_again_exit ?_ | refine kw_ret ?_ | refine kq_then_ret ?_ | refine kq_block_ret ?_ | refine kq_again_ret ?_ | refine kw_ift rfl ?_ | refine kw_iff rfl ?_ | refine kl_ung rfl rfl ?_ | refine kl_skipg rfl rfl rfl rfl ?_ | refine kl_skipg0 rfl rfl rfl ?_ | (first | refine kl_move rfl rfl (.inl rfl) rfl rfl ?_ | refine kl_move rfl rfl (.inr rfl) rfl rfl ?_ | refine kl_const rfl rfl (.inl rfl) rfl ?_ | refine kl_const rfl rfl (.inr rfl) rfl ?_) | ((first | refine kl_step rfl rfl rfl fun K hK => ?_ | refine kl_step0 rfl rfl rfl fun K hK => ?_); go_simp; (try go_bits); (first | refine hK _ _ ?_ | refine hK _ ?_); clear hK K))
  refine kl_call rfl rfl rfl Try.func46 rfl (by kernel_rfl) rfl ?_
  refine Calls.mono (open_full A n c b w1 hA hc hc2) ?_
  rintro e w2 ⟨v, rfl, hown, hb2⟩
  have hL := hL.next hb2
  obtain ⟨A4, c4, rfl, hB4, hc4, hc4'⟩ := own_B hown
  clear hown hb2 hA
  obtain ⟨x, N, E, ho⟩ : ∃ x N E, opened b = (x, N, E) := ⟨_, _, _, rfl⟩
  have HO := Lib.hid ho
  rw [ho] at HON HOL hB4 hc4 ⊢
  replace HON : Hid (N ≤ n) := HON
  replace HOL : Hid (x.length ≤ n) := HOL
  replace hB4 : Bs w2 A4 x.length x := hB4
  replace hc4 : x.length ≤ c4 := hc4
  show ∃ v, Ending.returned (.tuple #[.slice A4 x.length c4, .int .i64 (N : Int), .int .i64 (E : Int)]) = .returned v ∧ _
  clear ho
  refine ⟨_, rfl, ?_⟩
  by_cases hE : E = 0
  · subst hE
    have t0 : (((0 : Nat) : Int) != 0) = false := rfl
    by_cases hNn : N < n
    · have t1 : decide ((N : Int) < (n : Int)) = true := by rw [decide_eq_true_eq]; omega
      have t2 : decide (N < n) = true := by rw [decide_eq_true_eq]; exact hNn
      have HP : Hid (parseF b = (zeroFrm, 9)) := Lib.hid (by unfold parseF; rw [HO.out]; simp only; rw [if_neg (by omega), if_pos (by rw [HLN.out]; exact hNn)])
      clear hNn
      repeat (first | refine kw_seq ?_ | refine kw_block ?_ | refine kw_skip ?_ | refine kw_region ?_ | refine kl_nil ?_ | refine kq_then ?_ | refine kq_block ?_ | refine kw_exit ?_ | refine kq_then_exit ?_ | refine kq_block_here rfl ?_ | refine kq_block_far rfl ?_ | refine kq_again_exit ?_ | refine kw_ret ?_ | refine kq_then_ret ?_ | refine kq_block_ret ?_ | refine kq_again_ret ?_ | refine kw_ift rfl ?_ | refine kw_iff rfl ?_ | refine kl_ung rfl rfl ?_ | refine kl_skipg rfl rfl rfl rfl ?_ | refine kl_skipg0 rfl rfl rfl ?_ | refine kl_build 29 _ zFrm.toArray rfl rfl rfl (by rfl) (by rfl) frm_zero_built ?_ | refine kl_putL (cells := zFrm.toArray) hL 0 rfl (infoF zeroFrm _ z32_len) rfl (frmV_one zeroFrm _ rfl) rfl rfl rfl rfl rfl (fun hL2 => ?_) | (first | refine kl_move rfl rfl (.inl rfl) rfl rfl ?_ | refine kl_move rfl rfl (.inr rfl) rfl rfl ?_ | refine kl_const rfl rfl (.inl rfl) rfl ?_ | refine kl_const rfl rfl (.inr rfl) rfl ?_) | ((first | refine kl_step rfl rfl rfl fun K hK => ?_ | refine kl_step0 rfl rfl rfl fun K hK => ?_); go_simp; (try go_bits); (first | refine hK _ _ ?_ | refine hK _ ?_); clear hK K))
      refine kq_retv (v := .tuple #[.agg zFrm.toArray, .int .i64 9]) (fun a k => results_row_tmp rfl _ _ g2 29 zFrm.toArray (0, 0) _ _ (k.slot 2 rfl) (k.slot 3 rfl) (hL2.at_ 0 rfl) Try.underlying29 rfl (infoF zeroFrm _ z32_len)) ?_
      refine ⟨.slice none 0 0, ?_⟩
      rw [HP.out]
      exact ⟨rfl, zeroFrm_m _, hL2.below⟩
    · have t1 : decide ((N : Int) < (n : Int)) = false := by rw [decide_eq_false_iff_not]; omega
      have t2 : decide (N < n) = false := by rw [decide_eq_false_iff_not]; exact hNn
      have HP : Hid (parseF b = parseX x) := Lib.hid (by unfold parseF; rw [HO.out]; simp only; rw [if_neg (by omega), if_neg (by rw [HLN.out]; exact hNn)])
      clear hNn
      repeat (first | refine kw_seq ?_ | refine kw_block ?_ | refine kw_skip ?_ | refine kw_region ?_ | refine kl_nil ?_ | refine kq_then ?_ | refine kq_block ?_ | refine kw_exit ?_ | refine kq_then_exit ?_ | refine kq_block_here rfl ?_ | refine kq_block_far rfl ?_ | refine kq_again_exit ?_ | refine kw_ret ?_ | refine kq_then_ret ?_ | refine kq_block_ret ?_ | refine kq_again_ret ?_ | refine kw_ift rfl ?_ | refine kw_iff rfl ?_ | refine kl_ung rfl rfl ?_ | refine kl_skipg rfl rfl rfl rfl ?_ | refine kl_skipg0 rfl rfl rfl ?_ | (first | refine kl_move rfl rfl (.inl rfl) rfl rfl ?_ | refine kl_move rfl rfl (.inr rfl) rfl rfl ?_ | refine kl_const rfl rfl (.inl rfl) rfl ?_ | refine kl_const rfl rfl (.inr rfl) rfl ?_) | ((first | refine kl_step rfl rfl rfl fun K hK => ?_ | refine kl_step0 rfl rfl rfl fun K hK => ?_); go_simp; (try go_bits); (first | refine hK _ _ ?_ | refine hK _ ?_); clear hK K))
      refine kl_call rfl rfl rfl Try.func47 rfl (by kernel_rfl) rfl ?_
      refine Calls.mono (rdNew A4 x.length c4 x hL hB4 (by have := HOL.out; omega)) ?_
      rintro e w3 ⟨g, rfl, hg, hR⟩
      have hB : w.heap.size ≤ g := Nat.le_trans hL.below.size hg
      have h2 : g2 < g := Nat.lt_of_lt_of_le (hL.lt 0 rfl) hg
      clear hg hL hB4
      refine ⟨_, rfl, ?_⟩
      refine kl_build 92 _ #[.pointer (some ⟨g, 0, none⟩)] rfl rfl rfl (by rfl) (by rfl) (by rfl) ?_
      refine kl_varR (d := 7) (y := 28) (cells := #[.pointer (some ⟨g, 0, none⟩)]) hR readerZero readerSize rfl (by simp [Value.oneCell']) rfl rfl rfl rfl rfl rfl rfl rfl rfl ?_
      intro g7 w4 h7 hb4 hR
      clear hb4
      have c7 := hR.get (j := 0) (cs := [.pointer (some ⟨g, 0, none⟩)]) 0 rfl rfl
      repeat (first | refine kw_seq ?_ | refine kw_block ?_ | refine kw_skip ?_ | refine kw_region ?_ | refine kl_nil ?_ | refine kq_then ?_ | refine kq_block ?_ | refine kw_exit ?_ | refine kq_then_exit ?_ | refine kq_block_here rfl ?_ | refine kq_block_far rfl ?_ | refine kq_again_exit ?_ | refine kw_ret ?_ | refine kq_then_ret ?_ | refine kq_block_ret ?_ | refine kq_again_ret ?_ | refine kw_ift rfl ?_ | refine kw_iff rfl ?_ | refine kl_ung rfl rfl ?_ | refine kl_skipg rfl rfl rfl rfl ?_ | refine kl_skipg0 rfl rfl rfl ?_ | (first | refine kl_move rfl rfl (.inl rfl) rfl rfl ?_ | refine kl_move rfl rfl (.inr rfl) rfl rfl ?_ | refine kl_const rfl rfl (.inl rfl) rfl ?_ | refine kl_const rfl rfl (.inr rfl) rfl ?_) | ((first | refine kl_step rfl rfl rfl fun K hK => ?_ | refine kl_step0 rfl rfl rfl fun K hK => ?_); go_simp; (try go_bits); (first | refine hK _ _ ?_ | refine hK _ ?_); clear hK K))
      refine kl_call rfl rfl rfl Try.func48 rfl (by kernel_rfl) rfl ?_
      refine Calls.mono (rdInt hR) ?_
      rintro e w5 ⟨rfl, hR2⟩
      clear hR c7
      have hK := tkN_64 (taken x 0 8)
      unfold parseX at HP
      obtain ⟨K, l1, e1, hq⟩ : ∃ K l1 e1, tkN (taken x 0 8) = K ∧ (taken x 0 8).2.1 = l1 ∧ (taken x 0 8).2.2 = e1 := ⟨_, _, _, rfl, rfl, rfl⟩
      rw [hq.2.1, hq.2.2] at hR2
      rw [hq.2.1, hq.2.2, hq.1] at HP
      rw [hq.1] at hK ⊢
      clear hq
      have hR := hR2
      clear hR2
      refine ⟨_, rfl, ?_⟩
      refine kl_build 29 _ (frmV ⟨K, 0, 0, 0, z32, []⟩ (.slice none 0 0)).toArray rfl rfl rfl (by rfl) (by rfl) (frm_kind_built K) ?_
      refine kl_varR (d := 8) (y := 32) (cells := (frmV ⟨K, 0, 0, 0, z32, []⟩ (.slice none 0 0)).toArray) hR frmZero (infoF _ _ z32_len) (sizeZF _ _ z32_len) (frmV_one _ _ rfl) rfl rfl rfl rfl rfl rfl rfl rfl rfl ?_
      intro g8 w6 h8 hb6 hR
      clear hb6
      have c8 := hR.get (j := 0) 0 rfl (frm_0 _ _)
      have c7 := hR.get (j := 0) (cs := [.pointer (some ⟨g, 0, none⟩)]) 1 rfl rfl
      have fin : ∀ (W : World) (l : List UInt8) (e : Int), Rd true w W [(g8, (frmV ⟨K, 0, 0, 0, z32, []⟩ (.slice none 0 0)).toArray, 29), (g7, #[.pointer (some ⟨g, 0, none⟩)], 92), (g2, zFrm.toArray, 29)] g l e → parseF b = parseZ K l e → KW Try.prog (restAt Try.f27 10) (bodyPost Try.prog Try.f27 (ParseP b w)) 90 [(2, .pointer (some ⟨g2, 0, none⟩)), (7, .pointer (some ⟨g7, 0, none⟩)), (8, .pointer (some ⟨g8, 0, none⟩))] W := fun W l e hR hp => parse_rest hB h2 h7 h8 hK hR hp
      have HF := Lib.hid fin
      clear fin
      have RN : True := trivial
      by_cases hk : K < 1 ∨ 5 < K
      · have hkE := kindE_out e1 hk
        rw [hkE] at HP
        have hcase : decide (K < 1) = true ∨ (decide (K < 1) = false ∧ decide (5 < K) = true) := by simp only [decide_eq_true_eq, decide_eq_false_iff_not]; omega
        clear hk hkE
        rcases hcase with t3 | ⟨t3, t4⟩
        all_goals
          repeat (first | refine kw_seq ?_ | refine kw_region ?_ | refine kl_nil ?_ | refine kq_then ?_ | refine kl_ung rfl rfl ?_ | refine kl_skipg rfl rfl rfl rfl ?_ | refine kl_skipg0 rfl rfl rfl ?_ | (first | refine kl_move rfl rfl (.inl rfl) rfl rfl ?_ | refine kl_move rfl rfl (.inr rfl) rfl rfl ?_ | refine kl_const rfl rfl (.inl rfl) rfl ?_ | refine kl_const rfl rfl (.inr rfl) rfl ?_) | ((first | refine kl_step rfl rfl rfl fun K hK => ?_ | refine kl_step0 rfl rfl rfl fun K hK => ?_); go_simp; (try go_bits); (first | refine hK _ _ ?_ | refine hK _ ?_); clear hK K))
          refine kw_ift rfl ?_
          repeat (first | refine kw_seq ?_ | refine kw_region ?_ | refine kl_nil ?_ | refine kq_then ?_ | refine kl_ung rfl rfl ?_ | refine kl_skipg rfl rfl rfl rfl ?_ | refine kl_skipg0 rfl rfl rfl ?_ | (first | refine kl_move rfl rfl (.inl rfl) rfl rfl ?_ | refine kl_move rfl rfl (.inr rfl) rfl rfl ?_ | refine kl_const rfl rfl (.inl rfl) rfl ?_ | refine kl_const rfl rfl (.inr rfl) rfl ?_) | ((first | refine kl_step rfl rfl rfl fun K hK => ?_ | refine kl_step0 rfl rfl rfl fun K hK => ?_); go_simp; (try go_bits); (first | refine hK _ _ ?_ | refine hK _ ?_); clear hK K))
          refine kl_call rfl rfl rfl Try.func49 rfl (by kernel_rfl) rfl ?_
          refine Calls.mono (rdFail 3 hR) ?_
          rintro e w7 ⟨rfl, hR2⟩
          refine ⟨_, rfl, ?_⟩
          refine kl_nil ?_
          refine kq_then ?_
          refine KW.less [2, 7, 8] ?_
          simp only [nrm, lk, Nat.reduceBEq, cond_true, cond_false]
          exact HF.out _ _ _ hR2 HP.out
      · have hkE := kindE_in e1 hk
        rw [hkE] at HP
        have t3 : decide (K < 1) = false := by rw [decide_eq_false_iff_not]; omega
        have t4 : decide (5 < K) = false := by rw [decide_eq_false_iff_not]; omega
        clear hk hkE
        repeat (first | refine kw_seq ?_ | refine kw_region ?_ | refine kl_nil ?_ | refine kq_then ?_ | refine kl_ung rfl rfl ?_ | refine kl_skipg rfl rfl rfl rfl ?_ | refine kl_skipg0 rfl rfl rfl ?_ | (first | refine kl_move rfl rfl (.inl rfl) rfl rfl ?_ | refine kl_move rfl rfl (.inr rfl) rfl rfl ?_ | refine kl_const rfl rfl (.inl rfl) rfl ?_ | refine kl_const rfl rfl (.inr rfl) rfl ?_) | ((first | refine kl_step rfl rfl rfl fun K hK => ?_ | refine kl_step0 rfl rfl rfl fun K hK => ?_); go_simp; (try go_bits); (first | refine hK _ _ ?_ | refine hK _ ?_); clear hK K))
        refine kw_iff rfl ?_
        refine kw_skip ?_
        refine kq_then ?_
        refine KW.less [2, 7, 8] ?_
        simp only [nrm, lk, Nat.reduceBEq, cond_true, cond_false]
        exact HF.out _ _ _ hR HP.out
  · have t0 : ((E : Int) != 0) = true := by rw [bne_iff_ne]; omega
    have HP : Hid (parseF b = (zeroFrm, (E : Int))) := Lib.hid (by unfold parseF; rw [HO.out]; simp only; rw [if_pos hE])
    clear hE
    repeat (first | refine kw_seq ?_ | refine kw_block ?_ | refine kw_skip ?_ | refine kw_region ?_ | refine kl_nil ?_ | refine kq_then ?_ | refine kq_block ?_ | refine kw_exit ?_ | refine kq_then_exit ?_ | refine kq_block_here rfl ?_ | refine kq_block_far rfl ?_ | refine kq_again_exit ?_ | refine kw_ret ?_ | refine kq_then_ret ?_ | refine kq_block_ret ?_ | refine kq_again_ret ?_ | refine kw_ift rfl ?_ | refine kw_iff rfl ?_ | refine kl_ung rfl rfl ?_ | refine kl_skipg rfl rfl rfl rfl ?_ | refine kl_skipg0 rfl rfl rfl ?_ | refine kl_build 29 _ zFrm.toArray rfl rfl rfl (by rfl) (by rfl) frm_zero_built ?_ | refine kl_putL (cells := zFrm.toArray) hL 0 rfl (infoF zeroFrm _ z32_len) rfl (frmV_one zeroFrm _ rfl) rfl rfl rfl rfl rfl (fun hL2 => ?_) | (first | refine kl_move rfl rfl (.inl rfl) rfl rfl ?_ | refine kl_move rfl rfl (.inr rfl) rfl rfl ?_ | refine kl_const rfl rfl (.inl rfl) rfl ?_ | refine kl_const rfl rfl (.inr rfl) rfl ?_) | ((first | refine kl_step rfl rfl rfl fun K hK => ?_ | refine kl_step0 rfl rfl rfl fun K hK => ?_); go_simp; (try go_bits); (first | refine hK _ _ ?_ | refine hK _ ?_); clear hK K))
    refine kq_retv (v := .tuple #[.agg zFrm.toArray, .int .i64 (E : Int)]) (fun a k => results_row_tmp rfl _ _ g2 29 zFrm.toArray (0, 0) _ _ (k.slot 2 rfl) (k.slot 3 rfl) (hL2.at_ 0 rfl) Try.underlying29 rfl (infoF zeroFrm _ z32_len)) ?_
    refine ⟨.slice none 0 0, ?_⟩
    rw [HP.out]
    exact ⟨rfl, zeroFrm_m _, hL2.below⟩
end Go.Proofs.Ytfhlnadhcalkkaa
