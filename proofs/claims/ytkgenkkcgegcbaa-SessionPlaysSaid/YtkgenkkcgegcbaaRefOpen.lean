/- session.Parse. The reference's Seal and Open: what each returns. -/
import Derived.Test.YtkgenkkcgegcbaaSesParM
import Derived.Test.YtkgenkkcgegcbaaOpen
import Derived.Test.YtkgenkkcgegcbaaChecked
import Derived.Test.YtkgenkkcgegcbaaConcat
import Derived.Test.YtkgenkkcgegcbaaSesFrmP
namespace Go.Proofs.Ytkgenkkcgegcbaa
open Go.RowKit
attribute [local go_sem] ev_tmp ev_const ev_func ev_global lk_hit lk_miss uponK_value uponK_skip look_tmp look_const look_global look_func valP_value
theorem kindE_out {K : Int} (e : Int) (hk : K < 1 ∨ 5 < K) : kindE K e = if e = 0 then 3 else e := by unfold kindE; rw [if_pos hk]
theorem kindE_in {K : Int} (e : Int) (hk : ¬ (K < 1 ∨ 5 < K)) : kindE K e = e := by
  unfold kindE
  by_cases h : e = 0
  · rw [if_pos h, if_neg hk, h]
  · rw [if_neg h]
theorem opened_len (b : List UInt8) : (opened b).1.length ≤ b.length := by
  unfold opened
  split
  · simp
  · split
    · simp
    · split
      · simp
      · rw [List.length_take, List.length_drop]; omega
theorem opened_n (b : List UInt8) : (opened b).2.1 ≤ b.length := by
  unfold opened
  split
  · simp
  · split
    · simp
    · split
      · simp
      · simp only; omega
set_option maxRecDepth 100000 in
set_option maxHeartbeats 1000000 in
theorem parse_any (A : Option Addr) (n c : Nat) (b : List UInt8) (w : World) (hA : Bs w A n b) (hn : n ≤ 1000000) (hc : n ≤ c) (hc2 : c ≤ 9223372036854775807) :
    Calls Try.prog 26 #[.slice A n c] w (ParseP b w) := by
  have HLN := Lib.hid hA.len
  have HON : Hid ((opened b).2.1 ≤ n) := Lib.hid (by rw [← hA.len]; exact opened_n b)
  have HOL : Hid ((opened b).1.length ≤ n) := Lib.hid (by rw [← hA.len]; exact opened_len b)
  refine calls_kw Try.func26 rfl Try.ntmps26 rfl [(0, .slice A n c)] rfl ?_
  refine kw_seq ?_
  refine kw_region ?_
  refine kl_zeroL (Lay.start w) frmZero rfl rfl rfl rfl ?_
  intro g2 w1 eg hb1 hL
  replace hA := hA.keep (.of_below hb1)
  clear eg hb1
  repeat (first | refine kw_seq ?_ | refine kw_block ?_ | refine kw_skip ?_ | refine kw_region ?_ | refine kl_nil ?_ | refine kq_then ?_ | refine kq_block ?_ | refine kw_exit ?_ | refine kq_then_exit ?_ | refine kq_block_here rfl ?_ | refine kq_block_far rfl ?_ | refine kq_again_exit ?_ | refine kw_ret ?_ | refine kq_then_ret ?_ | refine kq_block_ret ?_ | refine kq_again_ret ?_ | refine kw_ift rfl ?_ | refine kw_iff rfl ?_ | refine kl_ung rfl rfl ?_ | refine kl_skipg rfl rfl rfl rfl ?_ | refine kl_skipg0 rfl rfl rfl ?_ | (first | refine kl_move rfl rfl (.inl rfl) rfl rfl ?_ | refine kl_move rfl rfl (.inr rfl) rfl rfl ?_ | refine kl_const rfl rfl (.inl rfl) rfl ?_ | refine kl_const rfl rfl (.inr rfl) rfl ?_) | ((first | refine kl_step rfl rfl rfl fun K hK => ?_ | refine kl_step0 rfl rfl rfl fun K hK => ?_); go_simp; (try go_bits); (first | refine hK _ _ ?_ | refine hK _ ?_); clear hK K))
  refine kl_call rfl rfl rfl Try.func45 rfl (by kernel_rfl) rfl ?_
  refine Calls.mono (open_full A n c b w1 hA hc hc2) ?_
  rintro e w2 ⟨v, rfl, hown, hb2⟩
  have hL := hL.next hb2
  obtain ⟨A4, c4, rfl, hB4, hc4, hc4'⟩ := own_B hown
  clear hown hb2 hA
  obtain ⟨x, N, E, ho⟩ : ∃ x N E, opened b = (x, N, E) := ⟨_, _, _, rfl⟩
  have HO := Lib.hid ho
  rw [ho] at HON HOL hB4 hc4 ⊢
  replace HON : Hid (N ≤ n) := HON
  replace HOL : Hid (x.length ≤ n) := HOL
  replace hB4 : Bs w2 A4 x.length x := hB4
  replace hc4 : x.length ≤ c4 := hc4
  show ∃ v, Ending.returned (.tuple #[.slice A4 x.length c4, .int .i64 (N : Int), .int .i64 (E : Int)]) = .returned v ∧ _
  clear ho
  refine ⟨_, rfl, ?_⟩
  by_cases hE : E = 0
  · subst hE
    have t0 : (((0 : Nat) : Int) != 0) = false := rfl
    by_cases hNn : N < n
    · have t1 : decide ((N : Int) < (n : Int)) = true := by rw [decide_eq_true_eq]; omega
      have t2 : decide (N < n) = true := by rw [decide_eq_true_eq]; exact hNn
      have HP : Hid (parseF b = (zeroFrm, 9)) := Lib.hid (by unfold parseF; rw [HO.out]; simp only; rw [if_neg (by omega), if_pos (by rw [HLN.out]; exact hNn)])
      clear hNn
      repeat (first | refine kw_seq ?_ | refine kw_block ?_ | refine kw_skip ?_ | refine kw_region ?_ | refine kl_nil ?_ | refine kq_then ?_ | refine kq_block ?_ | refine kw_exit ?_ | refine kq_then_exit ?_ | refine kq_block_here rfl ?_ | refine kq_block_far rfl ?_ | refine kq_again_exit ?_ | refine kw_ret ?_ | refine kq_then_ret ?_ | refine kq_block_ret ?_ | refine kq_again_ret ?_ | refine kw_ift rfl ?_ | refine kw_iff rfl ?_ | refine kl_ung rfl rfl ?_ | refine kl_skipg rfl rfl rfl rfl ?_ | refine kl_skipg0 rfl rfl rfl ?_ | refine kl_build 29 _ zFrm.toArray rfl rfl rfl (by rfl) (by rfl) frm_zero_built ?_ | refine kl_putL (cells := zFrm.toArray) hL 0 rfl (infoF zeroFrm _ z32_len) rfl (frmV_one zeroFrm _ rfl) rfl rfl rfl rfl rfl (fun hL2 => ?_) | (first | refine kl_move rfl rfl (.inl rfl) rfl rfl ?_ | refine kl_move rfl rfl (.inr rfl) rfl rfl ?_ | refine kl_const rfl rfl (.inl rfl) rfl ?_ | refine kl_const rfl rfl (.inr rfl) rfl ?_) | ((first | refine kl_step rfl rfl rfl fun K hK => ?_ | refine kl_step0 rfl rfl rfl fun K hK => ?_); go_simp; (try go_bits); (first | refine hK _ _ ?_ | refine hK _ ?_); clear hK K))
      refine kq_retv (v := .tuple #[.agg zFrm.toArray, .int .i64 9]) (fun a k => results_row_tmp rfl _ _ g2 29 zFrm.toArray (0, 0) _ _ (k.slot 2 rfl) (k.slot 3 rfl) (hL2.at_ 0 rfl) Try.underlying29 rfl (infoF zeroFrm _ z32_len)) ?_
      refine ⟨.slice none 0 0, ?_⟩
      rw [HP.out]
      exact ⟨rfl, zeroFrm_m _, hL2.below⟩
    · have t1 : decide ((N : Int) < (n : Int)) = false := by rw [decide_eq_false_iff_not]; omega
      have t2 : decide (N < n) = false := by rw [decide_eq_false_iff_not]; exact hNn
      have HP : Hid (parseF b = parseX x) := Lib.hid (by unfold parseF; rw [HO.out]; simp only; rw [if_neg (by omega), if_neg (by rw [HLN.out]; exact hNn)])
      clear hNn
      repeat (first | refine kw_seq ?_ | refine kw_block ?_ | refine kw_skip ?_ | refine kw_region ?_ | refine kl_nil ?_ | refine kq_then ?_ | refine kq_block ?_ | refine kw_exit ?_ | refine kq_then_exit ?_ | refine kq_block_here rfl ?_ | refine kq_block_far rfl ?_ | refine kq_again_exit ?_ | refine kw_ret ?_ | refine kq_then_ret ?_ | refine kq_block_ret ?_ | refine kq_again_ret ?_ | refine kw_ift rfl ?_ | refine kw_iff rfl ?_ | refine kl_ung rfl rfl ?_ | refine kl_skipg rfl rfl rfl rfl ?_ | refine kl_skipg0 rfl rfl rfl ?_ | (first | refine kl_move rfl rfl (.inl rfl) rfl rfl ?_ | refine kl_move rfl rfl (.inr rfl) rfl rfl ?_ | refine kl_const rfl rfl (.inl rfl) rfl ?_ | refine kl_const rfl rfl (.inr rfl) rfl ?_) | ((first | refine kl_step rfl rfl rfl fun K hK => ?_ | refine kl_step0 rfl rfl rfl fun K hK => ?_); go_simp; (try go_bits); (first | refine hK _ _ ?_ | refine hK _ ?_); clear hK K))
      refine kl_call rfl rfl rfl Try.func46 rfl (by kernel_rfl) rfl ?_
      refine Calls.mono (rdNew A4 x.length c4 x hL hB4 (by have := HOL.out; omega)) ?_
      rintro e w3 ⟨g, rfl, hg, hR⟩
      have hB : w.heap.size ≤ g := Nat.le_trans hL.below.size hg
      have h2 : g2 < g := Nat.lt_of_lt_of_le (hL.lt 0 rfl) hg
      clear hg hL hB4
      refine ⟨_, rfl, ?_⟩
      refine kl_build 92 _ #[.pointer (some ⟨g, 0, none⟩)] rfl rfl rfl (by rfl) (by rfl) (by rfl) ?_
      refine kl_varR (d := 7) (y := 28) (cells := #[.pointer (some ⟨g, 0, none⟩)]) hR readerZero readerSize rfl (by simp [Value.oneCell']) rfl rfl rfl rfl rfl rfl rfl rfl rfl ?_
      intro g7 w4 h7 hb4 hR
      clear hb4
      have c7 := hR.get (j := 0) (cs := [.pointer (some ⟨g, 0, none⟩)]) 0 rfl rfl
      repeat (first | refine kw_seq ?_ | refine kw_block ?_ | refine kw_skip ?_ | refine kw_region ?_ | refine kl_nil ?_ | refine kq_then ?_ | refine kq_block ?_ | refine kw_exit ?_ | refine kq_then_exit ?_ | refine kq_block_here rfl ?_ | refine kq_block_far rfl ?_ | refine kq_again_exit ?_ | refine kw_ret ?_ | refine kq_then_ret ?_ | refine kq_block_ret ?_ | refine kq_again_ret ?_ | refine kw_ift rfl ?_ | refine kw_iff rfl ?_ | refine kl_ung rfl rfl ?_ | refine kl_skipg rfl rfl rfl rfl ?_ | refine kl_skipg0 rfl rfl rfl ?_ | (first | refine kl_move rfl rfl (.inl rfl) rfl rfl ?_ | refine kl_move rfl rfl (.inr rfl) rfl rfl ?_ | refine kl_const rfl rfl (.inl rfl) rfl ?_ | refine kl_const rfl rfl (.inr rfl) rfl ?_) | ((first | refine kl_step rfl rfl rfl fun K hK => ?_ | refine kl_step0 rfl rfl rfl fun K hK => ?_); go_simp; (try go_bits); (first | refine hK _ _ ?_ | refine hK _ ?_); clear hK K))
      refine kl_call rfl rfl rfl Try.func47 rfl (by kernel_rfl) rfl ?_
      refine Calls.mono (rdInt hR) ?_
      rintro e w5 ⟨rfl, hR2⟩
      clear hR c7
      have hK := tkN_64 (taken x 0 8)
      unfold parseX at HP
      obtain ⟨K, l1, e1, hq⟩ : ∃ K l1 e1, tkN (taken x 0 8) = K ∧ (taken x 0 8).2.1 = l1 ∧ (taken x 0 8).2.2 = e1 := ⟨_, _, _, rfl, rfl, rfl⟩
      rw [hq.2.1, hq.2.2] at hR2
      rw [hq.2.1, hq.2.2, hq.1] at HP
      rw [hq.1] at hK ⊢
      clear hq
      have hR := hR2
      clear hR2
      refine ⟨_, rfl, ?_⟩
      refine kl_build 29 _ (frmV ⟨K, 0, 0, 0, z32, []⟩ (.slice none 0 0)).toArray rfl rfl rfl (by rfl) (by rfl) (frm_kind_built K) ?_
      refine kl_varR (d := 8) (y := 32) (cells := (frmV ⟨K, 0, 0, 0, z32, []⟩ (.slice none 0 0)).toArray) hR frmZero (infoF _ _ z32_len) (sizeZF _ _ z32_len) (frmV_one _ _ rfl) rfl rfl rfl rfl rfl rfl rfl rfl rfl ?_
      intro g8 w6 h8 hb6 hR
      clear hb6
      have c8 := hR.get (j := 0) 0 rfl (frm_0 _ _)
      have c7 := hR.get (j := 0) (cs := [.pointer (some ⟨g, 0, none⟩)]) 1 rfl rfl
      have fin : ∀ (W : World) (l : List UInt8) (e : Int), Rd true w W [(g8, (frmV ⟨K, 0, 0, 0, z32, []⟩ (.slice none 0 0)).toArray, 29), (g7, #[.pointer (some ⟨g, 0, none⟩)], 92), (g2, zFrm.toArray, 29)] g l e → parseF b = parseZ K l e → KW Try.prog (restAt Try.f26 10) (bodyPost Try.prog Try.f26 (ParseP b w)) 90 [(2, .pointer (some ⟨g2, 0, none⟩)), (7, .pointer (some ⟨g7, 0, none⟩)), (8, .pointer (some ⟨g8, 0, none⟩))] W := fun W l e hR hp => parse_rest hB h2 h7 h8 hK hR hp
      have HF := Lib.hid fin
      clear fin
      have RN : True := trivial
      by_cases hk : K < 1 ∨ 5 < K
      · have hkE := kindE_out e1 hk
        rw [hkE] at HP
        have hcase : decide (K < 1) = true ∨ (decide (K < 1) = false ∧ decide (5 < K) = true) := by simp only [decide_eq_true_eq, decide_eq_false_iff_not]; omega
        clear hk hkE
        rcases hcase with t3 | ⟨t3, t4⟩
        all_goals
          repeat (first | refine kw_seq ?_ | refine kw_region ?_ | refine kl_nil ?_ | refine kq_then ?_ | refine kl_ung rfl rfl ?_ | refine kl_skipg rfl rfl rfl rfl ?_ | refine kl_skipg0 rfl rfl rfl ?_ | (first | refine kl_move rfl rfl (.inl rfl) rfl rfl ?_ | refine kl_move rfl rfl (.inr rfl) rfl rfl ?_ | refine kl_const rfl rfl (.inl rfl) rfl ?_ | refine kl_const rfl rfl (.inr rfl) rfl ?_) | ((first | refine kl_step rfl rfl rfl fun K hK => ?_ | refine kl_step0 rfl rfl rfl fun K hK => ?_); go_simp; (try go_bits); (first | refine hK _ _ ?_ | refine hK _ ?_); clear hK K))
          refine kw_ift rfl ?_
          repeat (first | refine kw_seq ?_ | refine kw_region ?_ | refine kl_nil ?_ | refine kq_then ?_ | refine kl_ung rfl rfl ?_ | refine kl_skipg rfl rfl rfl rfl ?_ | refine kl_skipg0 rfl rfl rfl ?_ | (first | refine kl_move rfl rfl (.inl rfl) rfl rfl ?_ | refine kl_move rfl rfl (.inr rfl) rfl rfl ?_ | refine kl_const rfl rfl (.inl rfl) rfl ?_ | refine kl_const rfl rfl (.inr rfl) rfl ?_) | ((first | refine kl_step rfl rfl rfl fun K hK => ?_ | refine kl_step0 rfl rfl rfl fun K hK => ?_); go_simp; (try go_bits); (first | refine hK _ _ ?_ | refine hK _ ?_); clear hK K))
          refine kl_call rfl rfl rfl Try.func48 rfl (by kernel_rfl) rfl ?_
          refine Calls.mono (rdFail 3 hR) ?_
          rintro e w7 ⟨rfl, hR2⟩
          refine ⟨_, rfl, ?_⟩
          refine kl_nil ?_
          refine kq_then ?_
          refine KW.less [2, 7, 8] ?_
          simp only [nrm, lk, Nat.reduceBEq, cond_true, cond_false]
          exact HF.out _ _ _ hR2 HP.out
      · have hkE := kindE_in e1 hk
        rw [hkE] at HP
        have t3 : decide (K < 1) = false := by rw [decide_eq_false_iff_not]; omega
        have t4 : decide (5 < K) = false := by rw [decide_eq_false_iff_not]; omega
        clear hk hkE
        repeat (first | refine kw_seq ?_ | refine kw_region ?_ | refine kl_nil ?_ | refine kq_then ?_ | refine kl_ung rfl rfl ?_ | refine kl_skipg rfl rfl rfl rfl ?_ | refine kl_skipg0 rfl rfl rfl ?_ | (first | refine kl_move rfl rfl (.inl rfl) rfl rfl ?_ | refine kl_move rfl rfl (.inr rfl) rfl rfl ?_ | refine kl_const rfl rfl (.inl rfl) rfl ?_ | refine kl_const rfl rfl (.inr rfl) rfl ?_) | ((first | refine kl_step rfl rfl rfl fun K hK => ?_ | refine kl_step0 rfl rfl rfl fun K hK => ?_); go_simp; (try go_bits); (first | refine hK _ _ ?_ | refine hK _ ?_); clear hK K))
        refine kw_iff rfl ?_
        refine kw_skip ?_
        refine kq_then ?_
        refine KW.less [2, 7, 8] ?_
        simp only [nrm, lk, Nat.reduceBEq, cond_true, cond_false]
        exact HF.out _ _ _ hR HP.out
  · have t0 : ((E : Int) != 0) = true := by rw [bne_iff_ne]; omega
    have HP : Hid (parseF b = (zeroFrm, (E : Int))) := Lib.hid (by unfold parseF; rw [HO.out]; simp only; rw [if_pos hE])
    clear hE
    repeat (first | refine kw_seq ?_ | refine kw_block ?_ | refine kw_skip ?_ | refine kw_region ?_ | refine kl_nil ?_ | refine kq_then ?_ | refine kq_block ?_ | refine kw_exit ?_ | refine kq_then_exit ?_ | refine kq_block_here rfl ?_ | refine kq_block_far rfl ?_ | refine kq_again_exit ?_ | refine kw_ret ?_ | refine kq_then_ret ?_ | refine kq_block_ret ?_ | refine kq_again_ret ?_ | refine kw_ift rfl ?_ | refine kw_iff rfl ?_ | refine kl_ung rfl rfl ?_ | refine kl_skipg rfl rfl rfl rfl ?_ | refine kl_skipg0 rfl rfl rfl ?_ | refine kl_build 29 _ zFrm.toArray rfl rfl rfl (by rfl) (by rfl) frm_zero_built ?_ | refine kl_putL (cells := zFrm.toArray) hL 0 rfl (infoF zeroFrm _ z32_len) rfl (frmV_one zeroFrm _ rfl) rfl rfl rfl rfl rfl (fun hL2 => ?_) | (first | refine kl_move rfl rfl (.inl rfl) rfl rfl ?_ | refine kl_move rfl rfl (.inr rfl) rfl rfl ?_ | refine kl_const rfl rfl (.inl rfl) rfl ?_ | refine kl_const rfl rfl (.inr rfl) rfl ?_) | ((first | refine kl_step rfl rfl rfl fun K hK => ?_ | refine kl_step0 rfl rfl rfl fun K hK => ?_); go_simp; (try go_bits); (first | refine hK _ _ ?_ | refine hK _ ?_); clear hK K))
    refine kq_retv (v := .tuple #[.agg zFrm.toArray, .int .i64 (E : Int)]) (fun a k => results_row_tmp rfl _ _ g2 29 zFrm.toArray (0, 0) _ _ (k.slot 2 rfl) (k.slot 3 rfl) (hL2.at_ 0 rfl) Try.underlying29 rfl (infoF zeroFrm _ z32_len)) ?_
    refine ⟨.slice none 0 0, ?_⟩
    rw [HP.out]
    exact ⟨rfl, zeroFrm_m _, hL2.below⟩
end Go.Proofs.Ytkgenkkcgegcbaa
namespace Go.Proofs.Ytkgenkkcgegcbaa
open Go.RowKit

set_option maxRecDepth 100000 in
theorem refSeal_none (A : Option Addr) (n c : Nat) (w : World) (hn : 65535 < n) (hn2 : n ≤ 140737488355328) :
    Calls Try.prog 25 #[.slice A n c] w fun e w' => e = .returned (.slice none 0 0) ∧ w = w' := by
  go_enter Try.func25, Try.ntmps25
  go_wp2
  go_ret
  exact ⟨rfl, rfl⟩

set_option maxRecDepth 100000 in
theorem refSeal_any (A : Option Addr) (n c : Nat) (l : List UInt8) (w : World) (hA : Bs w A n l) (hn : n ≤ 65535) (hc : n ≤ c) (hc2 : c ≤ 9223372036854775807) :
    Calls Try.prog 25 #[.slice A n c] w fun e w' => ∃ v, e = .returned v ∧ w'.ownsRow w.heap.size 5 1 v (n + 6) (bv (sealed l)) ∧ Below w.heap.size w w' := by
  obtain ⟨i0, hi0, hz0, hz1, hz2⟩ := info_parts byteInfo
  have hl := hA.len
  have hh := (crc l).isLt
  have hO : (w.alloc (.cells #[.int .u8 ((n : Int) % 256), .int .u8 ((n : Int) / 256), .int .u8 (((crc l).toNat : Int) % 256), .int .u8 (((crc l).toNat : Int) / 256 % 256), .int .u8 (((crc l).toNat : Int) / 65536 % 256), .int .u8 (((crc l).toNat : Int) / 16777216)] 5)).ownsRow
      w.heap.size 5 1 (.slice (some ⟨w.heap.size, 0, none⟩) 6 6) 6 (bv (sealHead l)) := by
    refine ⟨rfl, .inr ⟨_, _, _, rfl, Nat.le_refl _, heap_alloc_new w _, Nat.le_refl _, by simp [maxLen], rfl, ?_⟩⟩
    simp only [bv, sealHead, List.map_cons, List.map_nil, u8n_toNat, hl]
    rw [Nat.mod_eq_of_lt (a := n / 256) (by omega), Nat.mod_eq_of_lt (a := (crc l).toNat / 16777216) (by omega)]
    simp
  clear hl hh
  go_enter Try.func25, Try.ntmps25
  go_wp2_with (first | (go_at_call 44; refine Calls.mono (refSum_any _ _ _ l _ hA (by omega)) ?_; rintro e w1 ⟨rfl, rfl⟩) | (at_builtin; refine wpList_append_V _ rfl (.tmp 29) (.tmp 30) 22 rfl w.heap.size 5 i0 (.int .u8 0) 1 Try.underlying22 hi0 hz0 hz1 hz2 rfl (.slice (some ⟨w.heap.size, 0, none⟩) 6 6) 6 (bv (sealHead l)) rfl hO A n c (bv l) rfl (hA.alloc _) (bv_one l) (by omega) (by simp only [maxLen]; omega) (by simp) ?_; intro v1 w1 hown1 hg1 hat1))
  go_ret
  refine ⟨_, rfl, ?_, ((Below.refl _ w).alloc (Nat.le_refl _) _).grown hg1 (by simp) (by simp [Value.ownBlock])⟩
  unfold sealed
  rw [bv_append, Nat.add_comm n 6]
  exact hown1

set_option maxRecDepth 100000 in
theorem refOpen_cut (A : Option Addr) (n c : Nat) (w : World) (hn : n < 6) :
    Calls Try.prog 52 #[.slice A n c] w fun e w' => e = .returned (.tuple #[.slice none 0 0, .int .i64 0, .int .i64 8]) ∧ w = w' := by
  go_enter Try.func52, Try.ntmps52
  go_wp2
  go_ret3
  exact ⟨rfl, rfl⟩

set_option maxRecDepth 100000 in
theorem refOpen_short (b o : Nat) (n c : Nat) (x0 x1 : UInt8) (l : List UInt8) (w : World) (hA : Bs w (some ⟨b, o, none⟩) n (x0 :: x1 :: l)) (hn : 6 ≤ n) (hc : n ≤ c) (hc2 : c ≤ 9223372036854775807)
    (hk : n < 6 + (x0.toNat + x1.toNat * 256)) :
    Calls Try.prog 52 #[.slice (some ⟨b, o, none⟩) n c] w fun e w' => e = .returned (.tuple #[.slice none 0 0, .int .i64 0, .int .i64 8]) ∧ ∃ d, w' = w.drewN d := by
  have h0 : w.cell? ⟨b, o, none⟩ = some (.int .u8 (x0.toNat : Int)) := hA.cellAt (k := 0) (by simp)
  have h1 : w.cell? ⟨b, o + 1, none⟩ = some (.int .u8 (x1.toNat : Int)) := hA.cellAt (k := 1) (by simp)
  have hn0 : 0 < n := by omega
  have hn1 : (1 : Int) < n := by omega
  have hb0 := byte_lt x0
  have hb1 := byte_lt x1
  have hle : (x0.toNat : Int) + 256 * (x1.toNat : Int) = ((x0.toNat + x1.toNat * 256 : Nat) : Int) := by omega
  have hwr : IntKind.i64.wrap ((x0.toNat : Int) + 256 * (x1.toNat : Int)) = (x0.toNat : Int) + 256 * (x1.toNat : Int) := IntWalk.i64_in _ (by omega)
  have hwq : IntKind.i64.wrap (256 * (x1.toNat : Int)) = 256 * (x1.toNat : Int) := IntWalk.i64_in _ (by omega)
  generalize x0.toNat + x1.toNat * 256 = k at hle hk
  go_enter Try.func52, Try.ntmps52
  go_wp2
  go_quiet (fail)
  go_wp2
  go_ret3
  exact ⟨rfl, _, rfl⟩

set_option maxRecDepth 100000 in
theorem refOpen_any (b o : Nat) (n c : Nat) (x0 x1 x2 x3 x4 x5 : UInt8) (l m : List UInt8) (k s : Nat) (w : World) (hA : Bs w (some ⟨b, o, none⟩) n (x0 :: x1 :: x2 :: x3 :: x4 :: x5 :: l)) (hc : n ≤ c) (hc2 : c ≤ 9223372036854775807)
    (hk : x0.toNat + x1.toNat * 256 = k) (hkn : 6 + k ≤ n) (hs : x2.toNat + x3.toNat * 256 + x4.toNat * 65536 + x5.toNat * 16777216 = s) (hm : l.take k = m) (hq : (crc m).toNat = s) :
    Calls Try.prog 52 #[.slice (some ⟨b, o, none⟩) n c] w fun e w' => ∃ v, e = .returned (.tuple #[v, .int .i64 ((6 + k : Nat) : Int), .int .i64 0]) ∧ w'.ownsRow w.heap.size 5 1 v k (bv m) ∧ Below w.heap.size w w' := by
  obtain ⟨i0, hi0, hz0, hz1, hz2⟩ := info_parts byteInfo
  have h0 : w.cell? ⟨b, o, none⟩ = some (.int .u8 (x0.toNat : Int)) := hA.cellAt (k := 0) (by simp)
  have h1 : w.cell? ⟨b, o + 1, none⟩ = some (.int .u8 (x1.toNat : Int)) := hA.cellAt (k := 1) (by simp)
  have h2 : w.cell? ⟨b, o + 2, none⟩ = some (.int .u8 (x2.toNat : Int)) := hA.cellAt (k := 2) (by simp)
  have h3 : w.cell? ⟨b, o + 3, none⟩ = some (.int .u8 (x3.toNat : Int)) := hA.cellAt (k := 3) (by simp)
  have h4 : w.cell? ⟨b, o + 4, none⟩ = some (.int .u8 (x4.toNat : Int)) := hA.cellAt (k := 4) (by simp)
  have h5 : w.cell? ⟨b, o + 5, none⟩ = some (.int .u8 (x5.toNat : Int)) := hA.cellAt (k := 5) (by simp)
  have hM := hA.mid_ (j := 6) (k := 6 + k) (cap := c) (by omega) hkn hc
  have hMl : ((x0 :: x1 :: x2 :: x3 :: x4 :: x5 :: l).take (6 + k)).drop 6 = m := by
    rw [← hm, List.drop_take]; simp
  rw [hMl, Nat.add_sub_cancel_left] at hM
  clear hMl hm
  have hn0 : 0 < n := by omega
  have hn1 : (1 : Int) < n := by omega
  have hn2 : (2 : Int) < n := by omega
  have hn3 : (3 : Int) < n := by omega
  have hn4 : (4 : Int) < n := by omega
  have hn5 : (5 : Int) < n := by omega
  have hb0 := byte_lt x0
  have hb1 := byte_lt x1
  have hb2 := byte_lt x2
  have hb3 := byte_lt x3
  have hb4 := byte_lt x4
  have hb5 := byte_lt x5
  have w2 : IntKind.u32.wrap (x2.toNat : Int) = x2.toNat := IntWalk.u32_in _ (by omega)
  have w3 : IntKind.u32.wrap (x3.toNat : Int) = x3.toNat := IntWalk.u32_in _ (by omega)
  have w4 : IntKind.u32.wrap (x4.toNat : Int) = x4.toNat := IntWalk.u32_in _ (by omega)
  have w5 : IntKind.u32.wrap (x5.toNat : Int) = x5.toNat := IntWalk.u32_in _ (by omega)
  have v3 : IntKind.u32.wrap ((x3.toNat : Int) * 256) = x3.toNat * 256 := IntWalk.u32_in _ (by omega)
  have v4 : IntKind.u32.wrap ((x4.toNat : Int) * 65536) = x4.toNat * 65536 := IntWalk.u32_in _ (by omega)
  have v5 : IntKind.u32.wrap ((x5.toNat : Int) * 16777216) = x5.toNat * 16777216 := IntWalk.u32_in _ (by omega)
  have hle : (x0.toNat : Int) + 256 * (x1.toNat : Int) = ((x0.toNat + x1.toNat * 256 : Nat) : Int) := by omega
  have hwr : IntKind.i64.wrap ((x0.toNat : Int) + 256 * (x1.toNat : Int)) = (x0.toNat : Int) + 256 * (x1.toNat : Int) := IntWalk.i64_in _ (by omega)
  have hwq : IntKind.i64.wrap (256 * (x1.toNat : Int)) = 256 * (x1.toNat : Int) := IntWalk.i64_in _ (by omega)
  have hl4 := le4 x2 x3 x4 x5
  rw [hk] at hle
  rw [hs, ← hq] at hl4
  have hkl : k ≤ 65535 := by omega
  clear hk hs hq hA
  go_enter Try.func52, Try.ntmps52
  go_wp2
  go_quiet (fail)
  go_wp2
  · have hc6 : c = 6 := by assumption
    rw [if_pos hc6] at hM
    go_quiet ((go_at_call 44; exact quiet_add_left (refSum_any _ _ _ m _ hM (by omega))))
    go_wp2_with (at_builtin; refine wpList_append_V _ rfl (.tmp 54) (.tmp 55) 22 rfl w.heap.size 5 i0 (.int .u8 0) 1 Try.underlying22 hi0 hz0 hz1 hz2 rfl (.slice (some ⟨w.heap.size, 0, none⟩) 0 0) 0 [] (by rfl) (by exact World.ownsRow_made _ #[] 0 (Nat.le_refl _) (by simp [maxLen]) rfl) _ k _ (bv m) (by rfl) (by exact Bs.alloc hM _) (bv_one m) (by omega) (by simp only [maxLen]; omega) (by simp) ?_; intro v2 w2 hown2 hg2 hat2)
    go_ret3
    rw [Nat.zero_add, List.nil_append] at hown2
    refine ⟨v2, rfl, hown2, ((below_drewN' (Below.refl _ w) _).alloc (by simp) _).grown hg2 (by simp) (by simp [Value.ownBlock])⟩
  · have hc6 : ¬ c = 6 := by assumption
    rw [if_neg hc6] at hM
    simp only [Option.map_some, Addr.add_lit] at hM
    go_quiet ((go_at_call 44; exact quiet_add_left (refSum_any _ _ _ m _ hM (by omega))))
    go_wp2_with (at_builtin; refine wpList_append_V _ rfl (.tmp 54) (.tmp 55) 22 rfl w.heap.size 5 i0 (.int .u8 0) 1 Try.underlying22 hi0 hz0 hz1 hz2 rfl (.slice (some ⟨w.heap.size, 0, none⟩) 0 0) 0 [] (by rfl) (by exact World.ownsRow_made _ #[] 0 (Nat.le_refl _) (by simp [maxLen]) rfl) _ k _ (bv m) (by rfl) (by exact Bs.alloc hM _) (bv_one m) (by omega) (by simp only [maxLen]; omega) (by simp) ?_; intro v2 w2 hown2 hg2 hat2)
    go_ret3
    rw [Nat.zero_add, List.nil_append] at hown2
    refine ⟨v2, rfl, hown2, ((below_drewN' (Below.refl _ w) _).alloc (by simp) _).grown hg2 (by simp) (by simp [Value.ownBlock])⟩

set_option maxRecDepth 100000 in
theorem refOpen_bad (b o : Nat) (n c : Nat) (x0 x1 x2 x3 x4 x5 : UInt8) (l m : List UInt8) (k s : Nat) (w : World) (hA : Bs w (some ⟨b, o, none⟩) n (x0 :: x1 :: x2 :: x3 :: x4 :: x5 :: l)) (hc : n ≤ c) (hc2 : c ≤ 9223372036854775807)
    (hk : x0.toNat + x1.toNat * 256 = k) (hkn : 6 + k ≤ n) (hs : x2.toNat + x3.toNat * 256 + x4.toNat * 65536 + x5.toNat * 16777216 = s) (hm : l.take k = m) (hq : (crc m).toNat ≠ s) :
    Calls Try.prog 52 #[.slice (some ⟨b, o, none⟩) n c] w fun e w' => e = .returned (.tuple #[.slice none 0 0, .int .i64 0, .int .i64 10]) ∧ Below w.heap.size w w' := by
  have h0 : w.cell? ⟨b, o, none⟩ = some (.int .u8 (x0.toNat : Int)) := hA.cellAt (k := 0) (by simp)
  have h1 : w.cell? ⟨b, o + 1, none⟩ = some (.int .u8 (x1.toNat : Int)) := hA.cellAt (k := 1) (by simp)
  have h2 : w.cell? ⟨b, o + 2, none⟩ = some (.int .u8 (x2.toNat : Int)) := hA.cellAt (k := 2) (by simp)
  have h3 : w.cell? ⟨b, o + 3, none⟩ = some (.int .u8 (x3.toNat : Int)) := hA.cellAt (k := 3) (by simp)
  have h4 : w.cell? ⟨b, o + 4, none⟩ = some (.int .u8 (x4.toNat : Int)) := hA.cellAt (k := 4) (by simp)
  have h5 : w.cell? ⟨b, o + 5, none⟩ = some (.int .u8 (x5.toNat : Int)) := hA.cellAt (k := 5) (by simp)
  have hM := hA.mid_ (j := 6) (k := 6 + k) (cap := c) (by omega) hkn hc
  have hMl : ((x0 :: x1 :: x2 :: x3 :: x4 :: x5 :: l).take (6 + k)).drop 6 = m := by
    rw [← hm, List.drop_take]; simp
  rw [hMl, Nat.add_sub_cancel_left] at hM
  clear hMl hm
  have hn0 : 0 < n := by omega
  have hn1 : (1 : Int) < n := by omega
  have hn2 : (2 : Int) < n := by omega
  have hn3 : (3 : Int) < n := by omega
  have hn4 : (4 : Int) < n := by omega
  have hn5 : (5 : Int) < n := by omega
  have hb0 := byte_lt x0
  have hb1 := byte_lt x1
  have hb2 := byte_lt x2
  have hb3 := byte_lt x3
  have hb4 := byte_lt x4
  have hb5 := byte_lt x5
  have w2 : IntKind.u32.wrap (x2.toNat : Int) = x2.toNat := IntWalk.u32_in _ (by omega)
  have w3 : IntKind.u32.wrap (x3.toNat : Int) = x3.toNat := IntWalk.u32_in _ (by omega)
  have w4 : IntKind.u32.wrap (x4.toNat : Int) = x4.toNat := IntWalk.u32_in _ (by omega)
  have w5 : IntKind.u32.wrap (x5.toNat : Int) = x5.toNat := IntWalk.u32_in _ (by omega)
  have v3 : IntKind.u32.wrap ((x3.toNat : Int) * 256) = x3.toNat * 256 := IntWalk.u32_in _ (by omega)
  have v4 : IntKind.u32.wrap ((x4.toNat : Int) * 65536) = x4.toNat * 65536 := IntWalk.u32_in _ (by omega)
  have v5 : IntKind.u32.wrap ((x5.toNat : Int) * 16777216) = x5.toNat * 16777216 := IntWalk.u32_in _ (by omega)
  have hle : (x0.toNat : Int) + 256 * (x1.toNat : Int) = ((x0.toNat + x1.toNat * 256 : Nat) : Int) := by omega
  have hwr : IntKind.i64.wrap ((x0.toNat : Int) + 256 * (x1.toNat : Int)) = (x0.toNat : Int) + 256 * (x1.toNat : Int) := IntWalk.i64_in _ (by omega)
  have hwq : IntKind.i64.wrap (256 * (x1.toNat : Int)) = 256 * (x1.toNat : Int) := IntWalk.i64_in _ (by omega)
  have hl4 := le4 x2 x3 x4 x5
  rw [hk] at hle
  rw [hs] at hl4
  have hkl : k ≤ 65535 := by omega
  have hne : (((crc m).toNat : Int) != (s : Int)) = true := by
    rw [bne_iff_ne]; omega
  clear hk hs hq hA
  go_enter Try.func52, Try.ntmps52
  go_wp2
  go_quiet (fail)
  go_wp2
  · have hc6 : c = 6 := by assumption
    rw [if_pos hc6] at hM
    go_quiet ((go_at_call 44; exact quiet_add_left (refSum_any _ _ _ m _ hM (by omega))))
    go_wp2
    go_ret3
    refine ⟨rfl, below_drewN' (below_drewN' (Below.refl _ w) _) _⟩
  · have hc6 : ¬ c = 6 := by assumption
    rw [if_neg hc6] at hM
    simp only [Option.map_some, Addr.add_lit] at hM
    go_quiet ((go_at_call 44; exact quiet_add_left (refSum_any _ _ _ m _ hM (by omega))))
    go_wp2
    go_ret3
    refine ⟨rfl, below_drewN' (below_drewN' (Below.refl _ w) _) _⟩

set_option maxRecDepth 100000 in
/-- Open, whatever the bytes -/
theorem refOpen_full (A : Option Addr) (n c : Nat) (l : List UInt8) (w : World) (hA : Bs w A n l) (hc : n ≤ c) (hc2 : c ≤ 9223372036854775807) :
    Calls Try.prog 52 #[.slice A n c] w fun e w' => ∃ v, e = .returned (.tuple #[v, .int .i64 ((opened l).2.1 : Int), .int .i64 ((opened l).2.2 : Int)]) ∧
      w'.ownsRow w.heap.size 5 1 v (opened l).1.length (bv (opened l).1) ∧ Below w.heap.size w w' := by
  by_cases h6 : n < 6
  · refine Calls.mono (refOpen_cut A n c w h6) ?_
    rintro e w' ⟨rfl, rfl⟩
    have : opened l = ([], 0, 8) := by unfold opened; rw [if_pos (by rw [hA.len]; exact h6)]
    rw [this]
    exact ⟨_, rfl, World.ownsRow_nil _ _ _ _, Below.refl _ _⟩
  · obtain ⟨b, o, rfl⟩ := hA.some_ (by omega)
    have hl := hA.len
    match l, hA, hl with
    | x0 :: x1 :: x2 :: x3 :: x4 :: x5 :: t, hA, hl =>
      have e2 : le ((x0 :: x1 :: x2 :: x3 :: x4 :: x5 :: t).take 2) = x0.toNat + x1.toNat * 256 := by simp [le]; omega
      have e4 : le (((x0 :: x1 :: x2 :: x3 :: x4 :: x5 :: t).drop 2).take 4) = x2.toNat + x3.toNat * 256 + x4.toNat * 65536 + x5.toNat * 16777216 := by simp [le]; omega
      have ed : (x0 :: x1 :: x2 :: x3 :: x4 :: x5 :: t).drop 6 = t := rfl
      by_cases hk : n < 6 + (x0.toNat + x1.toNat * 256)
      · refine Calls.mono (refOpen_short b o n c x0 x1 _ w hA (by omega) hc hc2 hk) ?_
        rintro e w' ⟨rfl, d, rfl⟩
        have : opened (x0 :: x1 :: x2 :: x3 :: x4 :: x5 :: t) = ([], 0, 8) := by
          unfold opened
          rw [if_neg (by omega), e2, if_pos (by omega)]
        rw [this]
        exact ⟨_, rfl, World.ownsRow_nil _ _ _ _, below_drewN' (Below.refl _ _) _⟩
      · by_cases hq : (crc (t.take (x0.toNat + x1.toNat * 256))).toNat = x2.toNat + x3.toNat * 256 + x4.toNat * 65536 + x5.toNat * 16777216
        · refine Calls.mono (refOpen_any b o n c x0 x1 x2 x3 x4 x5 t _ _ _ w hA hc hc2 rfl (by omega) rfl rfl hq) ?_
          rintro e w' ⟨v, rfl, hown, hb⟩
          have : opened (x0 :: x1 :: x2 :: x3 :: x4 :: x5 :: t) = (t.take (x0.toNat + x1.toNat * 256), 6 + (x0.toNat + x1.toNat * 256), 0) := by
            unfold opened
            rw [if_neg (by omega), e2, if_neg (by omega), ed, e4, if_neg (by omega)]
          rw [this]
          refine ⟨v, rfl, ?_, hb⟩
          have hll : (t.take (x0.toNat + x1.toNat * 256)).length = x0.toNat + x1.toNat * 256 := by
            simp only [List.length_cons] at hl
            rw [List.length_take]; omega
          dsimp only
          rw [hll]
          exact hown
        · refine Calls.mono (refOpen_bad b o n c x0 x1 x2 x3 x4 x5 t _ _ _ w hA hc hc2 rfl (by omega) rfl rfl hq) ?_
          rintro e w' ⟨rfl, hb⟩
          have : opened (x0 :: x1 :: x2 :: x3 :: x4 :: x5 :: t) = ([], 0, 10) := by
            unfold opened
            rw [if_neg (by omega), e2, if_neg (by omega), ed, e4, if_pos hq]
          rw [this]
          exact ⟨_, rfl, World.ownsRow_nil _ _ _ _, hb⟩
    | [], _, hl => simp at hl; omega
    | [_], _, hl => simp at hl; omega
    | [_, _], _, hl => simp at hl; omega
    | [_, _, _], _, hl => simp at hl; omega
    | [_, _, _, _], _, hl => simp at hl; omega
    | [_, _, _, _, _], _, hl => simp at hl; omega
end Go.Proofs.Ytkgenkkcgegcbaa
