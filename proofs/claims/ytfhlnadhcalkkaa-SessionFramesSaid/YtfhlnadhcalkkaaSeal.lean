/- The document's Parse (chapter 17). Of, SameFrame. crc.Seal and the reference's Seal: what each returns. -/
import Derived.Test.YtfhlnadhcalkkaaSesParR
import Derived.Test.YtfhlnadhcalkkaaSesCount
import Derived.Test.YtfhlnadhcalkkaaKnOps
import Derived.Test.YtfhlnadhcalkkaaChecked
import Derived.Test.YtfhlnadhcalkkaaOpen
import Derived.Test.YtfhlnadhcalkkaaConcat
import Derived.Test.YtfhlnadhcalkkaaSesFrmP
namespace Go.Proofs.Ytfhlnadhcalkkaa
open Go.RowKit
attribute [local go_sem] ev_tmp ev_const ev_func ev_global lk_hit lk_miss uponK_value uponK_skip look_tmp look_const look_global look_func valP_value
set_option maxRecDepth 100000 in
set_option maxHeartbeats 1000000 in
theorem rparse_any (A : Option Addr) (n c : Nat) (b : List UInt8) (w : World) (hA : Bs w A n b) (hn : n ≤ 1000000) (hc : n ≤ c) (hc2 : c ≤ 9223372036854775807) :
    Calls Try.prog 28 #[.slice A n c] w (ParseP b w) := by
  have HLN := Lib.hid hA.len
  have HON : Hid ((opened b).2.1 ≤ n) := Lib.hid (by rw [← hA.len]; exact opened_n b)
  have HOL : Hid ((opened b).1.length ≤ n) := Lib.hid (by rw [← hA.len]; exact opened_len b)
  refine calls_kw Try.func28 rfl Try.ntmps28 rfl [(0, .slice A n c)] rfl ?_
  refine kw_seq ?_
  refine kw_region ?_
  refine kl_zeroL (Lay.start w) rfrmZero rfl rfl rfl rfl ?_
  intro g2 w1 eg hb1 hL
  replace hA := hA.keep (.of_below hb1)
  clear eg hb1
  repeat (first | refine kw_seq ?_ | refine kw_block ?_ | refine kw_skip ?_ | refine kw_region ?_ | refine kl_nil ?_ | refine kq_then ?_ | refine kq_block ?_ | refine kw_exit ?_ | refine kq_then_exit ?_ | refine kq_block_here rfl ?_ | refine kq_block_far rfl ?_ | refine kq_again_exit ?_ | refine kw_ret ?_ | refine kq_then_ret ?_ | refine kq_block_ret ?_ | refine kq_again_ret ?_ | refine kw_ift rfl ?_ | refine kw_iff rfl ?_ | refine kl_ung rfl rfl ?_ | refine kl_skipg rfl rfl rfl rfl ?_ | refine kl_skipg0 rfl rfl rfl ?_ | (first | refine kl_move rfl rfl (.inl rfl) rfl rfl ?_ | refine kl_move rfl rfl (.inr rfl) rfl rfl ?_ | refine kl_const rfl rfl (.inl rfl) rfl ?_ | refine kl_const rfl rfl (.inr rfl) rfl ?_) | ((first | refine kl_step rfl rfl rfl fun K hK => ?_ | refine kl_step0 rfl rfl rfl fun K hK => ?_); go_simp; (try go_bits); (first | refine hK _ _ ?_ | refine hK _ ?_); clear hK K))
  refine kl_call rfl rfl rfl Try.func53 rfl (by kernel_rfl) rfl ?_
  refine Calls.mono (refOpen_full A n c b w1 hA hc hc2) ?_
  rintro e w2 ⟨v, rfl, hv, hb2⟩
  have hL := hL.next hb2
  obtain ⟨A4, c4, rfl, hB4, hc4, hc4'⟩ := own_B hv
  clear hv hb2 hA
  obtain ⟨x, N, E, ho⟩ : ∃ x N E, opened b = (x, N, E) := ⟨_, _, _, rfl⟩
  have HO := Lib.hid ho
  rw [ho] at HON HOL hB4 hc4 ⊢
  replace HON : Hid (N ≤ n) := HON
  replace HOL : Hid (x.length ≤ n) := HOL
  replace hB4 : Bs w2 A4 x.length x := hB4
  replace hc4 : x.length ≤ c4 := hc4
  show ∃ v, Ending.returned (.tuple #[.slice A4 x.length c4, .int .i64 (N : Int), .int .i64 (E : Int)]) = .returned v ∧ _
  clear ho
  refine ⟨_, rfl, ?_⟩
  by_cases hE : E = 0
  · subst hE
    have t0 : (((0 : Nat) : Int) != 0) = false := rfl
    by_cases hNn : N < n
    · have t1 : decide ((N : Int) < (n : Int)) = true := by rw [decide_eq_true_eq]; omega
      have t2 : decide (N < n) = true := by rw [decide_eq_true_eq]; exact hNn
      have HP : Hid (parseF b = (zeroFrm, 9)) := Lib.hid (by unfold parseF; rw [HO.out]; simp only; rw [if_neg (by omega), if_pos (by rw [HLN.out]; exact hNn)])
      clear hNn
      repeat (first | refine kw_seq ?_ | refine kw_block ?_ | refine kw_skip ?_ | refine kw_region ?_ | refine kl_nil ?_ | refine kq_then ?_ | refine kq_block ?_ | refine kw_exit ?_ | refine kq_then_exit ?_ | refine kq_block_here rfl ?_ | refine kq_block_far rfl ?_ | refine kq_again_exit ?_ | refine kw_ret ?_ | refine kq_then_ret ?_ | refine kq_block_ret ?_ | refine kq_again_ret ?_ | refine kw_ift rfl ?_ | refine kw_iff rfl ?_ | refine kl_ung rfl rfl ?_ | refine kl_skipg rfl rfl rfl rfl ?_ | refine kl_skipg0 rfl rfl rfl ?_ | refine kl_build 39 _ zFrm.toArray rfl rfl rfl (by rfl) (by rfl) rfrm_zero_built ?_ | refine kl_putL (cells := zFrm.toArray) hL 0 rfl (rinfoF zeroFrm _ z32_len) rfl (frmV_one zeroFrm _ rfl) rfl rfl rfl rfl rfl (fun hL2 => ?_) | (first | refine kl_move rfl rfl (.inl rfl) rfl rfl ?_ | refine kl_move rfl rfl (.inr rfl) rfl rfl ?_ | refine kl_const rfl rfl (.inl rfl) rfl ?_ | refine kl_const rfl rfl (.inr rfl) rfl ?_) | ((first | refine kl_step rfl rfl rfl fun K hK => ?_ | refine kl_step0 rfl rfl rfl fun K hK => ?_); go_simp; (try go_bits); (first | refine hK _ _ ?_ | refine hK _ ?_); clear hK K))
      refine kq_retv (v := .tuple #[.agg zFrm.toArray, .int .i64 9]) (fun a k => results_row_tmp rfl _ _ g2 39 zFrm.toArray (0, 0) _ _ (k.slot 2 rfl) (k.slot 3 rfl) (hL2.at_ 0 rfl) Try.underlying39 rfl (rinfoF zeroFrm _ z32_len)) ?_
      refine ⟨.slice none 0 0, ?_⟩
      rw [HP.out]
      exact ⟨rfl, zeroFrm_m _, hL2.below⟩
    · have t1 : decide ((N : Int) < (n : Int)) = false := by rw [decide_eq_false_iff_not]; omega
      have t2 : decide (N < n) = false := by rw [decide_eq_false_iff_not]; exact hNn
      have HP : Hid (parseF b = parseX x) := Lib.hid (by unfold parseF; rw [HO.out]; simp only; rw [if_neg (by omega), if_neg (by rw [HLN.out]; exact hNn)])
      clear hNn
      repeat (first | refine kw_seq ?_ | refine kw_block ?_ | refine kw_skip ?_ | refine kw_region ?_ | refine kl_nil ?_ | refine kq_then ?_ | refine kq_block ?_ | refine kw_exit ?_ | refine kq_then_exit ?_ | refine kq_block_here rfl ?_ | refine kq_block_far rfl ?_ | refine kq_again_exit ?_ | refine kw_ret ?_ | refine kq_then_ret ?_ | refine kq_block_ret ?_ | refine kq_again_ret ?_ | refine kw_ift rfl ?_ | refine kw_iff rfl ?_ | refine kl_ung rfl rfl ?_ | refine kl_skipg rfl rfl rfl rfl ?_ | refine kl_skipg0 rfl rfl rfl ?_ | (first | refine kl_move rfl rfl (.inl rfl) rfl rfl ?_ | refine kl_move rfl rfl (.inr rfl) rfl rfl ?_ | refine kl_const rfl rfl (.inl rfl) rfl ?_ | refine kl_const rfl rfl (.inr rfl) rfl ?_) | ((first | refine kl_step rfl rfl rfl fun K hK => ?_ | refine kl_step0 rfl rfl rfl fun K hK => ?_); go_simp; (try go_bits); (first | refine hK _ _ ?_ | refine hK _ ?_); clear hK K))
      refine kl_call rfl rfl rfl Try.func54 rfl (by kernel_rfl) rfl ?_
      refine Calls.mono (rrNew A4 x.length c4 x hL hB4 (by have := HOL.out; omega) hc4 hc4') ?_
      rintro e w3 ⟨g, rfl, hg, hR⟩
      have hB : w.heap.size ≤ g := Nat.le_trans hL.below.size hg
      have h2 : g2 < g := Nat.lt_of_lt_of_le (hL.lt 0 rfl) hg
      clear hg hL hB4
      refine ⟨_, rfl, ?_⟩
      repeat (first | refine kw_seq ?_ | refine kw_block ?_ | refine kw_skip ?_ | refine kw_region ?_ | refine kl_nil ?_ | refine kq_then ?_ | refine kq_block ?_ | refine kw_exit ?_ | refine kq_then_exit ?_ | refine kq_block_here rfl ?_ | refine kq_block_far rfl ?_ | refine kq_again_exit ?_ | refine kw_ret ?_ | refine kq_then_ret ?_ | refine kq_block_ret ?_ | refine kq_again_ret ?_ | refine kw_ift rfl ?_ | refine kw_iff rfl ?_ | refine kl_ung rfl rfl ?_ | refine kl_skipg rfl rfl rfl rfl ?_ | refine kl_skipg0 rfl rfl rfl ?_ | (first | refine kl_move rfl rfl (.inl rfl) rfl rfl ?_ | refine kl_move rfl rfl (.inr rfl) rfl rfl ?_ | refine kl_const rfl rfl (.inl rfl) rfl ?_ | refine kl_const rfl rfl (.inr rfl) rfl ?_) | ((first | refine kl_step rfl rfl rfl fun K hK => ?_ | refine kl_step0 rfl rfl rfl fun K hK => ?_); go_simp; (try go_bits); (first | refine hK _ _ ?_ | refine hK _ ?_); clear hK K))
      refine kl_call rfl rfl rfl Try.func55 rfl (by kernel_rfl) rfl ?_
      refine Calls.mono (rrInt hR) ?_
      rintro e w5 ⟨rfl, hR2⟩
      clear hR
      have hK := tkN_64 (taken x 0 8)
      unfold parseX at HP
      obtain ⟨K, l1, e1, hq⟩ : ∃ K l1 e1, tkN (taken x 0 8) = K ∧ (taken x 0 8).2.1 = l1 ∧ (taken x 0 8).2.2 = e1 := ⟨_, _, _, rfl, rfl, rfl⟩
      rw [hq.2.1, hq.2.2] at hR2
      rw [hq.2.1, hq.2.2, hq.1] at HP
      rw [hq.1] at hK ⊢
      clear hq
      have hR := hR2
      clear hR2
      refine ⟨_, rfl, ?_⟩
      refine kl_build 39 _ (frmV ⟨K, 0, 0, 0, z32, []⟩ (.slice none 0 0)).toArray rfl rfl rfl (by rfl) (by rfl) (rfrm_kind_built K) ?_
      refine kl_varR (d := 8) (y := 29) (cells := (frmV ⟨K, 0, 0, 0, z32, []⟩ (.slice none 0 0)).toArray) hR rfrmZero (rinfoF _ _ z32_len) (sizeZF _ _ z32_len) (frmV_one _ _ rfl) rfl rfl rfl rfl rfl rfl rfl rfl rfl ?_
      intro g8 w6 h8 hb6 hR
      clear hb6
      have c8 := hR.get (j := 0) 0 rfl (frm_0 _ _)
      have ce := hR.err
      have fin : ∀ (W : World) (l : List UInt8) (e : Int), Rd false w W [(g8, (frmV ⟨K, 0, 0, 0, z32, []⟩ (.slice none 0 0)).toArray, 39), (g2, zFrm.toArray, 39)] g l e → parseF b = parseZ K l e → KW Try.prog (restAt Try.f28 10) (bodyPost Try.prog Try.f28 (ParseP b w)) 91 [(2, .pointer (some ⟨g2, 0, none⟩)), (7, .pointer (some ⟨g, 0, none⟩)), (8, .pointer (some ⟨g8, 0, none⟩))] W := fun W l e hR hp => rparse_rest hB h2 h8 hK hR hp
      have HF := Lib.hid fin
      clear fin
      by_cases h0 : e1 = 0
      · subst h0
        have t9 : ((0 : Int) == 0) = true := rfl
        by_cases hk : K < 1 ∨ 5 < K
        · have hkE := kindE_out 0 hk
          rw [hkE] at HP
          have hcase : decide (K < 1) = true ∨ (decide (K < 1) = false ∧ decide (5 < K) = true) := by simp only [decide_eq_true_eq, decide_eq_false_iff_not]; omega
          clear hk hkE
          rcases hcase with t3 | ⟨t3, t4⟩
          all_goals
            repeat (first | refine kw_seq ?_ | refine kw_region ?_ | refine kl_nil ?_ | refine kq_then ?_ | refine kl_ung rfl rfl ?_ | refine kl_skipg rfl rfl rfl rfl ?_ | refine kl_skipg0 rfl rfl rfl ?_ | (first | refine kl_move rfl rfl (.inl rfl) rfl rfl ?_ | refine kl_move rfl rfl (.inr rfl) rfl rfl ?_ | refine kl_const rfl rfl (.inl rfl) rfl ?_ | refine kl_const rfl rfl (.inr rfl) rfl ?_) | ((first | refine kl_step rfl rfl rfl fun K hK => ?_ | refine kl_step0 rfl rfl rfl fun K hK => ?_); go_simp; (try go_bits); (first | refine hK _ _ ?_ | refine hK _ ?_); clear hK K))
            refine kw_ift rfl ?_
            repeat (first | refine kw_seq ?_ | refine kw_region ?_ | refine kl_nil ?_ | refine kq_then ?_ | refine kl_ung rfl rfl ?_ | refine kl_skipg rfl rfl rfl rfl ?_ | refine kl_skipg0 rfl rfl rfl ?_ | (first | refine kl_move rfl rfl (.inl rfl) rfl rfl ?_ | refine kl_move rfl rfl (.inr rfl) rfl rfl ?_ | refine kl_const rfl rfl (.inl rfl) rfl ?_ | refine kl_const rfl rfl (.inr rfl) rfl ?_) | ((first | refine kl_step rfl rfl rfl fun K hK => ?_ | refine kl_step0 rfl rfl rfl fun K hK => ?_); go_simp; (try go_bits); (first | refine hK _ _ ?_ | refine hK _ ?_); clear hK K))
            refine kl_call rfl rfl rfl Try.func56 rfl (by kernel_rfl) rfl ?_
            refine Calls.mono (rrFail 3 hR) ?_
            rintro e w7 ⟨rfl, hR2⟩
            refine ⟨_, rfl, ?_⟩
            refine kl_nil ?_
            refine kq_then ?_
            refine KW.less [2, 7, 8] ?_
            simp only [nrm, lk, Nat.reduceBEq, cond_true, cond_false]
            exact HF.out _ _ _ hR2 HP.out
        · have hkE := kindE_in 0 hk
          rw [hkE] at HP
          have t3 : decide (K < 1) = false := by rw [decide_eq_false_iff_not]; omega
          have t4 : decide (5 < K) = false := by rw [decide_eq_false_iff_not]; omega
          clear hk hkE
          repeat (first | refine kw_seq ?_ | refine kw_region ?_ | refine kl_nil ?_ | refine kq_then ?_ | refine kl_ung rfl rfl ?_ | refine kl_skipg rfl rfl rfl rfl ?_ | refine kl_skipg0 rfl rfl rfl ?_ | (first | refine kl_move rfl rfl (.inl rfl) rfl rfl ?_ | refine kl_move rfl rfl (.inr rfl) rfl rfl ?_ | refine kl_const rfl rfl (.inl rfl) rfl ?_ | refine kl_const rfl rfl (.inr rfl) rfl ?_) | ((first | refine kl_step rfl rfl rfl fun K hK => ?_ | refine kl_step0 rfl rfl rfl fun K hK => ?_); go_simp; (try go_bits); (first | refine hK _ _ ?_ | refine hK _ ?_); clear hK K))
          refine kw_iff rfl ?_
          refine kw_skip ?_
          refine kq_then ?_
          refine KW.less [2, 7, 8] ?_
          simp only [nrm, lk, Nat.reduceBEq, cond_true, cond_false]
          exact HF.out _ _ _ hR HP.out
      · have hkE : kindE K e1 = e1 := by unfold kindE; rw [if_neg h0]
        rw [hkE] at HP
        have t9 : (e1 == 0) = false := by rw [beq_eq_false_iff_ne]; exact h0
        clear h0 hkE
        repeat (first | refine kw_seq ?_ | refine kw_region ?_ | refine kl_nil ?_ | refine kq_then ?_ | refine kl_ung rfl rfl ?_ | refine kl_skipg rfl rfl rfl rfl ?_ | refine kl_skipg0 rfl rfl rfl ?_ | (first | refine kl_move rfl rfl (.inl rfl) rfl rfl ?_ | refine kl_move rfl rfl (.inr rfl) rfl rfl ?_ | refine kl_const rfl rfl (.inl rfl) rfl ?_ | refine kl_const rfl rfl (.inr rfl) rfl ?_) | ((first | refine kl_step rfl rfl rfl fun K hK => ?_ | refine kl_step0 rfl rfl rfl fun K hK => ?_); go_simp; (try go_bits); (first | refine hK _ _ ?_ | refine hK _ ?_); clear hK K))
        refine kw_iff rfl ?_
        refine kw_skip ?_
        refine kq_then ?_
        refine KW.less [2, 7, 8] ?_
        simp only [nrm, lk, Nat.reduceBEq, cond_true, cond_false]
        exact HF.out _ _ _ hR HP.out
  · have t0 : ((E : Int) != 0) = true := by rw [bne_iff_ne]; omega
    have HP : Hid (parseF b = (zeroFrm, (E : Int))) := Lib.hid (by unfold parseF; rw [HO.out]; simp only; rw [if_pos hE])
    clear hE
    repeat (first | refine kw_seq ?_ | refine kw_block ?_ | refine kw_skip ?_ | refine kw_region ?_ | refine kl_nil ?_ | refine kq_then ?_ | refine kq_block ?_ | refine kw_exit ?_ | refine kq_then_exit ?_ | refine kq_block_here rfl ?_ | refine kq_block_far rfl ?_ | refine kq_again_exit ?_ | refine kw_ret ?_ | refine kq_then_ret ?_ | refine kq_block_ret ?_ | refine kq_again_ret ?_ | refine kw_ift rfl ?_ | refine kw_iff rfl ?_ | refine kl_ung rfl rfl ?_ | refine kl_skipg rfl rfl rfl rfl ?_ | refine kl_skipg0 rfl rfl rfl ?_ | refine kl_build 39 _ zFrm.toArray rfl rfl rfl (by rfl) (by rfl) rfrm_zero_built ?_ | refine kl_putL (cells := zFrm.toArray) hL 0 rfl (rinfoF zeroFrm _ z32_len) rfl (frmV_one zeroFrm _ rfl) rfl rfl rfl rfl rfl (fun hL2 => ?_) | (first | refine kl_move rfl rfl (.inl rfl) rfl rfl ?_ | refine kl_move rfl rfl (.inr rfl) rfl rfl ?_ | refine kl_const rfl rfl (.inl rfl) rfl ?_ | refine kl_const rfl rfl (.inr rfl) rfl ?_) | ((first | refine kl_step rfl rfl rfl fun K hK => ?_ | refine kl_step0 rfl rfl rfl fun K hK => ?_); go_simp; (try go_bits); (first | refine hK _ _ ?_ | refine hK _ ?_); clear hK K))
    refine kq_retv (v := .tuple #[.agg zFrm.toArray, .int .i64 (E : Int)]) (fun a k => results_row_tmp rfl _ _ g2 39 zFrm.toArray (0, 0) _ _ (k.slot 2 rfl) (k.slot 3 rfl) (hL2.at_ 0 rfl) Try.underlying39 rfl (rinfoF zeroFrm _ z32_len)) ?_
    refine ⟨.slice none 0 0, ?_⟩
    rw [HP.out]
    exact ⟨rfl, zeroFrm_m _, hL2.below⟩
end Go.Proofs.Ytfhlnadhcalkkaa
namespace Go.Proofs.Ytfhlnadhcalkkaa
open Go.RowKit
attribute [local go_sem] ev_tmp ev_const ev_func ev_global lk_hit lk_miss uponK_value uponK_skip look_tmp look_const look_global look_func valP_value
theorem rfrm_built (f : Frm) (D : Value) (h : f.sum.length = 32) (hD : D.cells = [D].toArray) :
    Try.prog.built 39 [(0, .int .i64 f.kind), (1, .int .i64 f.id), (2, .int .i64 f.size), (3, .int .i64 f.at_), (4, .agg (bv f.sum).toArray), (5, D)] = some (frmV f D).toArray := by
  obtain ⟨fs, hu, hp⟩ := rfrmUnder
  rw [built_struct rfrmZero hu hp]
  have hz : zFrm.length = 37 := length_frmV _ _ z32_len
  have h1 := fill_step ([(0, 1), (1, 1), (2, 1), (3, 1), (4, 32), (36, 1)].toArray[·]?) [] zFrm 0 _ _ (cells_int .i64 f.kind) rfl (by simp [hz])
  simp only [List.nil_append] at h1
  rw [h1, fill_step _ _ _ 1 _ _ (cells_int .i64 f.id) rfl (by simp [hz]), fill_step _ _ _ 2 _ _ (cells_int .i64 f.size) rfl (by simp [hz]), fill_step _ _ _ 3 _ _ (cells_int .i64 f.at_) rfl (by simp [hz]), fill_step _ _ _ 4 _ _ (cells_agg (bv f.sum)) (by simp [length_bv, h]) (by simp [hz, length_bv, h]),
    fill_step _ _ _ 5 _ _ hD (by simp [length_bv, h]) (by simp [hz, length_bv, h]), fill_nil]
  refine congrArg (fun l : List Value => some l.toArray) ?_
  rw [List.drop_drop, List.drop_drop, List.drop_drop, List.drop_drop, List.drop_drop, List.drop_of_length_le (by simp [hz, length_bv, h])]
  simp [frmV]
theorem hashSize' (l : List UInt8) (h : l.length = 32) : (Try.prog.info? 26).map (·.size) = some (bv l).length := by rw [length_bv, h]; kernel_rfl
set_option maxRecDepth 100000 in
set_option maxHeartbeats 1000000 in
theorem of17_any (f : Frm) (D : Value) (w : World) (hM : FrmM w f D) :
    Calls Try.prog 12 #[.agg (frmV f D).toArray] w fun e w' => e = .returned (.agg (frmV f D).toArray) ∧ Below w.heap.size w w' := by
  have HS := Lib.hid hM.sum
  obtain ⟨AD, nD, cD, rfl, hBD, _, _⟩ := hM.data
  refine calls_kw Try.func12 rfl Try.ntmps12 rfl [(0, .agg (frmV f (.slice AD nD cD)).toArray)] rfl ?_
  refine kw_seq ?_
  refine kw_region ?_
  refine kl_boxL (Lay.start w) rfl rfl rfl rfl rfl ?_
  intro g1 w1 eg1 hb1 hL
  refine kl_zeroL hL rfrmZero rfl rfl rfl rfl ?_
  intro g2 w2 eg2 hb2 hL
  clear eg1 eg2 hb1 hb2 hM hBD
  have a0 := hL.get (j := 0) 1 rfl (frm_0 f _)
  have a1 := hL.get (j := 1) 1 rfl (frm_1 f _)
  have a2 := hL.get (j := 2) 1 rfl (frm_2 f _)
  have a3 := hL.get (j := 3) 1 rfl (frm_3 f _)
  have a36 := hL.get (j := 36) 1 rfl (frm_36 f _ HS.out)
  have hsF := Lib.hid (frm_range (hL.at_ 1 rfl))
  refine kl_nil ?_
  refine kq_then ?_
  refine kw_seq ?_
  refine kw_region ?_
  repeat (first | refine kl_load_mid 26 g1 4 _ _ hsF.out Try.underlying26 rfl (hashSize' _ HS.out) rfl rfl rfl rfl rfl ?_ | (first | refine kl_move rfl rfl (.inl rfl) rfl rfl ?_ | refine kl_move rfl rfl (.inr rfl) rfl rfl ?_ | refine kl_const rfl rfl (.inl rfl) rfl ?_ | refine kl_const rfl rfl (.inr rfl) rfl ?_) | ((first | refine kl_step rfl rfl rfl fun K hK => ?_ | refine kl_step0 rfl rfl rfl fun K hK => ?_); go_simp; (try go_bits); (first | refine hK _ _ ?_ | refine hK _ ?_); clear hK K))
  refine kl_build 39 _ (frmV f (.slice AD nD cD)).toArray rfl rfl rfl (by rfl) (by rfl) (rfrm_built f (.slice AD nD cD) HS.out rfl) ?_
  refine kl_putL (cells := (frmV f (.slice AD nD cD)).toArray) hL 0 rfl (rinfoF f _ HS.out) (sizeZF f _ HS.out) (frmV_one f _ rfl) rfl rfl rfl rfl rfl (fun hL2 => ?_)
  refine kl_nil ?_
  refine kq_then ?_
  refine kw_ret ?_
  refine kq_retv (fun a k => results_cell_row rfl _ _ g2 39 (frmV f (.slice AD nD cD)).toArray (0, 0) _ (k.slot 2 rfl) (hL2.at_ 0 rfl) Try.underlying39 rfl (rinfoF f _ HS.out)) ?_
  exact ⟨rfl, hL2.below⟩
set_option maxRecDepth 100000 in
set_option maxHeartbeats 1000000 in
theorem sameFrame_any (f : Frm) (D D' : Value) (w : World) (hM : FrmM w f D) (hM' : FrmM w f D') :
    Calls Try.prog 29 #[.agg (frmV f D).toArray, .agg (frmV f D').toArray] w fun e w' => e = .returned (.bool true) ∧ Below w.heap.size w w' := by
  have HS := Lib.hid hM.sum
  obtain ⟨AD, nD, cD, rfl, hBD, _, _⟩ := hM.data
  obtain ⟨AE, nE, cE, rfl, hBE, _, _⟩ := hM'.data
  refine calls_kw Try.func29 rfl Try.ntmps29 rfl [(0, .agg (frmV f (.slice AD nD cD)).toArray), (1, .agg (frmV f (.slice AE nE cE)).toArray)] rfl ?_
  refine kw_seq ?_
  refine kw_region ?_
  refine kl_boxL (Lay.start w) rfl rfl rfl rfl rfl ?_
  intro g1 w1 eg1 hb1 hL
  refine kl_boxL hL rfl rfl rfl rfl rfl ?_
  intro g2 w2 eg2 hb2 hL
  replace hBD := (hBD.keep (.of_below hb1)).keep (.of_below hb2)
  replace hBE := (hBE.keep (.of_below hb1)).keep (.of_below hb2)
  clear eg1 eg2 hb1 hb2 hM hM'
  have a0 := hL.get (j := 0) 1 rfl (frm_0 f _)
  have a1 := hL.get (j := 1) 1 rfl (frm_1 f _)
  have a2 := hL.get (j := 2) 1 rfl (frm_2 f _)
  have a3 := hL.get (j := 3) 1 rfl (frm_3 f _)
  have a36 := hL.get (j := 36) 1 rfl (frm_36 f _ HS.out)
  have b0 := hL.get (j := 0) 0 rfl (frm_0 f _)
  have b1 := hL.get (j := 1) 0 rfl (frm_1 f _)
  have b2 := hL.get (j := 2) 0 rfl (frm_2 f _)
  have b3 := hL.get (j := 3) 0 rfl (frm_3 f _)
  have b36 := hL.get (j := 36) 0 rfl (frm_36 f _ HS.out)
  have hsF := Lib.hid (frm_range (hL.at_ 1 rfl))
  have hsG := Lib.hid (frm_range (hL.at_ 0 rfl))
  have he : ∀ W, (Op.equalIn 10000 26 (.agg (bv f.sum).toArray) (.agg (bv f.sum).toArray)).run Try.prog W = .ok true W := fun W => by rw [eqH W _ _ HS.out HS.out, beq_self_eq_true]
  have hcv1 := convB (c := cD) hBD
  have hcv2 := convB (c := cE) hBE
  clear hBD hBE
  repeat (first | refine kw_seq ?_ | refine kw_block ?_ | refine kw_skip ?_ | refine kw_region ?_ | refine kl_nil ?_ | refine kq_then ?_ | refine kq_block ?_ | refine kw_exit ?_ | refine kq_then_exit ?_ | refine kq_block_here rfl ?_ | refine kq_block_far rfl ?_ | refine kq_again_exit ?_ | refine kw_ret ?_ | refine kq_then_ret ?_ | refine kq_block_ret ?_ | refine kq_again_ret ?_ | refine kw_ift rfl ?_ | refine kw_iff rfl ?_ | refine kl_ung rfl rfl ?_ | refine kl_skipg rfl rfl rfl rfl ?_ | refine kl_skipg0 rfl rfl rfl ?_ | refine kl_load_mid 26 g1 4 _ _ hsF.out Try.underlying26 rfl (hashSize' _ HS.out) rfl rfl rfl rfl rfl ?_ | refine kl_load_mid 26 g2 4 _ _ hsG.out Try.underlying26 rfl (hashSize' _ HS.out) rfl rfl rfl rfl rfl ?_ | (first | refine kl_move rfl rfl (.inl rfl) rfl rfl ?_ | refine kl_move rfl rfl (.inr rfl) rfl rfl ?_ | refine kl_const rfl rfl (.inl rfl) rfl ?_ | refine kl_const rfl rfl (.inr rfl) rfl ?_) | ((first | refine kl_step rfl rfl rfl fun K hK => ?_ | refine kl_step0 rfl rfl rfl fun K hK => ?_); go_simp; (try go_bits); (first | refine hK _ _ ?_ | refine hK _ ?_); clear hK K))
  exact kq_ret1 rfl rfl ⟨rfl, hL.below⟩
end Go.Proofs.Ytfhlnadhcalkkaa
namespace Go.Proofs.Ytfhlnadhcalkkaa
open Go.RowKit

theorem seal_none (A : Option Addr) (n c : Nat) (w : World) (hn : 65535 < n) (hn2 : n ≤ 140737488355328) :
    Calls Try.prog 42 #[.slice A n c] w fun e w' => e = .returned (.slice none 0 0) ∧ w = w' := by
  go_enter Try.func42, Try.ntmps42
  go_wp2
  go_ret
  exact ⟨rfl, rfl⟩

theorem seal_any (A : Option Addr) (n c : Nat) (l : List UInt8) (w : World) (hA : Bs w A n l) (hn : n ≤ 65535) (hc : n ≤ c) (hc2 : c ≤ 9223372036854775807) :
    Calls Try.prog 42 #[.slice A n c] w fun e w' => ∃ v, e = .returned v ∧ w'.ownsRow w.heap.size 5 1 v (n + 6) (bv (sealed l)) ∧ Below w.heap.size w w' := by
  go_enter Try.func42, Try.ntmps42
  go_wp2_with (go_at_call 64; refine (crcSum_any _ _ _ [l] _ (Ps.lit1 _ rfl hA hc hc2) (by omega)).mono ?_; rintro e w1 ⟨rfl, rfl⟩)
  refine (concat_any _ _ _ [sealHead l, l] _ ?hP (by omega) ?hs).mono ?_
  case hP =>
    refine Ps.lit2 _ (by simp) (Bs.lit _ (by simp) (sealHead l) rfl ?_) (by omega) (by omega) ((hA.alloc _).alloc _) hc hc2
    have hl := hA.len
    have hh := (crc l).isLt
    simp only [bv, sealHead, List.map_cons, List.map_nil, u8n_toNat, hl]
    rw [Nat.mod_eq_of_lt (a := n / 256) (by omega), Nat.mod_eq_of_lt (a := (crc l).toNat / 16777216) (by omega)]
    simp
  case hs => have hl := hA.len; simp [length_sealHead]; omega
  rintro e w2 ⟨v2, rfl, hown, hb⟩
  go_wp2
  go_ret
  refine ⟨_, rfl, ?_, ?_⟩
  · have hl := hA.len
    have e : [sealHead l, l].flatten = sealed l := by simp [sealed]
    rw [e, length_sealed, hl] at hown
    exact ownsRow_base hown (by simp; omega)
  · exact below_then ((((Below.refl _ w).alloc (Nat.le_refl _) _).alloc (by simp) _).alloc (by simp; omega) _) hb (by simp; omega)

end Go.Proofs.Ytfhlnadhcalkkaa
