/- The document's Whole (chapter 17). -/
import Derived.Test.YtkgenkkcgegcbaaRs
import Derived.Test.YtkgenkkcgegcbaaSesWhole
import Derived.Test.YtkgenkkcgegcbaaShaRef
import Derived.Test.YtkgenkkcgegcbaaSesCount
import Derived.Test.YtkgenkkcgegcbaaKnOps
namespace Go.Proofs.Ytkgenkkcgegcbaa
open Go.RowKit
attribute [local go_sem] ev_tmp ev_const ev_func ev_global lk_hit lk_miss uponK_value uponK_skip look_tmp look_const look_global look_func valP_value
set_option maxRecDepth 100000 in
set_option maxHeartbeats 1000000 in
theorem wholeR_any (s : Ses) (D G : Value) (w : World) (hM : SesM w s D G) (hg : s.got.length ≤ 1000000) (hd : s.data.length ≤ 1000000) :
    Calls Try.prog 22 #[.agg (sesV s D G).toArray] w (WholeP s w) := by
  have HS := Lib.hid hM.sum
  obtain ⟨AD, nD, cD, rfl, hBD, hnc, hc⟩ := hM.data
  have hn : nD ≤ 1000000 := by rw [← hBD.len]; exact hd
  have HM := Lib.hid hM
  have HG := Lib.hid hg
  have HD := Lib.hid hd
  refine calls_kw Try.func22 rfl Try.ntmps22 rfl [(0, .agg (sesV s (.slice AD nD cD) G).toArray)] rfl ?_
  refine kw_seq ?_
  refine kw_region ?_
  refine kl_boxL (Lay.start w) rfl rfl rfl rfl rfl ?_
  intro g1 w1 eg1 hb1 hL
  have HM := Lib.hid (HM.out.keep (.of_below hb1))
  replace hBD := hBD.keep (.of_below hb1)
  clear eg1 hb1 hM hg hd
  repeat (first | refine kw_seq ?_ | refine kw_block ?_ | refine kw_skip ?_ | refine kw_region ?_ | refine kl_nil ?_ | refine kq_then ?_ | refine kq_block ?_ | refine kw_exit ?_ | refine kq_then_exit ?_ | refine kq_block_here rfl ?_ | refine kq_block_far rfl ?_ | refine kq_again_exit ?_ | refine kw_ret ?_ | refine kq_then_ret ?_ | refine kq_block_ret ?_ | refine kq_again_ret ?_ | refine kw_ift rfl ?_ | refine kw_iff rfl ?_ | refine kl_ung rfl rfl ?_ | refine kl_skipg rfl rfl rfl rfl ?_ | refine kl_skipg0 rfl rfl rfl ?_ | refine kl_getL hL 0 rfl Try.underlying36 rfl (rinfoS _ _ _ HS.out) rfl rfl rfl rfl rfl ?_ | (first | refine kl_move rfl rfl (.inl rfl) rfl rfl ?_ | refine kl_move rfl rfl (.inr rfl) rfl rfl ?_ | refine kl_const rfl rfl (.inl rfl) rfl ?_ | refine kl_const rfl rfl (.inr rfl) rfl ?_) | ((first | refine kl_step rfl rfl rfl fun K hK => ?_ | refine kl_step0 rfl rfl rfl fun K hK => ?_); go_simp; (try go_bits); (first | refine hK _ _ ?_ | refine hK _ ?_); clear hK K))
  refine kl_call rfl rfl rfl Try.func20 rfl (by kernel_rfl) rfl ?_
  refine Calls.mono (leftR_any s (.slice AD nD cD) G w1 HM.out HG.out) ?_
  rintro e w2 ⟨rfl, hb⟩
  have hL := hL.next hb
  have hB2 := hBD.keep (.of_below hb)
  clear hb hBD
  refine ⟨_, rfl, ?_⟩
  by_cases hl : 0 < cnt false s.got
  · have hE : wholeE s = 25 := if_pos hl
    have HE := Lib.hid hE
    have t1 : decide (0 < cnt false s.got) = true := by rw [decide_eq_true_eq]; exact hl
    have t2 : decide ((0 : Int) < (cnt false s.got : Int)) = true := by rw [decide_eq_true_eq]; omega
    clear hE hl
    repeat (first | refine kw_seq ?_ | refine kw_block ?_ | refine kw_skip ?_ | refine kw_region ?_ | refine kl_nil ?_ | refine kq_then ?_ | refine kq_block ?_ | refine kw_exit ?_ | refine kq_then_exit ?_ | refine kq_block_here rfl ?_ | refine kq_block_far rfl ?_ | refine kq_again_exit ?_ | refine kw_ret ?_ | refine kq_then_ret ?_ | refine kq_block_ret ?_ | refine kq_again_ret ?_ | refine kw_ift rfl ?_ | refine kw_iff rfl ?_ | refine kl_ung rfl rfl ?_ | refine kl_skipg rfl rfl rfl rfl ?_ | refine kl_skipg0 rfl rfl rfl ?_ | (first | refine kl_move rfl rfl (.inl rfl) rfl rfl ?_ | refine kl_move rfl rfl (.inr rfl) rfl rfl ?_ | refine kl_const rfl rfl (.inl rfl) rfl ?_ | refine kl_const rfl rfl (.inr rfl) rfl ?_) | ((first | refine kl_step rfl rfl rfl fun K hK => ?_ | refine kl_step0 rfl rfl rfl fun K hK => ?_); go_simp; (try go_bits); (first | refine hK _ _ ?_ | refine hK _ ?_); clear hK K))
    exact kq_ret2 rfl rfl rfl ⟨_, by rw [HE.out], by rw [wholeB_err (by rw [HE.out]; decide)]; exact SlB.nil _, hL.below⟩
  have t1 : decide (0 < cnt false s.got) = false := by rw [decide_eq_false_iff_not]; exact hl
  have t2 : decide ((0 : Int) < (cnt false s.got : Int)) = false := by rw [decide_eq_false_iff_not]; omega
  have HL := Lib.hid hl
  clear hl
  repeat (first | refine kw_seq ?_ | refine kw_block ?_ | refine kw_skip ?_ | refine kw_region ?_ | refine kl_nil ?_ | refine kq_then ?_ | refine kq_block ?_ | refine kw_exit ?_ | refine kq_then_exit ?_ | refine kq_block_here rfl ?_ | refine kq_block_far rfl ?_ | refine kq_again_exit ?_ | refine kw_ret ?_ | refine kq_then_ret ?_ | refine kq_block_ret ?_ | refine kq_again_ret ?_ | refine kw_ift rfl ?_ | refine kw_iff rfl ?_ | refine kl_ung rfl rfl ?_ | refine kl_skipg rfl rfl rfl rfl ?_ | refine kl_skipg0 rfl rfl rfl ?_ | (first | refine kl_move rfl rfl (.inl rfl) rfl rfl ?_ | refine kl_move rfl rfl (.inr rfl) rfl rfl ?_ | refine kl_const rfl rfl (.inl rfl) rfl ?_ | refine kl_const rfl rfl (.inr rfl) rfl ?_) | ((first | refine kl_step rfl rfl rfl fun K hK => ?_ | refine kl_step0 rfl rfl rfl fun K hK => ?_); go_simp; (try go_bits); (first | refine hK _ _ ?_ | refine hK _ ?_); clear hK K))
  clear t1 t2
  refine KW.less [1, 2, 3] ?_
  simp only [nrm, lk, Nat.reduceBEq, cond_true, cond_false]
  have c34 := fun W (h : Keeps w2 W) => h _ _ (hL.get (j := 34) 0 rfl (ses_34 s (.slice AD nD cD) G HS.out))
  have r2 : ∀ W, Keeps w2 W → W.rangeAt g1 2 (bv s.sum) := fun W h => rangeAt_keep (ses_range (hL.at_ 0 rfl)) h
  have R2 := Lib.hid r2
  clear r2
  by_cases heq : sha s.data = s.sum
  · have he : ∀ W, (Op.equalIn 10000 26 (.agg (bv (sha s.data)).toArray) (.agg (bv s.sum).toArray)).run Try.prog W = .ok true W := fun W => by rw [eqH W _ _ (length_sha _) HS.out, heq, beq_self_eq_true]
    have hE : wholeE s = 0 := by unfold wholeE; rw [if_neg HL.out, if_pos heq]
    have HE := Lib.hid hE
    clear hE heq
    refine kw_region_f (Keeps w2) [true, true, false, true, true, true] (by kernel_rfl) (by kernel_rfl) (.drew _) ?_
    repeat (first | refine kf_nil ?_ | refine kf_ung rfl rfl ?_ | refine kf_skipg rfl rfl rfl rfl ?_ | refine kf_load_mid (cs := bv s.sum) (b := g1) (off := 2) R2.out Try.underlying26 rfl (hashSize' _ HS.out) rfl rfl rfl rfl rfl ?_ | (first | refine kf_move rfl rfl (.inl rfl) rfl rfl ?_ | refine kf_move rfl rfl (.inr rfl) rfl rfl ?_ | refine kf_const rfl rfl (.inl rfl) rfl ?_ | refine kf_const rfl rfl (.inr rfl) rfl ?_) | (refine kf_val rfl rfl rfl ?_; apply Exists.intro; refine And.intro (fun W hW N hN => ?_) ?_; · (go_simp; (try go_bits); exact hN)))
    refine kf_ch ?_
    refine kl_call rfl rfl rfl Try.func8 rfl (by kernel_rfl) rfl ?_
    refine Calls.mono (refSha_any AD nD cD s.data w2.drew (hB2.keep (.drew _)) (by omega)) ?_
    rintro e w3 ⟨rfl, hb⟩
    have hK3 : Keeps w2 w3 := (Keeps.drew w2).trans (.of_below hb)
    have hb3 : Below w2.heap.size w2 w3 := (Below.refl _ w2).drew.trans hb
    refine ⟨_, rfl, ?_⟩
    refine kl_nil ?_
    refine kq_f hK3 ?_
    clear hb
    repeat (first | refine kf_nil ?_ | refine kf_ung rfl rfl ?_ | refine kf_skipg rfl rfl rfl rfl ?_ | refine kf_load_mid (cs := bv s.sum) (b := g1) (off := 2) R2.out Try.underlying26 rfl (hashSize' _ HS.out) rfl rfl rfl rfl rfl ?_ | (first | refine kf_move rfl rfl (.inl rfl) rfl rfl ?_ | refine kf_move rfl rfl (.inr rfl) rfl rfl ?_ | refine kf_const rfl rfl (.inl rfl) rfl ?_ | refine kf_const rfl rfl (.inr rfl) rfl ?_) | (refine kf_val rfl rfl rfl ?_; apply Exists.intro; refine And.intro (fun W hW N hN => ?_) ?_; · (go_simp; (try go_bits); exact hN)))
    refine kq_then ?_
    refine kw_iff rfl ?_
    refine kw_skip ?_
    refine kq_then ?_
    refine KW.less [1, 2, 3] ?_
    simp only [nrm, lk, Nat.reduceBEq, cond_true, cond_false]
    have hL3 := hL.next hb3
    have hB3 := hB2.keep (.of_below hb3)
    have c34' := hL3.get (j := 34) 0 rfl (ses_34 s (.slice AD nD cD) G HS.out)
    clear c34 R2 hK3 hb3 hL hB2 he
    refine kw_seq ?_
    refine kw_region ?_
    ((first | refine kl_step rfl rfl rfl fun K hK => ?_ | refine kl_step0 rfl rfl rfl fun K hK => ?_); go_simp; (try go_bits); (first | refine hK _ _ ?_ | refine hK _ ?_); clear hK K)
    have c34'' := Keeps.alloc w3 (.cells #[] 5) _ _ c34'
    ((first | refine kl_step rfl rfl rfl fun K hK => ?_ | refine kl_step0 rfl rfl rfl fun K hK => ?_); go_simp; (try go_bits); (first | refine hK _ _ ?_ | refine hK _ ?_); clear hK K)
    ((first | refine kl_step rfl rfl rfl fun K hK => ?_ | refine kl_step0 rfl rfl rfl fun K hK => ?_); go_simp; (try go_bits); (first | refine hK _ _ ?_ | refine hK _ ?_); clear hK K)
    refine kl_clone w3.heap.size rfl AD nD cD s.data hB3 (by omega) rfl rfl rfl rfl rfl rfl ?_
    intro v4 w4 hown hb4
    have hb5 := below_then hL3.below hb4 hL3.below.size
    obtain ⟨A4, c4, rfl, hB4, hc4, hc4'⟩ := own_B hown
    clear c34' c34'' hown hb4
    repeat (first | refine kw_seq ?_ | refine kw_block ?_ | refine kw_skip ?_ | refine kw_region ?_ | refine kl_nil ?_ | refine kq_then ?_ | refine kq_block ?_ | refine kw_exit ?_ | refine kq_then_exit ?_ | refine kq_block_here rfl ?_ | refine kq_block_far rfl ?_ | refine kq_again_exit ?_ | refine kw_ret ?_ | refine kq_then_ret ?_ | refine kq_block_ret ?_ | refine kq_again_ret ?_ | refine kw_ift rfl ?_ | refine kw_iff rfl ?_ | refine kl_ung rfl rfl ?_ | refine kl_skipg rfl rfl rfl rfl ?_ | refine kl_skipg0 rfl rfl rfl ?_ | (first | refine kl_move rfl rfl (.inl rfl) rfl rfl ?_ | refine kl_move rfl rfl (.inr rfl) rfl rfl ?_ | refine kl_const rfl rfl (.inl rfl) rfl ?_ | refine kl_const rfl rfl (.inr rfl) rfl ?_) | ((first | refine kl_step rfl rfl rfl fun K hK => ?_ | refine kl_step0 rfl rfl rfl fun K hK => ?_); go_simp; (try go_bits); (first | refine hK _ _ ?_ | refine hK _ ?_); clear hK K))
    exact kq_ret2 rfl rfl rfl ⟨_, by rw [HE.out], by unfold wholeB; rw [if_pos HE.out]; exact ⟨_, _, _, rfl, hB4, hc4, hc4'⟩, hb5⟩
  · have he : ∀ W, (Op.equalIn 10000 26 (.agg (bv (sha s.data)).toArray) (.agg (bv s.sum).toArray)).run Try.prog W = .ok false W := fun W => by rw [eqH W _ _ (length_sha _) HS.out, beq_eq_false_iff_ne.2 heq]
    have hE : wholeE s = 15 := by unfold wholeE; rw [if_neg HL.out, if_neg heq]
    have HE := Lib.hid hE
    clear hE heq
    refine kw_region_f (Keeps w2) [true, true, false, true, true, true] (by kernel_rfl) (by kernel_rfl) (.drew _) ?_
    repeat (first | refine kf_nil ?_ | refine kf_ung rfl rfl ?_ | refine kf_skipg rfl rfl rfl rfl ?_ | refine kf_load_mid (cs := bv s.sum) (b := g1) (off := 2) R2.out Try.underlying26 rfl (hashSize' _ HS.out) rfl rfl rfl rfl rfl ?_ | (first | refine kf_move rfl rfl (.inl rfl) rfl rfl ?_ | refine kf_move rfl rfl (.inr rfl) rfl rfl ?_ | refine kf_const rfl rfl (.inl rfl) rfl ?_ | refine kf_const rfl rfl (.inr rfl) rfl ?_) | (refine kf_val rfl rfl rfl ?_; apply Exists.intro; refine And.intro (fun W hW N hN => ?_) ?_; · (go_simp; (try go_bits); exact hN)))
    refine kf_ch ?_
    refine kl_call rfl rfl rfl Try.func8 rfl (by kernel_rfl) rfl ?_
    refine Calls.mono (refSha_any AD nD cD s.data w2.drew (hB2.keep (.drew _)) (by omega)) ?_
    rintro e w3 ⟨rfl, hb⟩
    have hK3 : Keeps w2 w3 := (Keeps.drew w2).trans (.of_below hb)
    have hb3 : Below w2.heap.size w2 w3 := (Below.refl _ w2).drew.trans hb
    refine ⟨_, rfl, ?_⟩
    refine kl_nil ?_
    refine kq_f hK3 ?_
    clear hb
    repeat (first | refine kf_nil ?_ | refine kf_ung rfl rfl ?_ | refine kf_skipg rfl rfl rfl rfl ?_ | refine kf_load_mid (cs := bv s.sum) (b := g1) (off := 2) R2.out Try.underlying26 rfl (hashSize' _ HS.out) rfl rfl rfl rfl rfl ?_ | (first | refine kf_move rfl rfl (.inl rfl) rfl rfl ?_ | refine kf_move rfl rfl (.inr rfl) rfl rfl ?_ | refine kf_const rfl rfl (.inl rfl) rfl ?_ | refine kf_const rfl rfl (.inr rfl) rfl ?_) | (refine kf_val rfl rfl rfl ?_; apply Exists.intro; refine And.intro (fun W hW N hN => ?_) ?_; · (go_simp; (try go_bits); exact hN)))
    refine kq_then ?_
    have hL3 := hL.next hb3
    repeat (first | refine kw_seq ?_ | refine kw_block ?_ | refine kw_skip ?_ | refine kw_region ?_ | refine kl_nil ?_ | refine kq_then ?_ | refine kq_block ?_ | refine kw_exit ?_ | refine kq_then_exit ?_ | refine kq_block_here rfl ?_ | refine kq_block_far rfl ?_ | refine kq_again_exit ?_ | refine kw_ret ?_ | refine kq_then_ret ?_ | refine kq_block_ret ?_ | refine kq_again_ret ?_ | refine kw_ift rfl ?_ | refine kw_iff rfl ?_ | refine kl_ung rfl rfl ?_ | refine kl_skipg rfl rfl rfl rfl ?_ | refine kl_skipg0 rfl rfl rfl ?_ | (first | refine kl_move rfl rfl (.inl rfl) rfl rfl ?_ | refine kl_move rfl rfl (.inr rfl) rfl rfl ?_ | refine kl_const rfl rfl (.inl rfl) rfl ?_ | refine kl_const rfl rfl (.inr rfl) rfl ?_) | ((first | refine kl_step rfl rfl rfl fun K hK => ?_ | refine kl_step0 rfl rfl rfl fun K hK => ?_); go_simp; (try go_bits); (first | refine hK _ _ ?_ | refine hK _ ?_); clear hK K))
    exact kq_ret2 rfl rfl rfl ⟨_, by rw [HE.out], by rw [wholeB_err (by rw [HE.out]; decide)]; exact SlB.nil _, hL3.below⟩
end Go.Proofs.Ytkgenkkcgegcbaa
