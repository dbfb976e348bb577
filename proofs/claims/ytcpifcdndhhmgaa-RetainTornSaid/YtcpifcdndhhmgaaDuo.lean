/- Save of the document. within of the law's package. Records: the chapter's example. Both memories side by side: the code's at g, the document's at x. -/
import Derived.Test.YtcpifcdndhhmgaaRetSave
import Derived.Test.YtcpifcdndhhmgaaRecAppR
import Derived.Test.YtcpifcdndhhmgaaRefErase
import Derived.Test.YtcpifcdndhhmgaaChecked
import Derived.Test.YtcpifcdndhhmgaaRetGoodP
import Derived.Test.YtcpifcdndhhmgaaRecApp
import Derived.Test.YtcpifcdndhhmgaaRecLaws
import Derived.Test.YtcpifcdndhhmgaaRefFlash2
import Derived.Test.YtcpifcdndhhmgaaFlashOps
set_option linter.unusedVariables false
set_option linter.unusedSimpArgs false
namespace Go.Proofs.Ytcpifcdndhhmgaa
open Go.RowKit
attribute [local go_sem] ev_tmp ev_const ev_func ev_global lk_hit lk_miss uponK_value uponK_skip look_tmp look_const look_global look_func valP_value
set_option maxRecDepth 100000 in
set_option maxHeartbeats 4000000 in
theorem saveKR_any (Q : Nat → Prop) (g : Nat) (hQ : ∀ b, Q b → b ≠ g) (f : FlashSt) (A : Option Addr) (n c : Nat) (l : List KepS) (w : World) (h : RF Q w g f) (hA : KeS w A n l) (hV : KepV l) : Calls Try.prog 20 #[.pointer (some ⟨g, 0, none⟩), .slice A n c] w (DoP RF Q g (saveK f l) w) := by
  have hglt := h.lt
  have hln := hA.len
  have hKS := newK_ok f
  have hsec := newK_sec f
  refine calls_kw Try.func20 rfl Try.ntmps20 rfl [(0, .pointer (some ⟨g, 0, none⟩)), (1, .slice A n c)] rfl ?_
  by_cases h24 : 24 < n
  case pos =>
    have t1 : decide ((24 : Int) < (n : Int)) = true := by rw [decide_eq_true_eq]; omega
    have t1n : decide (24 < n) = true := decide_eq_true h24
    have HE := Lib.hid (save_many (f := f) (l := l) (by omega))
    clear h24 hln hKS hsec
    repeat (first | refine kw_seq ?_ | refine kw_block ?_ | refine kw_skip ?_ | refine kw_region ?_ | refine kl_nil ?_ | refine kq_then ?_ | refine kq_block ?_ | refine kw_exit ?_ | refine kq_then_exit ?_ | refine kq_block_here rfl ?_ | refine kq_block_far rfl ?_ | refine kq_again_exit ?_ | refine kw_ret ?_ | refine kq_then_ret ?_ | refine kq_block_ret ?_ | refine kq_again_ret ?_ | refine kw_ift rfl ?_ | refine kw_iff rfl ?_ | refine kl_ung rfl rfl ?_ | refine kl_skipg rfl rfl rfl rfl ?_ | refine kl_skipg0 rfl rfl rfl ?_ | (first | refine kl_move rfl rfl (.inl rfl) rfl rfl ?_ | refine kl_move rfl rfl (.inr rfl) rfl rfl ?_ | refine kl_const rfl rfl (.inl rfl) rfl ?_ | refine kl_const rfl rfl (.inr rfl) rfl ?_) | ((first | refine kl_step rfl rfl rfl fun K hK => ?_ | refine kl_step0 rfl rfl rfl fun K hK => ?_); go_simp; (try go_bits); (first | refine hK _ _ ?_ | refine hK _ ?_); clear hK K))
    exact kq_ret1 rfl rfl ⟨by rw [HE.out], by rw [HE.out]; exact h, grown_refl _ _⟩
  have t1 : decide ((24 : Int) < (n : Int)) = false := by rw [decide_eq_false_iff_not]; omega
  have t1n : decide (24 < n) = false := decide_eq_false h24
  have H24 : Hid (¬ 24 < l.length) := by show ¬ _; omega
  have HN24 : Hid (n ≤ 1000) := by show _ ≤ _; omega
  clear h24 hln
  repeat (first | refine kw_seq ?_ | refine kw_region ?_ | refine kl_nil ?_ | refine kq_then ?_ | refine kw_iff rfl ?_ | refine kw_skip ?_ | (first | refine kl_move rfl rfl (.inl rfl) rfl rfl ?_ | refine kl_move rfl rfl (.inr rfl) rfl rfl ?_ | refine kl_const rfl rfl (.inl rfl) rfl ?_ | refine kl_const rfl rfl (.inr rfl) rfl ?_) | ((first | refine kl_step rfl rfl rfl fun K hK => ?_ | refine kl_step0 rfl rfl rfl fun K hK => ?_); go_simp; (try go_bits); (first | refine hK _ _ ?_ | refine hK _ ?_); clear hK K))
  refine kl_call rfl rfl rfl Try.func45 rfl (by kernel_rfl) rfl ?_
  refine Calls.mono (newest_any Q g f w h) ?_
  rintro e w1 ⟨A1, n1, c1, rfl, _, _, _, _, hb1⟩
  refine ⟨_, rfl, ?_⟩
  rw [stK_ref, (newR_fst f).1]
  have hrs := newR_sec f
  obtain ⟨s9, hs9⟩ : ∃ s9, (newR f).2.2 = s9 := ⟨_, rfl⟩
  rw [hs9] at hrs ⊢
  obtain ⟨q, hq⟩ : ∃ q, (newK f).1 = q := ⟨_, rfl⟩
  obtain ⟨sc, hsc⟩ : ∃ sc, (newK f).2.2 = sc := ⟨_, rfl⟩
  have hqb := hKS.seq
  rw [hq] at hqb ⊢
  rw [hsc] at hsec hrs
  have HQ := Lib.hid hq
  have HSC := Lib.hid hsc
  have h1 := h.below hb1
  have HB1 := Lib.hid hb1
  clear hq hsc hKS t1 t1n hb1 hs9
  by_cases hov : 1073741824 ≤ q
  case pos =>
    have t3 : decide (1073741824 ≤ q) = true := decide_eq_true hov
    have HE := Lib.hid (save_over (f := f) (l := l) H24.out (by rw [HQ.out]; exact hov))
    clear hov hqb hsec hrs
    repeat (first | refine kw_seq ?_ | refine kw_block ?_ | refine kw_skip ?_ | refine kw_region ?_ | refine kl_nil ?_ | refine kq_then ?_ | refine kq_block ?_ | refine kw_exit ?_ | refine kq_then_exit ?_ | refine kq_block_here rfl ?_ | refine kq_block_far rfl ?_ | refine kq_again_exit ?_ | refine kw_ret ?_ | refine kq_then_ret ?_ | refine kq_block_ret ?_ | refine kq_again_ret ?_ | refine kw_ift rfl ?_ | refine kw_iff rfl ?_ | refine kl_ung rfl rfl ?_ | refine kl_skipg rfl rfl rfl rfl ?_ | refine kl_skipg0 rfl rfl rfl ?_ | (first | refine kl_move rfl rfl (.inl rfl) rfl rfl ?_ | refine kl_move rfl rfl (.inr rfl) rfl rfl ?_ | refine kl_const rfl rfl (.inl rfl) rfl ?_ | refine kl_const rfl rfl (.inr rfl) rfl ?_) | ((first | refine kl_step rfl rfl rfl fun K hK => ?_ | refine kl_step0 rfl rfl rfl fun K hK => ?_); go_simp; (try go_bits); (first | refine hK _ _ ?_ | refine hK _ ?_); clear hK K))
    exact kq_ret1 rfl rfl ⟨by rw [HE.out], by rw [HE.out]; exact h1, grown_below HB1.out _⟩
  have t3 : decide (1073741824 ≤ q) = false := decide_eq_false hov
  obtain ⟨q1, hq1⟩ : ∃ q1, q + 1 = q1 := ⟨_, rfl⟩
  have a1 : 0 ≤ q1 := by omega
  have a2 : q1 ≤ 1073741825 := by omega
  have HQ1 := Lib.hid hq1
  have HNO := Lib.hid hov
  have HQI : Hid (I64 q1) := by show I64 q1; unfold I64; omega
  have s0 : 4 ≤ sc := by omega
  have s1 : sc ≤ 5 := by omega
  obtain ⟨tc, htc⟩ : ∃ tc, 9 - sc = tc := ⟨_, rfl⟩
  have HTC := Lib.hid htc
  have HSB : Hid (-9223372036854775808 ≤ sc ∧ sc ≤ 9223372036854775807) := by show _ ∧ _; omega
  have HTB : Hid (-9223372036854775808 ≤ tc ∧ tc ≤ 9223372036854775807) := by show _ ∧ _; omega
  clear hov hsec
  repeat (first | refine kl_nil ?_ | (first | refine kl_move rfl rfl (.inl rfl) rfl rfl ?_ | refine kl_move rfl rfl (.inr rfl) rfl rfl ?_ | refine kl_const rfl rfl (.inl rfl) rfl ?_ | refine kl_const rfl rfl (.inr rfl) rfl ?_) | ((first | refine kl_step rfl rfl rfl fun K hK => ?_ | refine kl_step0 rfl rfl rfl fun K hK => ?_); go_simp; (try go_bits); (first | refine hK _ _ ?_ | refine hK _ ?_); clear hK K))
  refine kq_then ?_
  refine kw_seq ?_
  refine kw_seq ?_
  refine kw_region ?_
  repeat (first | (first | refine kl_move rfl rfl (.inl rfl) rfl rfl ?_ | refine kl_move rfl rfl (.inr rfl) rfl rfl ?_ | refine kl_const rfl rfl (.inl rfl) rfl ?_ | refine kl_const rfl rfl (.inr rfl) rfl ?_) | ((first | refine kl_step rfl rfl rfl fun K hK => ?_ | refine kl_step0 rfl rfl rfl fun K hK => ?_); go_simp; (try go_bits); (first | refine hK _ _ ?_ | refine hK _ ?_); clear hK K) | refine kl_nil ?_)
  refine kq_then ?_
  refine kw_iff rfl ?_
  refine kw_skip ?_
  refine kq_then ?_
  refine kw_cut (fun L W => W = w1 ∧ L = [(0, .pointer (some ⟨g, 0, none⟩)), (1, .slice A n c), (5, .int .i64 q), (7, .int .i64 sc)]) ?_ ?_
  · by_cases hneg : s9 < 0
    · have t4 : decide (s9 < 0) = true := decide_eq_true hneg
      rw [if_pos hneg] at hrs
      subst hrs
      clear hneg
      repeat (first | refine kw_seq ?_ | refine kw_region ?_ | refine kl_nil ?_ | refine kq_then ?_ | refine kw_ift rfl ?_ | refine kw_iff rfl ?_ | refine kw_skip ?_ | (first | refine kl_move rfl rfl (.inl rfl) rfl rfl ?_ | refine kl_move rfl rfl (.inr rfl) rfl rfl ?_ | refine kl_const rfl rfl (.inl rfl) rfl ?_ | refine kl_const rfl rfl (.inr rfl) rfl ?_) | ((first | refine kl_step rfl rfl rfl fun K hK => ?_ | refine kl_step0 rfl rfl rfl fun K hK => ?_); go_simp; (try go_bits); (first | refine hK _ _ ?_ | refine hK _ ?_); clear hK K))
      refine kq_cut [0, 1, 5, 7] ?_
      exact ⟨rfl, rfl⟩
    · have t4 : decide (s9 < 0) = false := decide_eq_false hneg
      rw [if_neg hneg] at hrs
      subst hrs
      clear hneg
      repeat (first | refine kw_seq ?_ | refine kw_region ?_ | refine kl_nil ?_ | refine kq_then ?_ | refine kw_ift rfl ?_ | refine kw_iff rfl ?_ | refine kw_skip ?_ | (first | refine kl_move rfl rfl (.inl rfl) rfl rfl ?_ | refine kl_move rfl rfl (.inr rfl) rfl rfl ?_ | refine kl_const rfl rfl (.inl rfl) rfl ?_ | refine kl_const rfl rfl (.inr rfl) rfl ?_) | ((first | refine kl_step rfl rfl rfl fun K hK => ?_ | refine kl_step0 rfl rfl rfl fun K hK => ?_); go_simp; (try go_bits); (first | refine hK _ _ ?_ | refine hK _ ?_); clear hK K))
      refine kq_cut [0, 1, 5, 7] ?_
      exact ⟨rfl, rfl⟩
  clear hrs
  rintro L W ⟨rfl, rfl⟩
  repeat (first | refine kw_seq ?_ | refine kw_region ?_ | refine kl_nil ?_ | refine kq_then ?_ | refine kw_iff rfl ?_ | refine kw_skip ?_ | (first | refine kl_move rfl rfl (.inl rfl) rfl rfl ?_ | refine kl_move rfl rfl (.inr rfl) rfl rfl ?_ | refine kl_const rfl rfl (.inl rfl) rfl ?_ | refine kl_const rfl rfl (.inr rfl) rfl ?_) | ((first | refine kl_step rfl rfl rfl fun K hK => ?_ | refine kl_step0 rfl rfl rfl fun K hK => ?_); go_simp; (try go_bits); (first | refine hK _ _ ?_ | refine hK _ ?_); clear hK K))
  refine kl_call rfl rfl rfl Try.func46 rfl (by kernel_rfl) rfl ?_
  refine Calls.mono (bytesKR_any q1 A n c l W (hA.below HB1.out) HN24.out hV HQI.out) ?_
  rintro e w2 ⟨v2, m, rfl, ho2, hb2⟩
  refine ⟨_, rfl, ?_⟩
  obtain ⟨A2, c2, rfl, hB2, hn2, hc2, haw⟩ := own_away ho2
  have HAW : Hid (0 < m → Away g A2) := fun _ a e => by have := haw a e; have := h1.lt; omega
  obtain ⟨b, hbe⟩ : ∃ b, bytesK q1 l = b := ⟨_, rfl⟩
  have HM := save_go (f := f) (l := l) H24.out HQ.out HNO.out HQ1.out HSC.out
  rw [hbe] at HM hB2
  have HM := Lib.hid HM
  have HB2 := Lib.hid hB2
  have h2 := h1.below hb2
  have HG2 := Lib.hid (grown_trans (grown_below HB1.out (some g)) (grown_below hb2 (some g)))
  clear hbe ho2 haw hB2 hb2 h1 HB1
  repeat (first | refine kw_seq ?_ | refine kw_region ?_ | refine kl_nil ?_ | refine kq_then ?_ | refine kw_iff rfl ?_ | refine kw_skip ?_ | (first | refine kl_move rfl rfl (.inl rfl) rfl rfl ?_ | refine kl_move rfl rfl (.inr rfl) rfl rfl ?_ | refine kl_const rfl rfl (.inl rfl) rfl ?_ | refine kl_const rfl rfl (.inr rfl) rfl ?_) | ((first | refine kl_step rfl rfl rfl fun K hK => ?_ | refine kl_step0 rfl rfl rfl fun K hK => ?_); go_simp; (try go_bits); (first | refine hK _ _ ?_ | refine hK _ ?_); clear hK K))
  refine kl_call rfl rfl rfl Try.func47 rfl (by kernel_rfl) rfl ?_
  refine Calls.mono (appendR_any Q g hQ f sc A2 m c2 b w2 h2 HSB.out HB2.out hn2 hc2) ?_
  rintro e w3 ⟨rfl, h3, hg3⟩
  refine ⟨_, rfl, ?_⟩
  have HB3 := Lib.hid (HB2.out.grownKeep0 hg3 HAW.out)
  have HG3 := Lib.hid (grown_trans HG2.out hg3)
  obtain ⟨r1, hr1⟩ : ∃ r1, appendP f sc b = r1 := ⟨_, rfl⟩
  rw [hr1] at h3 ⊢
  have HR1 := Lib.hid hr1
  clear h2 HG2 HB2 hr1 hg3
  obtain ⟨e1, f1⟩ := r1
  dsimp only at h3 ⊢
  by_cases he4 : e1 = 4
  case neg =>
    have q3 : (e1 != 4) = true := bne_iff_ne.2 he4
    have HE := Lib.hid (HM.out.trans (wr_1 HR1.out he4))
    clear he4
    repeat (first | refine kw_seq ?_ | refine kw_block ?_ | refine kw_skip ?_ | refine kw_region ?_ | refine kl_nil ?_ | refine kq_then ?_ | refine kq_block ?_ | refine kw_exit ?_ | refine kq_then_exit ?_ | refine kq_block_here rfl ?_ | refine kq_block_far rfl ?_ | refine kq_again_exit ?_ | refine kw_ret ?_ | refine kq_then_ret ?_ | refine kq_block_ret ?_ | refine kq_again_ret ?_ | refine kw_ift rfl ?_ | refine kw_iff rfl ?_ | refine kl_ung rfl rfl ?_ | refine kl_skipg rfl rfl rfl rfl ?_ | refine kl_skipg0 rfl rfl rfl ?_ | (first | refine kl_move rfl rfl (.inl rfl) rfl rfl ?_ | refine kl_move rfl rfl (.inr rfl) rfl rfl ?_ | refine kl_const rfl rfl (.inl rfl) rfl ?_ | refine kl_const rfl rfl (.inr rfl) rfl ?_) | ((first | refine kl_step rfl rfl rfl fun K hK => ?_ | refine kl_step0 rfl rfl rfl fun K hK => ?_); go_simp; (try go_bits); (first | refine hK _ _ ?_ | refine hK _ ?_); clear hK K))
    exact kq_ret1 rfl rfl ⟨by rw [HE.out], by rw [HE.out]; exact h3, HG3.out⟩
  subst he4
  have q3 : ((4 : Int) != 4) = false := rfl
  repeat (first | refine kw_seq ?_ | refine kw_region ?_ | refine kl_nil ?_ | refine kq_then ?_ | refine kw_iff rfl ?_ | refine kw_skip ?_ | (first | refine kl_move rfl rfl (.inl rfl) rfl rfl ?_ | refine kl_move rfl rfl (.inr rfl) rfl rfl ?_ | refine kl_const rfl rfl (.inl rfl) rfl ?_ | refine kl_const rfl rfl (.inr rfl) rfl ?_) | ((first | refine kl_step rfl rfl rfl fun K hK => ?_ | refine kl_step0 rfl rfl rfl fun K hK => ?_); go_simp; (try go_bits); (first | refine hK _ _ ?_ | refine hK _ ?_); clear hK K))
  refine kl_call rfl rfl rfl Try.func48 rfl (by kernel_rfl) rfl ?_
  refine Calls.mono (refErase_any Q g hQ f1 tc w3 h3) ?_
  rintro e w4 ⟨rfl, h4, hg4⟩
  refine ⟨_, rfl, ?_⟩
  have HB4 := Lib.hid (HB3.out.grownKeep0 hg4 HAW.out)
  have HG4 := Lib.hid (grown_trans HG3.out hg4)
  obtain ⟨r2, hr2⟩ : ∃ r2, eraseF f1 tc = r2 := ⟨_, rfl⟩
  rw [hr2] at h4 ⊢
  have HR2 := Lib.hid hr2
  clear h3 HG3 HB3 hr2 hg4 htc
  obtain ⟨e2, f2⟩ := r2
  dsimp only at h4 ⊢
  by_cases he0 : e2 = 0
  case neg =>
    have q4 : (e2 != 0) = true := bne_iff_ne.2 he0
    have HE := Lib.hid (HM.out.trans (wr_2 HR1.out rfl HTC.out HR2.out he0))
    clear he0
    repeat (first | refine kw_seq ?_ | refine kw_block ?_ | refine kw_skip ?_ | refine kw_region ?_ | refine kl_nil ?_ | refine kq_then ?_ | refine kq_block ?_ | refine kw_exit ?_ | refine kq_then_exit ?_ | refine kq_block_here rfl ?_ | refine kq_block_far rfl ?_ | refine kq_again_exit ?_ | refine kw_ret ?_ | refine kq_then_ret ?_ | refine kq_block_ret ?_ | refine kq_again_ret ?_ | refine kw_ift rfl ?_ | refine kw_iff rfl ?_ | refine kl_ung rfl rfl ?_ | refine kl_skipg rfl rfl rfl rfl ?_ | refine kl_skipg0 rfl rfl rfl ?_ | (first | refine kl_move rfl rfl (.inl rfl) rfl rfl ?_ | refine kl_move rfl rfl (.inr rfl) rfl rfl ?_ | refine kl_const rfl rfl (.inl rfl) rfl ?_ | refine kl_const rfl rfl (.inr rfl) rfl ?_) | ((first | refine kl_step rfl rfl rfl fun K hK => ?_ | refine kl_step0 rfl rfl rfl fun K hK => ?_); go_simp; (try go_bits); (first | refine hK _ _ ?_ | refine hK _ ?_); clear hK K))
    exact kq_ret1 rfl rfl ⟨by rw [HE.out], by rw [HE.out]; exact h4, HG4.out⟩
  subst he0
  have q4 : ((0 : Int) != 0) = false := rfl
  repeat (first | refine kw_seq ?_ | refine kw_region ?_ | refine kl_nil ?_ | refine kq_then ?_ | refine kw_iff rfl ?_ | refine kw_skip ?_ | (first | refine kl_move rfl rfl (.inl rfl) rfl rfl ?_ | refine kl_move rfl rfl (.inr rfl) rfl rfl ?_ | refine kl_const rfl rfl (.inl rfl) rfl ?_ | refine kl_const rfl rfl (.inr rfl) rfl ?_) | ((first | refine kl_step rfl rfl rfl fun K hK => ?_ | refine kl_step0 rfl rfl rfl fun K hK => ?_); go_simp; (try go_bits); (first | refine hK _ _ ?_ | refine hK _ ?_); clear hK K))
  refine kl_call rfl rfl rfl Try.func47 rfl (by kernel_rfl) rfl ?_
  refine Calls.mono (appendR_any Q g hQ f2 tc A2 m c2 b w4 h4 HTB.out HB4.out hn2 hc2) ?_
  rintro e w5 ⟨rfl, h5, hg5⟩
  refine ⟨_, rfl, ?_⟩
  have HG5 := Lib.hid (grown_trans HG4.out hg5)
  obtain ⟨r3, hr3⟩ : ∃ r3, appendP f2 tc b = r3 := ⟨_, rfl⟩
  rw [hr3] at h5 ⊢
  have HE := Lib.hid (HM.out.trans (wr_3 HR1.out rfl HTC.out HR2.out rfl hr3))
  clear h4 hg5 hr3
  obtain ⟨e3, f3⟩ := r3
  dsimp only at h5 ⊢
  repeat (first | refine kw_seq ?_ | refine kw_block ?_ | refine kw_skip ?_ | refine kw_region ?_ | refine kl_nil ?_ | refine kq_then ?_ | refine kq_block ?_ | refine kw_exit ?_ | refine kq_then_exit ?_ | refine kq_block_here rfl ?_ | refine kq_block_far rfl ?_ | refine kq_again_exit ?_ | refine kw_ret ?_ | refine kq_then_ret ?_ | refine kq_block_ret ?_ | refine kq_again_ret ?_ | refine kw_ift rfl ?_ | refine kw_iff rfl ?_ | refine kl_ung rfl rfl ?_ | refine kl_skipg rfl rfl rfl rfl ?_ | refine kl_skipg0 rfl rfl rfl ?_ | (first | refine kl_move rfl rfl (.inl rfl) rfl rfl ?_ | refine kl_move rfl rfl (.inr rfl) rfl rfl ?_ | refine kl_const rfl rfl (.inl rfl) rfl ?_ | refine kl_const rfl rfl (.inr rfl) rfl ?_) | ((first | refine kl_step rfl rfl rfl fun K hK => ?_ | refine kl_step0 rfl rfl rfl fun K hK => ?_); go_simp; (try go_bits); (first | refine hK _ _ ?_ | refine hK _ ?_); clear hK K))
  exact kq_ret1 rfl rfl ⟨by rw [HE.out], by rw [HE.out]; exact h5, HG5.out⟩
end Go.Proofs.Ytcpifcdndhhmgaa
set_option linter.unusedVariables false
set_option linter.unusedSimpArgs false
namespace Go.Proofs.Ytcpifcdndhhmgaa
open Go.RowKit

end Go.Proofs.Ytcpifcdndhhmgaa
set_option linter.unusedVariables false
set_option linter.unusedSimpArgs false
namespace Go.Proofs.Ytcpifcdndhhmgaa
open Go.RowKit
attribute [local go_sem] ev_tmp ev_const ev_func ev_global lk_hit lk_miss uponK_value uponK_skip look_tmp look_const look_global look_func valP_value
end Go.Proofs.Ytcpifcdndhhmgaa
set_option linter.unusedVariables false
set_option linter.unusedSimpArgs false
namespace Go.Proofs.Ytcpifcdndhhmgaa
open Go.RowKit

def NeQ (g x : Nat) (b : Nat) : Prop := b ≠ g ∧ b ≠ x
structure Duo (w0 W : World) (g x : Nat) (f k : FlashSt) : Prop where
  fs : FS (NeQ g x) W g f
  rf : RF (NeQ g x) W x k
  ge : w0.heap.size ≤ g
  lt : g < x
  bel : Below w0.heap.size w0 W
section
variable {w0 W W' : World} {g x : Nat} {f k f1 : FlashSt}
theorem neq_g (b : Nat) (h : NeQ g x b) : b ≠ g := h.1
theorem neq_x (b : Nat) (h : NeQ g x b) : b ≠ x := h.2
theorem Duo.next (h : Duo w0 W g x f k) (hb : Below W.heap.size W W') : Duo w0 W' g x f k := ⟨h.fs.below hb, h.rf.below hb, h.ge, h.lt, below_then h.bel hb h.bel.size⟩
theorem Duo.fst (h : Duo w0 W g x f k) (hF : FS (NeQ g x) W' g f1) (hg : W.grownBy W' (some g)) : Duo w0 W' g x f1 k :=
  ⟨hF, h.rf.other hg (by have := h.lt; omega) neq_g, h.ge, h.lt, below_grown h.bel hg h.bel.size h.ge⟩
theorem Duo.snd (h : Duo w0 W g x f k) (hF : RF (NeQ g x) W' x f1) (hg : W.grownBy W' (some x)) : Duo w0 W' g x f f1 :=
  ⟨h.fs.other hg (by have := h.lt; omega) neq_x, hF, h.ge, h.lt, below_grown h.bel hg h.bel.size (by have := h.lt; have := h.ge; omega)⟩
theorem Duo.xlt (h : Duo w0 W g x f k) : x < W.heap.size := h.rf.lt
theorem Duo.fresh (h : Duo w0 W g x f k) : ∀ b, W.heap.size ≤ b → NeQ g x b := fun b hb => by have := h.rf.lt; have := h.lt; exact ⟨by omega, by omega⟩
theorem Duo.keeps (h : Duo w0 W g x f k) : Keeps w0 W := Keeps.of_below h.bel
theorem Duo.start (w0 w w1 w2 : World) (hb : Below w0.heap.size w0 w) (h1 : FS (fun _ => False) w1 w.heap.size f) (hb1 : Below w.heap.size w w1) (h2 : RF (fun _ => False) w2 w1.heap.size k) (hb2 : Below w1.heap.size w1 w2) : Duo w0 w2 w.heap.size w1.heap.size f k :=
  ⟨(h1.below hb2).weak fun _ h => h.elim, h2.weak fun _ h => h.elim, hb.size, h1.lt, below_then (below_then hb hb1 hb.size) hb2 (Nat.le_trans hb.size hb1.size)⟩
end
end Go.Proofs.Ytcpifcdndhhmgaa
