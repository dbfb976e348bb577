/- Save of the code. -/
import Derived.Test.YtcpifcdndhhmgaaRetLoad
import Derived.Test.YtcpifcdndhhmgaaRefChange
import Derived.Test.YtcpifcdndhhmgaaRecApp
import Derived.Test.YtcpifcdndhhmgaaFlashProg
import Derived.Test.YtcpifcdndhhmgaaRetRd
set_option linter.unusedVariables false
set_option linter.unusedSimpArgs false
namespace Go.Proofs.Ytcpifcdndhhmgaa
open Go.RowKit
attribute [local go_sem] ev_tmp ev_const ev_func ev_global lk_hit lk_miss uponK_value uponK_skip look_tmp look_const look_global look_func valP_value
def DoP (F : (Nat → Prop) → World → Nat → FlashSt → Prop) (Q : Nat → Prop) (g : Nat) (r : Int × FlashSt) (w : World) (e : Ending) (w' : World) : Prop := e = .returned (.int .i64 r.1) ∧ F Q w' g r.2 ∧ w.grownBy w' (some g)
theorem wr_1 {f : FlashSt} {s : Int} {b : List UInt8} {r : Int × FlashSt} (h : appendP f s b = r) (h4 : r.1 ≠ 4) : writeK f s b = r := by unfold writeK; rw [h, if_pos h4]
theorem wr_2 {f : FlashSt} {s t : Int} {b : List UInt8} {r r2 : Int × FlashSt} (h : appendP f s b = r) (h4 : r.1 = 4) (ht : 9 - s = t) (h2 : eraseF r.2 t = r2) (h0 : r2.1 ≠ 0) : writeK f s b = r2 := by unfold writeK; rw [h, if_neg (by simp [h4]), ht, h2, if_pos h0]
theorem wr_3 {f : FlashSt} {s t : Int} {b : List UInt8} {r r2 r3 : Int × FlashSt} (h : appendP f s b = r) (h4 : r.1 = 4) (ht : 9 - s = t) (h2 : eraseF r.2 t = r2) (h0 : r2.1 = 0) (h3 : appendP r2.2 t b = r3) : writeK f s b = r3 := by unfold writeK; rw [h, if_neg (by simp [h4]), ht, h2, if_neg (by simp [h0]), h3]
theorem save_many {f : FlashSt} {l : List KepS} (h : 24 < l.length) : saveK f l = (4, f) := by unfold saveK; rw [if_pos h]
theorem save_over {f : FlashSt} {l : List KepS} (h : ¬ 24 < l.length) (h2 : 1073741824 ≤ (newK f).1) : saveK f l = (11, f) := by unfold saveK; rw [if_neg h, if_pos h2]
theorem save_go {f : FlashSt} {l : List KepS} (h : ¬ 24 < l.length) {q q1 s : Int} (hq : (newK f).1 = q) (h2 : ¬ 1073741824 ≤ q) (hq1 : q + 1 = q1) (hs : (newK f).2.2 = s) : saveK f l = writeK f s (bytesK q1 l) := by unfold saveK; rw [if_neg h, hq, if_neg h2, hq1, hs]
theorem own_away {w : World} {base n : Nat} {v : Value} {l : List UInt8} (h : w.ownsRow base 5 1 v n (bv l)) : ∃ A c, v = .slice A n c ∧ Bs w A n l ∧ n ≤ c ∧ c ≤ 9223372036854775807 ∧ ∀ a, A = some a → base ≤ a.block := by
  rcases h.2 with ⟨h1, h2⟩ | ⟨g, cap, cur, h1, hb, _, h4, h5, _⟩
  · subst h2; exact ⟨none, 0, h1, by subst h1; exact .of_own h, Nat.le_refl _, by omega, fun a e => by cases e⟩
  · subst h1; exact ⟨_, cap, rfl, .of_own h, h4, by simpa [maxLen] using h5, fun a e => by injection e with e; subst e; exact hb⟩
set_option maxRecDepth 100000 in
set_option maxHeartbeats 4000000 in
theorem saveK_any (Q : Nat → Prop) (g : Nat) (hQ : ∀ b, Q b → b ≠ g) (f : FlashSt) (A : Option Addr) (n c : Nat) (l : List KepS) (w : World) (h : FS Q w g f) (hA : KeS w A n l) (hV : KepV l) : Calls Try.prog 11 #[.pointer (some ⟨g, 0, none⟩), .slice A n c] w (DoP FS Q g (saveK f l) w) := by
  have hglt := h.lt
  have hln := hA.len
  have hKS := newK_ok f
  have hsec := newK_sec f
  refine calls_kw Try.func11 rfl Try.ntmps11 rfl [(0, .pointer (some ⟨g, 0, none⟩)), (1, .slice A n c)] rfl ?_
  by_cases h24 : 24 < n
  case pos =>
    have t1 : decide ((24 : Int) < (n : Int)) = true := by rw [decide_eq_true_eq]; omega
    have t1n : decide (24 < n) = true := decide_eq_true h24
    have HE := Lib.hid (save_many (f := f) (l := l) (by omega))
    clear h24 hln hKS hsec
    repeat (first | refine kw_seq ?_ | refine kw_block ?_ | refine kw_skip ?_ | refine kw_region ?_ | refine kl_nil ?_ | refine kq_then ?_ | refine kq_block ?_ | refine kw_exit ?_ | refine kq_then_exit ?_ | refine kq_block_here rfl ?_ | refine kq_block_far rfl ?_ | refine kq_again_exit ?_ | refine kw_ret ?_ | refine kq_then_ret ?_ | refine kq_block_ret ?_ | refine kq_again_ret ?_ | refine kw_ift rfl ?_ | refine kw_iff rfl ?_ | refine kl_ung rfl rfl ?_ | refine kl_skipg rfl rfl rfl rfl ?_ | refine kl_skipg0 rfl rfl rfl ?_ | (first | refine kl_move rfl rfl (.inl rfl) rfl rfl ?_ | refine kl_move rfl rfl (.inr rfl) rfl rfl ?_ | refine kl_const rfl rfl (.inl rfl) rfl ?_ | refine kl_const rfl rfl (.inr rfl) rfl ?_) | ((first | refine kl_step rfl rfl rfl fun K hK => ?_ | refine kl_step0 rfl rfl rfl fun K hK => ?_); go_simp; (try go_bits); (first | refine hK _ _ ?_ | refine hK _ ?_); clear hK K))
    exact kq_ret1 rfl rfl ⟨by rw [HE.out], by rw [HE.out]; exact h, grown_refl _ _⟩
  have t1 : decide ((24 : Int) < (n : Int)) = false := by rw [decide_eq_false_iff_not]; omega
  have t1n : decide (24 < n) = false := decide_eq_false h24
  have H24 : Hid (¬ 24 < l.length) := by show ¬ _; omega
  have HN24 : Hid (n ≤ 1000) := by show _ ≤ _; omega
  clear h24 hln
  repeat (first | refine kw_seq ?_ | refine kw_region ?_ | refine kl_nil ?_ | refine kq_then ?_ | refine kw_iff rfl ?_ | refine kw_skip ?_ | (first | refine kl_move rfl rfl (.inl rfl) rfl rfl ?_ | refine kl_move rfl rfl (.inr rfl) rfl rfl ?_ | refine kl_const rfl rfl (.inl rfl) rfl ?_ | refine kl_const rfl rfl (.inr rfl) rfl ?_) | ((first | refine kl_step rfl rfl rfl fun K hK => ?_ | refine kl_step0 rfl rfl rfl fun K hK => ?_); go_simp; (try go_bits); (first | refine hK _ _ ?_ | refine hK _ ?_); clear hK K))
  refine kl_call rfl rfl rfl Try.func37 rfl (by kernel_rfl) rfl ?_
  refine Calls.mono (loadN_any Q g f w h) ?_
  rintro e w1 ⟨A1, n1, c1, rfl, _, _, _, _, hb1⟩
  refine ⟨_, rfl, ?_⟩
  rw [stK_code]
  obtain ⟨q, hq⟩ : ∃ q, (newK f).1 = q := ⟨_, rfl⟩
  obtain ⟨sc, hsc⟩ : ∃ sc, (newK f).2.2 = sc := ⟨_, rfl⟩
  have hqb := hKS.seq
  rw [hq] at hqb ⊢
  rw [hsc] at hsec ⊢
  have HQ := Lib.hid hq
  have HSC := Lib.hid hsc
  have h1 := h.below hb1
  have HB1 := Lib.hid hb1
  clear hq hsc hKS t1 t1n hb1
  by_cases hov : 1073741824 ≤ q
  case pos =>
    have t3 : decide (1073741824 ≤ q) = true := decide_eq_true hov
    have HE := Lib.hid (save_over (f := f) (l := l) H24.out (by rw [HQ.out]; exact hov))
    clear hov hqb hsec
    repeat (first | refine kw_seq ?_ | refine kw_block ?_ | refine kw_skip ?_ | refine kw_region ?_ | refine kl_nil ?_ | refine kq_then ?_ | refine kq_block ?_ | refine kw_exit ?_ | refine kq_then_exit ?_ | refine kq_block_here rfl ?_ | refine kq_block_far rfl ?_ | refine kq_again_exit ?_ | refine kw_ret ?_ | refine kq_then_ret ?_ | refine kq_block_ret ?_ | refine kq_again_ret ?_ | refine kw_ift rfl ?_ | refine kw_iff rfl ?_ | refine kl_ung rfl rfl ?_ | refine kl_skipg rfl rfl rfl rfl ?_ | refine kl_skipg0 rfl rfl rfl ?_ | (first | refine kl_move rfl rfl (.inl rfl) rfl rfl ?_ | refine kl_move rfl rfl (.inr rfl) rfl rfl ?_ | refine kl_const rfl rfl (.inl rfl) rfl ?_ | refine kl_const rfl rfl (.inr rfl) rfl ?_) | ((first | refine kl_step rfl rfl rfl fun K hK => ?_ | refine kl_step0 rfl rfl rfl fun K hK => ?_); go_simp; (try go_bits); (first | refine hK _ _ ?_ | refine hK _ ?_); clear hK K))
    exact kq_ret1 rfl rfl ⟨by rw [HE.out], by rw [HE.out]; exact h1, grown_below HB1.out _⟩
  have t3 : decide (1073741824 ≤ q) = false := decide_eq_false hov
  obtain ⟨q1, hq1⟩ : ∃ q1, q + 1 = q1 := ⟨_, rfl⟩
  have a1 : 0 ≤ q1 := by omega
  have a2 : q1 ≤ 1073741825 := by omega
  have HQ1 := Lib.hid hq1
  have HNO := Lib.hid hov
  have HQI : Hid (I64 q1) := by show I64 q1; unfold I64; omega
  have s0 : 4 ≤ sc := by omega
  have s1 : sc ≤ 5 := by omega
  obtain ⟨tc, htc⟩ : ∃ tc, 9 - sc = tc := ⟨_, rfl⟩
  have HTC := Lib.hid htc
  have HSB : Hid (-9223372036854775808 ≤ sc ∧ sc ≤ 9223372036854775807) := by show _ ∧ _; omega
  have HTB : Hid (-9223372036854775808 ≤ tc ∧ tc ≤ 9223372036854775807) := by show _ ∧ _; omega
  clear hov hsec
  repeat (first | refine kw_seq ?_ | refine kw_region ?_ | refine kl_nil ?_ | refine kq_then ?_ | refine kw_iff rfl ?_ | refine kw_skip ?_ | (first | refine kl_move rfl rfl (.inl rfl) rfl rfl ?_ | refine kl_move rfl rfl (.inr rfl) rfl rfl ?_ | refine kl_const rfl rfl (.inl rfl) rfl ?_ | refine kl_const rfl rfl (.inr rfl) rfl ?_) | ((first | refine kl_step rfl rfl rfl fun K hK => ?_ | refine kl_step0 rfl rfl rfl fun K hK => ?_); go_simp; (try go_bits); (first | refine hK _ _ ?_ | refine hK _ ?_); clear hK K))
  refine kl_call rfl rfl rfl Try.func14 rfl (by kernel_rfl) rfl ?_
  refine Calls.mono (bytesK_any q1 A n c l w1 (hA.below HB1.out) HN24.out hV HQI.out) ?_
  rintro e w2 ⟨v2, m, rfl, ho2, hb2⟩
  refine ⟨_, rfl, ?_⟩
  obtain ⟨A2, c2, rfl, hB2, hn2, hc2, haw⟩ := own_away ho2
  have HAW : Hid (0 < m → Away g A2) := fun _ a e => by have := haw a e; have := h1.lt; omega
  obtain ⟨b, hbe⟩ : ∃ b, bytesK q1 l = b := ⟨_, rfl⟩
  have HM := save_go (f := f) (l := l) H24.out HQ.out HNO.out HQ1.out HSC.out
  rw [hbe] at HM hB2
  have HM := Lib.hid HM
  have HB2 := Lib.hid hB2
  have h2 := h1.below hb2
  have HG2 := Lib.hid (grown_trans (grown_below HB1.out (some g)) (grown_below hb2 (some g)))
  clear hbe ho2 haw hB2 hb2 h1 HB1
  repeat (first | refine kw_seq ?_ | refine kw_region ?_ | refine kl_nil ?_ | refine kq_then ?_ | refine kw_iff rfl ?_ | refine kw_skip ?_ | (first | refine kl_move rfl rfl (.inl rfl) rfl rfl ?_ | refine kl_move rfl rfl (.inr rfl) rfl rfl ?_ | refine kl_const rfl rfl (.inl rfl) rfl ?_ | refine kl_const rfl rfl (.inr rfl) rfl ?_) | ((first | refine kl_step rfl rfl rfl fun K hK => ?_ | refine kl_step0 rfl rfl rfl fun K hK => ?_); go_simp; (try go_bits); (first | refine hK _ _ ?_ | refine hK _ ?_); clear hK K))
  refine kl_call rfl rfl rfl Try.func38 rfl (by kernel_rfl) rfl ?_
  refine Calls.mono (append_any Q g hQ f sc A2 m c2 b w2 h2 HSB.out HB2.out hn2 hc2) ?_
  rintro e w3 ⟨rfl, h3, hg3⟩
  refine ⟨_, rfl, ?_⟩
  have HB3 := Lib.hid (HB2.out.grownKeep0 hg3 HAW.out)
  have HG3 := Lib.hid (grown_trans HG2.out hg3)
  obtain ⟨r1, hr1⟩ : ∃ r1, appendP f sc b = r1 := ⟨_, rfl⟩
  rw [hr1] at h3 ⊢
  have HR1 := Lib.hid hr1
  clear h2 HG2 HB2 hr1 hg3
  obtain ⟨e1, f1⟩ := r1
  dsimp only at h3 ⊢
  by_cases he4 : e1 = 4
  case neg =>
    have q3 : (e1 != 4) = true := bne_iff_ne.2 he4
    have HE := Lib.hid (HM.out.trans (wr_1 HR1.out he4))
    clear he4
    repeat (first | refine kw_seq ?_ | refine kw_block ?_ | refine kw_skip ?_ | refine kw_region ?_ | refine kl_nil ?_ | refine kq_then ?_ | refine kq_block ?_ | refine kw_exit ?_ | refine kq_then_exit ?_ | refine kq_block_here rfl ?_ | refine kq_block_far rfl ?_ | refine kq_again_exit ?_ | refine kw_ret ?_ | refine kq_then_ret ?_ | refine kq_block_ret ?_ | refine kq_again_ret ?_ | refine kw_ift rfl ?_ | refine kw_iff rfl ?_ | refine kl_ung rfl rfl ?_ | refine kl_skipg rfl rfl rfl rfl ?_ | refine kl_skipg0 rfl rfl rfl ?_ | (first | refine kl_move rfl rfl (.inl rfl) rfl rfl ?_ | refine kl_move rfl rfl (.inr rfl) rfl rfl ?_ | refine kl_const rfl rfl (.inl rfl) rfl ?_ | refine kl_const rfl rfl (.inr rfl) rfl ?_) | ((first | refine kl_step rfl rfl rfl fun K hK => ?_ | refine kl_step0 rfl rfl rfl fun K hK => ?_); go_simp; (try go_bits); (first | refine hK _ _ ?_ | refine hK _ ?_); clear hK K))
    exact kq_ret1 rfl rfl ⟨by rw [HE.out], by rw [HE.out]; exact h3, HG3.out⟩
  subst he4
  have q3 : ((4 : Int) != 4) = false := rfl
  repeat (first | refine kw_seq ?_ | refine kw_region ?_ | refine kl_nil ?_ | refine kq_then ?_ | refine kw_iff rfl ?_ | refine kw_skip ?_ | (first | refine kl_move rfl rfl (.inl rfl) rfl rfl ?_ | refine kl_move rfl rfl (.inr rfl) rfl rfl ?_ | refine kl_const rfl rfl (.inl rfl) rfl ?_ | refine kl_const rfl rfl (.inr rfl) rfl ?_) | ((first | refine kl_step rfl rfl rfl fun K hK => ?_ | refine kl_step0 rfl rfl rfl fun K hK => ?_); go_simp; (try go_bits); (first | refine hK _ _ ?_ | refine hK _ ?_); clear hK K))
  refine kl_call rfl rfl rfl Try.func39 rfl (by kernel_rfl) rfl ?_
  refine Calls.mono (erase_any Q g hQ f1 tc w3 h3) ?_
  rintro e w4 ⟨rfl, h4, hg4⟩
  refine ⟨_, rfl, ?_⟩
  have HB4 := Lib.hid (HB3.out.grownKeep0 hg4 HAW.out)
  have HG4 := Lib.hid (grown_trans HG3.out hg4)
  obtain ⟨r2, hr2⟩ : ∃ r2, eraseF f1 tc = r2 := ⟨_, rfl⟩
  rw [hr2] at h4 ⊢
  have HR2 := Lib.hid hr2
  clear h3 HG3 HB3 hr2 hg4 htc
  obtain ⟨e2, f2⟩ := r2
  dsimp only at h4 ⊢
  by_cases he0 : e2 = 0
  case neg =>
    have q4 : (e2 != 0) = true := bne_iff_ne.2 he0
    have HE := Lib.hid (HM.out.trans (wr_2 HR1.out rfl HTC.out HR2.out he0))
    clear he0
    repeat (first | refine kw_seq ?_ | refine kw_block ?_ | refine kw_skip ?_ | refine kw_region ?_ | refine kl_nil ?_ | refine kq_then ?_ | refine kq_block ?_ | refine kw_exit ?_ | refine kq_then_exit ?_ | refine kq_block_here rfl ?_ | refine kq_block_far rfl ?_ | refine kq_again_exit ?_ | refine kw_ret ?_ | refine kq_then_ret ?_ | refine kq_block_ret ?_ | refine kq_again_ret ?_ | refine kw_ift rfl ?_ | refine kw_iff rfl ?_ | refine kl_ung rfl rfl ?_ | refine kl_skipg rfl rfl rfl rfl ?_ | refine kl_skipg0 rfl rfl rfl ?_ | (first | refine kl_move rfl rfl (.inl rfl) rfl rfl ?_ | refine kl_move rfl rfl (.inr rfl) rfl rfl ?_ | refine kl_const rfl rfl (.inl rfl) rfl ?_ | refine kl_const rfl rfl (.inr rfl) rfl ?_) | ((first | refine kl_step rfl rfl rfl fun K hK => ?_ | refine kl_step0 rfl rfl rfl fun K hK => ?_); go_simp; (try go_bits); (first | refine hK _ _ ?_ | refine hK _ ?_); clear hK K))
    exact kq_ret1 rfl rfl ⟨by rw [HE.out], by rw [HE.out]; exact h4, HG4.out⟩
  subst he0
  have q4 : ((0 : Int) != 0) = false := rfl
  repeat (first | refine kw_seq ?_ | refine kw_region ?_ | refine kl_nil ?_ | refine kq_then ?_ | refine kw_iff rfl ?_ | refine kw_skip ?_ | (first | refine kl_move rfl rfl (.inl rfl) rfl rfl ?_ | refine kl_move rfl rfl (.inr rfl) rfl rfl ?_ | refine kl_const rfl rfl (.inl rfl) rfl ?_ | refine kl_const rfl rfl (.inr rfl) rfl ?_) | ((first | refine kl_step rfl rfl rfl fun K hK => ?_ | refine kl_step0 rfl rfl rfl fun K hK => ?_); go_simp; (try go_bits); (first | refine hK _ _ ?_ | refine hK _ ?_); clear hK K))
  refine kl_call rfl rfl rfl Try.func38 rfl (by kernel_rfl) rfl ?_
  refine Calls.mono (append_any Q g hQ f2 tc A2 m c2 b w4 h4 HTB.out HB4.out hn2 hc2) ?_
  rintro e w5 ⟨rfl, h5, hg5⟩
  refine ⟨_, rfl, ?_⟩
  have HG5 := Lib.hid (grown_trans HG4.out hg5)
  obtain ⟨r3, hr3⟩ : ∃ r3, appendP f2 tc b = r3 := ⟨_, rfl⟩
  rw [hr3] at h5 ⊢
  have HE := Lib.hid (HM.out.trans (wr_3 HR1.out rfl HTC.out HR2.out rfl hr3))
  clear h4 hg5 hr3
  obtain ⟨e3, f3⟩ := r3
  dsimp only at h5 ⊢
  repeat (first | refine kw_seq ?_ | refine kw_block ?_ | refine kw_skip ?_ | refine kw_region ?_ | refine kl_nil ?_ | refine kq_then ?_ | refine kq_block ?_ | refine kw_exit ?_ | refine kq_then_exit ?_ | refine kq_block_here rfl ?_ | refine kq_block_far rfl ?_ | refine kq_again_exit ?_ | refine kw_ret ?_ | refine kq_then_ret ?_ | refine kq_block_ret ?_ | refine kq_again_ret ?_ | refine kw_ift rfl ?_ | refine kw_iff rfl ?_ | refine kl_ung rfl rfl ?_ | refine kl_skipg rfl rfl rfl rfl ?_ | refine kl_skipg0 rfl rfl rfl ?_ | (first | refine kl_move rfl rfl (.inl rfl) rfl rfl ?_ | refine kl_move rfl rfl (.inr rfl) rfl rfl ?_ | refine kl_const rfl rfl (.inl rfl) rfl ?_ | refine kl_const rfl rfl (.inr rfl) rfl ?_) | ((first | refine kl_step rfl rfl rfl fun K hK => ?_ | refine kl_step0 rfl rfl rfl fun K hK => ?_); go_simp; (try go_bits); (first | refine hK _ _ ?_ | refine hK _ ?_); clear hK K))
  exact kq_ret1 rfl rfl ⟨by rw [HE.out], by rw [HE.out]; exact h5, HG5.out⟩
end Go.Proofs.Ytcpifcdndhhmgaa
