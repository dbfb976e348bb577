/- SessionPlays: the walk. -/
import Derived.Test.YtkgenkkcgegcbaaSesPly4
import Derived.Test.YtkgenkkcgegcbaaSesParE
import Derived.Test.YtkgenkkcgegcbaaShaSum
namespace Go.Proofs.Ytkgenkkcgegcbaa
open Go.RowKit
attribute [local go_sem] ev_tmp ev_const ev_func ev_global lk_hit lk_miss uponK_value uponK_skip look_tmp look_const look_global look_func valP_value
theorem frm_set7 (a b c d : Int) (X : List UInt8) (D : Value) (y : UInt8) (h : 3 < X.length) : (frmV ⟨a, b, c, d, X, []⟩ D).set 7 (.int .u8 (y.toNat : Int)) = frmV ⟨a, b, c, d, X.set 3 y, []⟩ D := by
  show (Value.int .i64 a :: .int .i64 b :: .int .i64 c :: .int .i64 d :: (bv X ++ [D]) : List Value).set 7 _ = _ :: _ :: _ :: _ :: (bv (X.set 3 y) ++ [D])
  simp only [List.set_cons_succ]
  rw [List.set_append_left _ _ (by rw [length_bv]; exact h), bv_set']
def PlaysP (w : World) (e : Ending) (w' : World) : Prop := e = .returned (.bool true) ∧ Below w.heap.size w w'
set_option maxRecDepth 100000 in
set_option maxHeartbeats 4000000 in
theorem plays_loop {w wr : World} {n c n1 c1 g7 g8 g10 : Nat} {A A1 : Option Addr} {img : List UInt8} {l : List Act17} {s : Ses} {F : Frm} {D G D2 G2 : Value}
    (h : PlS w g7 g8 g10 F (.slice none 0 0) s D G D2 G2 wr) (hs : 0 < n → s.size = n ∧ s.data.length = n ∧ s.got.length = n ∧ NB g8 g10 D2 ∧ NB g8 g10 G2) (hn : n ≤ 300) (hF : FrmM w F (.slice none 0 0))
    (hb : 0 < n → (beginS F).size = n ∧ (beginS F).data.length = n ∧ (beginS F).got.length = n) (hA : Bs w A n img) (hc : n ≤ c) (hc2 : c ≤ 9223372036854775807) (hL1 : Acts17 w A1 n1 l) (hn1 : n1 ≤ 60) :
    KW Try.prog (rowAt Try.f3 12) (bodyPost Try.prog Try.f3 (PlaysP w)) 205 [(0, .slice A n c), (1, .slice A1 n1 c1), (7, .pointer (some ⟨g7, 0, none⟩)), (8, .pointer (some ⟨g8, 0, none⟩)), (10, .pointer (some ⟨g10, 0, none⟩))] wr := by
  conv => arg 2; whnf
  have H := Lib.hid h
  have HA := Lib.hid hA
  have HL1 := Lib.hid hL1
  have HF := Lib.hid hF
  have HB := Lib.hid hb
  clear h hA hL1 hF hb
  repeat (first | refine kw_seq ?_ | refine kw_skip ?_ | refine kw_region ?_ | refine kl_nil ?_ | refine kq_then ?_ | refine kq_block ?_ | refine kw_exit ?_ | refine kq_then_exit ?_ | refine kq_block_here rfl ?_ | refine kq_block_far rfl ?_ | refine kq_again_exit ?_ | refine kw_ret ?_ | refine kq_then_ret ?_ | refine kq_block_ret ?_ | refine kq_again_ret ?_ | refine kw_ift rfl ?_ | refine kw_iff rfl ?_ | refine kl_ung rfl rfl ?_ | refine kl_skipg rfl rfl rfl rfl ?_ | refine kl_skipg0 rfl rfl rfl ?_ | (first | refine kl_move rfl rfl (.inl rfl) rfl rfl ?_ | refine kl_move rfl rfl (.inr rfl) rfl rfl ?_ | refine kl_const rfl rfl (.inl rfl) rfl ?_ | refine kl_const rfl rfl (.inr rfl) rfl ?_) | ((first | refine kl_step rfl rfl rfl fun K hK => ?_ | refine kl_step0 rfl rfl rfl fun K hK => ?_); go_simp; (try go_bits); (first | refine hK _ _ ?_ | refine hK _ ?_); clear hK K))
  refine KW.less [0, 1, 7, 8, 10, 12] ?_
  simp only [nrm, lk, Nat.reduceBEq, cond_true, cond_false]
  refine kw_block ?_
  refine kw_loop (fun mm L W => ∃ i s' D' G' E' H', i ≤ n1 ∧ mm = n1 - i ∧ PlS w g7 g8 g10 F (.slice none 0 0) s' D' G' E' H' W ∧ (0 < n → s'.size = n ∧ s'.data.length = n ∧ s'.got.length = n ∧ NB g8 g10 E' ∧ NB g8 g10 H') ∧ L = [(0, .slice A n c), (1, .slice A1 n1 c1), (7, .pointer (some ⟨g7, 0, none⟩)), (8, .pointer (some ⟨g8, 0, none⟩)), (10, .pointer (some ⟨g10, 0, none⟩)), (12, .int .i64 (i : Int))]) ⟨0, s, D, G, D2, G2, by omega, rfl, H.out, hs, rfl⟩ ?_
  clear H hs
  rintro mm L W ⟨i, s', D', G', E', H', hi, rfl, hP, hs, rfl⟩
  by_cases hlt : i < n1
  · have t1 : decide ((i : Int) < (n1 : Int)) = true := by rw [decide_eq_true_eq]; omega
    have t1n : decide (i < n1) = true := decide_eq_true hlt
    by_cases h0 : 0 < n
    · have t2 : decide ((0 : Int) < (n : Int)) = true := by rw [decide_eq_true_eq]; omega
      have t2n : decide (0 < n) = true := decide_eq_true h0
      obtain ⟨hs1, hs2, hs3, nE, nH⟩ := hs h0
      obtain ⟨hb1, hb2, hb3⟩ := HB.out h0
      repeat (first | refine kw_seq ?_ | refine kw_region ?_ | refine kl_nil ?_ | refine kq_then ?_ | refine kw_ift rfl ?_ | refine kw_skip ?_ | refine kl_ung rfl rfl ?_ | (first | refine kl_move rfl rfl (.inl rfl) rfl rfl ?_ | refine kl_move rfl rfl (.inr rfl) rfl rfl ?_ | refine kl_const rfl rfl (.inl rfl) rfl ?_ | refine kl_const rfl rfl (.inr rfl) rfl ?_) | ((first | refine kl_step rfl rfl rfl fun K hK => ?_ | refine kl_step0 rfl rfl rfl fun K hK => ?_); go_simp; (try go_bits); (first | refine hK _ _ ?_ | refine hK _ ?_); clear hK K))
      refine KW.less [0, 1, 7, 8, 10, 12] ?_
      simp only [nrm, lk, Nat.reduceBEq, cond_true, cond_false]
      clear t1 t1n t2 t2n
      refine plays_round hP nE nH hs1 hs2 hs3 h0 hn HF.out hb1 hb2 hb3 HA.out hc hc2 HL1.out hn1 hlt ?_ ?_
      · intro wr' s2 D3 G3 E3 H3 hP2 kE kH k1 k2 k3
        refine kq_then ?_
        obtain ⟨ni, hni⟩ : ∃ ni, i + 1 = ni := ⟨_, rfl⟩
        have i3 : (i : Int) + 1 = (ni : Int) := by omega
        have i4 : IntKind.i64.wrap ((i : Int) + 1) = (ni : Int) := by rw [i3, IntWalk.i64_in _ (by omega)]
        have HNI := Lib.hid hni
        clear hni
        repeat (first | refine kw_seq ?_ | refine kw_region ?_ | (first | refine kl_move rfl rfl (.inl rfl) rfl rfl ?_ | refine kl_move rfl rfl (.inr rfl) rfl rfl ?_ | refine kl_const rfl rfl (.inl rfl) rfl ?_ | refine kl_const rfl rfl (.inr rfl) rfl ?_) | ((first | refine kl_step rfl rfl rfl fun K hK => ?_ | refine kl_step0 rfl rfl rfl fun K hK => ?_); go_simp; (try go_bits); (first | refine hK _ _ ?_ | refine hK _ ?_); clear hK K))
        refine kl_nil ?_
        have hni := HNI.out
        refine kq_again (n1 - ni) [0, 1, 7, 8, 10, 12] (by omega) ?_
        exact ⟨ni, s2, D3, G3, E3, H3, by omega, rfl, hP2, fun _ => ⟨k1, k2, k3, kE, kH⟩, rfl⟩
      · intro wr' hb
        refine kq_then_ret ?_
        refine kq_again_ret ?_
        refine kq_block_ret ?_
        refine kq_then_ret ?_
        exact kq_ret1 rfl rfl ⟨rfl, hb⟩
    · obtain rfl : n = 0 := by omega
      have t2 : decide ((0 : Int) < ((0 : Nat) : Int)) = false := by decide
      repeat (first | refine kw_seq ?_ | refine kw_block ?_ | refine kw_skip ?_ | refine kw_region ?_ | refine kl_nil ?_ | refine kq_then ?_ | refine kq_block ?_ | refine kw_exit ?_ | refine kq_then_exit ?_ | refine kq_block_here rfl ?_ | refine kq_block_far rfl ?_ | refine kq_again_exit ?_ | refine kw_ret ?_ | refine kq_then_ret ?_ | refine kq_block_ret ?_ | refine kq_again_ret ?_ | refine kw_ift rfl ?_ | refine kw_iff rfl ?_ | refine kl_ung rfl rfl ?_ | refine kl_skipg rfl rfl rfl rfl ?_ | refine kl_skipg0 rfl rfl rfl ?_ | (first | refine kl_move rfl rfl (.inl rfl) rfl rfl ?_ | refine kl_move rfl rfl (.inr rfl) rfl rfl ?_ | refine kl_const rfl rfl (.inl rfl) rfl ?_ | refine kl_const rfl rfl (.inr rfl) rfl ?_) | ((first | refine kl_step rfl rfl rfl fun K hK => ?_ | refine kl_step0 rfl rfl rfl fun K hK => ?_); go_simp; (try go_bits); (first | refine hK _ _ ?_ | refine hK _ ?_); clear hK K))
      exact kq_ret1 rfl rfl ⟨rfl, hP.lay.below⟩
  · obtain rfl : i = n1 := by omega
    have t1 : decide ((i : Int) < (i : Int)) = false := by simp
    have t1n : decide (i < i) = false := by simp
    clear hlt
    repeat (first | refine kw_seq ?_ | refine kw_block ?_ | refine kw_skip ?_ | refine kw_region ?_ | refine kl_nil ?_ | refine kq_then ?_ | refine kq_block ?_ | refine kw_exit ?_ | refine kq_then_exit ?_ | refine kq_block_here rfl ?_ | refine kq_block_far rfl ?_ | refine kq_again_exit ?_ | refine kw_ret ?_ | refine kq_then_ret ?_ | refine kq_block_ret ?_ | refine kq_again_ret ?_ | refine kw_ift rfl ?_ | refine kw_iff rfl ?_ | refine kl_ung rfl rfl ?_ | refine kl_skipg rfl rfl rfl rfl ?_ | refine kl_skipg0 rfl rfl rfl ?_ | (first | refine kl_move rfl rfl (.inl rfl) rfl rfl ?_ | refine kl_move rfl rfl (.inr rfl) rfl rfl ?_ | refine kl_const rfl rfl (.inl rfl) rfl ?_ | refine kl_const rfl rfl (.inr rfl) rfl ?_) | ((first | refine kl_step rfl rfl rfl fun K hK => ?_ | refine kl_step0 rfl rfl rfl fun K hK => ?_); go_simp; (try go_bits); (first | refine hK _ _ ?_ | refine hK _ ?_); clear hK K))
    exact kq_ret1 rfl rfl ⟨rfl, hP.lay.below⟩
set_option maxRecDepth 100000 in
set_option maxHeartbeats 4000000 in
theorem plays_start {w wr : World} {n c n1 c1 g7 : Nat} {A A1 : Option Addr} {img : List UInt8} {l : List Act17} {F : Frm} (hL : Lay w wr [(g7, (frmV F (.slice none 0 0)).toArray, 29)]) (hF : FrmM wr F (.slice none 0 0)) (hid : F.id = 3) (hsz : F.size = n)
    (hn : n ≤ 300) (hA : Bs w A n img) (hc : n ≤ c) (hc2 : c ≤ 9223372036854775807) (hL1 : Acts17 w A1 n1 l) (hn1 : n1 ≤ 60) :
    KW Try.prog (rowAt Try.f3 8) (bodyPost Try.prog Try.f3 (PlaysP w)) 205 [(0, .slice A n c), (1, .slice A1 n1 c1), (7, .pointer (some ⟨g7, 0, none⟩))] wr := by
  conv => arg 2; whnf
  have HA := Lib.hid hA
  have HL1 := Lib.hid hL1
  have HF := Lib.hid hF
  have HFS := Lib.hid hF.sum
  have hb0 : 0 < n → beginS F = ⟨3, n, F.sum, List.replicate n 0, List.replicate n false⟩ := fun h0 => by
    unfold beginS
    rw [if_neg (by unfold badF; omega), hid, hsz, Int.toNat_natCast]
  have hb : 0 < n → (beginS F).size = n ∧ (beginS F).data.length = n ∧ (beginS F).got.length = n := fun h0 => by rw [hb0 h0]; exact ⟨rfl, by simp, by simp⟩
  have hbn : (beginS F).data.length ≤ 1000000 ∧ (beginS F).got.length ≤ 1000000 := by
    rcases Nat.eq_zero_or_pos n with h0 | h0
    · unfold beginS
      rw [if_pos (by unfold badF; omega)]
      exact ⟨Nat.zero_le _, Nat.zero_le _⟩
    · obtain ⟨_, h1, h2⟩ := hb h0
      omega
  have HB := Lib.hid hb
  have HN := Lib.hid hbn
  have HFW : Hid (FrmM w F (.slice none 0 0)) := ⟨hF.kind, hF.id, hF.size, hF.at_, hF.sum, by have h0 : F.data = [] := (by obtain ⟨A', n', c', e, hb, _⟩ := hF.data; injection e with _ e _; subst e; exact List.eq_nil_of_length_eq_zero hb.len); rw [h0]; exact SlB.nil w⟩
  clear hA hL1 hF hb hb0 hbn
  repeat (first | refine kw_seq ?_ | refine kw_block ?_ | refine kw_skip ?_ | refine kw_region ?_ | refine kl_nil ?_ | refine kq_then ?_ | refine kq_block ?_ | refine kw_exit ?_ | refine kq_then_exit ?_ | refine kq_block_here rfl ?_ | refine kq_block_far rfl ?_ | refine kq_again_exit ?_ | refine kw_ret ?_ | refine kq_then_ret ?_ | refine kq_block_ret ?_ | refine kq_again_ret ?_ | refine kw_ift rfl ?_ | refine kw_iff rfl ?_ | refine kl_ung rfl rfl ?_ | refine kl_skipg rfl rfl rfl rfl ?_ | refine kl_skipg0 rfl rfl rfl ?_ | refine kl_getL hL 0 rfl Try.underlying29 rfl (infoF F _ HFS.out) rfl rfl rfl rfl rfl ?_ | (first | refine kl_move rfl rfl (.inl rfl) rfl rfl ?_ | refine kl_move rfl rfl (.inr rfl) rfl rfl ?_ | refine kl_const rfl rfl (.inl rfl) rfl ?_ | refine kl_const rfl rfl (.inr rfl) rfl ?_) | ((first | refine kl_step rfl rfl rfl fun K hK => ?_ | refine kl_step0 rfl rfl rfl fun K hK => ?_); go_simp; (try go_bits); (first | refine hK _ _ ?_ | refine hK _ ?_); clear hK K))
  refine kl_call rfl rfl rfl Try.func9 rfl (by kernel_rfl) rfl ?_
  refine Calls.mono (begin_any F _ wr HF.out) ?_
  rintro e w2 ⟨D, G, rfl, hM1, hb, hF1, hF2⟩
  have hL := hL.next hb
  have HF := Lib.hid (HF.out.keep (.of_below hb))
  have HM1 := Lib.hid hM1
  have HBS := Lib.hid hM1.sum
  clear hM1 hb
  refine ⟨_, rfl, ?_⟩
  obtain ⟨S0, hS0⟩ : ∃ S0, beginS F = S0 := ⟨_, rfl⟩
  obtain ⟨E0, hE0⟩ : ∃ E0, beginE F = E0 := ⟨_, rfl⟩
  rw [hS0] at HM1 HBS HN ⊢
  rw [hE0]
  have HS0 := Lib.hid hS0
  have HE0 := Lib.hid hE0
  clear hS0 hE0
  repeat (first | refine kl_varL (cells := (sesV S0 D G).toArray) hL sesZero (infoS S0 _ _ HBS.out) (sizeZ S0 _ _ HBS.out) (sesV_one S0 _ _ HM1.out.data.one HM1.out.got.one) rfl rfl rfl rfl rfl rfl rfl rfl rfl ?_ | (first | refine kl_move rfl rfl (.inl rfl) rfl rfl ?_ | refine kl_move rfl rfl (.inr rfl) rfl rfl ?_ | refine kl_const rfl rfl (.inl rfl) rfl ?_ | refine kl_const rfl rfl (.inr rfl) rfl ?_) | ((first | refine kl_step rfl rfl rfl fun K hK => ?_ | refine kl_step0 rfl rfl rfl fun K hK => ?_); go_simp; (try go_bits); (first | refine hK _ _ ?_ | refine hK _ ?_); clear hK K))
  intro g8 w3 eg hb hL
  have HF := Lib.hid (HF.out.keep (.of_below hb))
  have HM1 := Lib.hid (HM1.out.keep (.of_below hb))
  clear eg hb
  (first | refine kl_move rfl rfl (.inl rfl) rfl rfl ?_ | refine kl_move rfl rfl (.inr rfl) rfl rfl ?_ | refine kl_const rfl rfl (.inl rfl) rfl ?_ | refine kl_const rfl rfl (.inr rfl) rfl ?_)
  refine kl_nil ?_
  refine kq_then ?_
  repeat (first | refine kw_seq ?_ | refine kw_region ?_ | refine kl_getL hL 1 rfl Try.underlying29 rfl (infoF F _ HFS.out) rfl rfl rfl rfl rfl ?_)
  refine kl_call rfl rfl rfl Try.func11 rfl (by kernel_rfl) rfl ?_
  refine Calls.mono (of17_any F _ w3 HF.out) ?_
  rintro e w4 ⟨rfl, hb⟩
  have hL := hL.next hb
  have HF := Lib.hid (HF.out.keep (.of_below hb))
  have HM1 := Lib.hid (HM1.out.keep (.of_below hb))
  clear hb
  refine ⟨_, rfl, ?_⟩
  refine kl_call rfl rfl rfl Try.func10 rfl (by kernel_rfl) rfl ?_
  refine Calls.mono (rbegin_any F _ w4 HF.out) ?_
  rintro e w5 ⟨E, H, rfl, hM2, hb, hF3, hF4⟩
  have l8 := hL.lt 0 rfl
  have hL := hL.next hb
  have HF := Lib.hid (HF.out.keep (.of_below hb))
  have HM1 := Lib.hid (HM1.out.keep (.of_below hb))
  rw [HS0.out] at hM2 ⊢
  rw [HE0.out]
  have HM2 := Lib.hid hM2
  clear hM2 hb
  refine ⟨_, rfl, ?_⟩
  repeat (first | refine kl_varL (cells := (sesV S0 E H).toArray) hL rsesZero (rinfoS S0 _ _ HBS.out) (sizeZ S0 _ _ HBS.out) (sesV_one S0 _ _ HM2.out.data.one HM2.out.got.one) rfl rfl rfl rfl rfl rfl rfl rfl rfl ?_ | (first | refine kl_move rfl rfl (.inl rfl) rfl rfl ?_ | refine kl_move rfl rfl (.inr rfl) rfl rfl ?_ | refine kl_const rfl rfl (.inl rfl) rfl ?_ | refine kl_const rfl rfl (.inr rfl) rfl ?_) | ((first | refine kl_step rfl rfl rfl fun K hK => ?_ | refine kl_step0 rfl rfl rfl fun K hK => ?_); go_simp; (try go_bits); (first | refine hK _ _ ?_ | refine hK _ ?_); clear hK K))
  intro g10 w6 eg hb hL
  have HF := Lib.hid (HF.out.keep (.of_below hb))
  have HM1 := Lib.hid (HM1.out.keep (.of_below hb))
  have hnb : 0 < n → NB g8 g10 E ∧ NB g8 g10 H := fun h0 => by
    have hq := HB.out h0
    rw [HS0.out] at hq
    have hlt := ses_lt HM2.out (by omega) (by omega)
    exact ⟨fun b o n' c e => ⟨by have := hF3 b o n' c e; omega, by have := hlt.1 b o n' c e; omega⟩, fun b o n' c e => ⟨by have := hF4 b o n' c e; omega, by have := hlt.2 b o n' c e; omega⟩⟩
  have HNB := Lib.hid hnb
  have HM2 := Lib.hid (HM2.out.keep (.of_below hb))
  clear eg hb hnb hF1 hF2 hF3 hF4
  (first | refine kl_move rfl rfl (.inl rfl) rfl rfl ?_ | refine kl_move rfl rfl (.inr rfl) rfl rfl ?_ | refine kl_const rfl rfl (.inl rfl) rfl ?_ | refine kl_const rfl rfl (.inr rfl) rfl ?_)
  refine kl_nil ?_
  refine kq_then ?_
  refine KW.less [0, 1, 7, 8, 9, 10, 11] ?_
  simp only [nrm, lk, Nat.reduceBEq, cond_true, cond_false]
  have e0 : (E0 != E0) = false := by simp
  repeat (refine kw_seq ?_)
  refine kw_region_f (Hold [(g8, .cells (sesV S0 D G).toArray 32 (0, 0)), (g10, .cells (sesV S0 E H).toArray 36 (0, 0))]) [true, true, true, true, true, false, true, false, true, true] (by kernel_rfl) (by kernel_rfl) (.cons (hL.drew.at_ 1 rfl) (.cons (hL.drew.at_ 0 rfl) (.nil _))) ?_
  have hb : Below w6.heap.size w6 w6.drew := (Below.refl _ w6).drew
  have hL := hL.next hb
  have HF := Lib.hid (HF.out.keep (.of_below hb))
  have HM1 := Lib.hid (HM1.out.keep (.of_below hb))
  have HM2 := Lib.hid (HM2.out.keep (.of_below hb))
  clear hb
  generalize w6.drew = w7 at *
  repeat (first | refine kf_nil ?_ | refine kf_ung rfl rfl ?_ | refine kf_skipg rfl rfl rfl rfl ?_ | refine kf_load_row 0 rfl Try.underlying32 rfl (by rw [sesInfo, length_sesV _ _ _ HBS.out]) rfl rfl rfl rfl rfl ?_ | refine kf_load_row 1 rfl Try.underlying36 rfl (by rw [rsesInfo, length_sesV _ _ _ HBS.out]) rfl rfl rfl rfl rfl ?_ | (first | refine kf_move rfl rfl (.inl rfl) rfl rfl ?_ | refine kf_move rfl rfl (.inr rfl) rfl rfl ?_ | refine kf_const rfl rfl (.inl rfl) rfl ?_ | refine kf_const rfl rfl (.inr rfl) rfl ?_) | (refine kf_val rfl rfl rfl ?_; apply Exists.intro; refine And.intro (fun W hW N hN => ?_) ?_; · (go_simp; (try go_bits); exact hN)))
  refine kf_ch ?_
  refine kl_call rfl rfl rfl Try.func13 rfl (by kernel_rfl) rfl ?_
  refine Calls.mono (toRef_any S0 D G w7 HM1.out) ?_
  rintro e w8 ⟨rfl, hb⟩
  have hL := hL.next hb
  have HF := Lib.hid (HF.out.keep (.of_below hb))
  have HM1 := Lib.hid (HM1.out.keep (.of_below hb))
  have HM2 := Lib.hid (HM2.out.keep (.of_below hb))
  clear hb
  refine ⟨_, rfl, ?_⟩
  refine kl_nil ?_
  refine kq_f (.cons (hL.at_ 1 rfl) (.cons (hL.at_ 0 rfl) (.nil _))) ?_
  repeat (first | refine kf_nil ?_ | refine kf_ung rfl rfl ?_ | refine kf_skipg rfl rfl rfl rfl ?_ | refine kf_load_row 0 rfl Try.underlying32 rfl (by rw [sesInfo, length_sesV _ _ _ HBS.out]) rfl rfl rfl rfl rfl ?_ | refine kf_load_row 1 rfl Try.underlying36 rfl (by rw [rsesInfo, length_sesV _ _ _ HBS.out]) rfl rfl rfl rfl rfl ?_ | (first | refine kf_move rfl rfl (.inl rfl) rfl rfl ?_ | refine kf_move rfl rfl (.inr rfl) rfl rfl ?_ | refine kf_const rfl rfl (.inl rfl) rfl ?_ | refine kf_const rfl rfl (.inr rfl) rfl ?_) | (refine kf_val rfl rfl rfl ?_; apply Exists.intro; refine And.intro (fun W hW N hN => ?_) ?_; · (go_simp; (try go_bits); exact hN)))
  refine kf_ch ?_
  refine kl_call rfl rfl rfl Try.func12 rfl (by kernel_rfl) rfl ?_
  refine Calls.mono (sameR_any S0 S0 D G E H w8 HM1.out HM2.out HN.out.1 HN.out.2) ?_
  rintro e w9 ⟨rfl, hb⟩
  have hL := hL.next hb
  have HF := Lib.hid (HF.out.keep (.of_below hb))
  have HM1 := Lib.hid (HM1.out.keep (.of_below hb))
  have HM2 := Lib.hid (HM2.out.keep (.of_below hb))
  clear hb
  have e1 : decide (SameS S0 S0) = true := decide_eq_true ⟨rfl, rfl, rfl, rfl, rfl⟩
  rw [e1]
  clear e1
  refine ⟨_, rfl, ?_⟩
  refine kl_nil ?_
  refine kq_f (.cons (hL.at_ 1 rfl) (.cons (hL.at_ 0 rfl) (.nil _))) ?_
  repeat (first | refine kf_nil ?_ | refine kf_ung rfl rfl ?_ | refine kf_skipg rfl rfl rfl rfl ?_ | (first | refine kf_move rfl rfl (.inl rfl) rfl rfl ?_ | refine kf_move rfl rfl (.inr rfl) rfl rfl ?_ | refine kf_const rfl rfl (.inl rfl) rfl ?_ | refine kf_const rfl rfl (.inr rfl) rfl ?_) | (refine kf_val rfl rfl rfl ?_; apply Exists.intro; refine And.intro (fun W hW N hN => ?_) ?_; · (go_simp; (try go_bits); exact hN)))
  refine kq_then ?_
  refine kw_iff rfl ?_
  refine kw_skip ?_
  refine kq_then ?_
  refine KW.less [0, 1, 7, 8, 10] ?_
  simp only [nrm, lk, Nat.reduceBEq, cond_true, cond_false]
  refine plays_loop ⟨hL, HM1.out, HM2.out, HF.out, fun b o n' c e => by injection e with e _ _; cases e⟩ (fun h0 => ?_) hn HFW.out (fun h0 => ?_) HA.out hc hc2 HL1.out hn1
  · have hq := HB.out h0
    rw [HS0.out] at hq
    exact ⟨hq.1, hq.2.1, hq.2.2, (HNB.out h0).1, (HNB.out h0).2⟩
  · exact HB.out h0
set_option maxRecDepth 100000 in
set_option maxHeartbeats 4000000 in
theorem sessionPlays_top (A : Option Addr) (n c : Nat) (img : List UInt8) (A1 : Option Addr) (n1 c1 : Nat) (l : List Act17) (v : Bool) (w : World) (hA : Bs w A n img) (hc : n ≤ c) (hc2 : c ≤ 140737488351232) (hL1 : Acts17 w A1 n1 l) (hn1 : n1 ≤ c1) (hc1 : c1 ≤ 9223372036854775807) :
    Calls Try.prog 3 #[.slice A n c, .slice A1 n1 c1, .bool v] w (PlaysP w) := by
  refine calls_kw Try.func3 rfl Try.ntmps3 rfl [(0, .slice A n c), (1, .slice A1 n1 c1), (2, .bool v)] rfl ?_
  have HA := Lib.hid hA
  have HL1 := Lib.hid hL1
  clear hA hL1
  repeat (first | refine kw_seq ?_ | refine kw_block ?_ | refine kw_skip ?_ | refine kw_region ?_ | refine kl_nil ?_ | refine kq_then ?_ | refine kq_block ?_ | refine kw_exit ?_ | refine kq_then_exit ?_ | refine kq_block_here rfl ?_ | refine kq_block_far rfl ?_ | refine kq_again_exit ?_ | refine kw_ret ?_ | refine kq_then_ret ?_ | refine kq_block_ret ?_ | refine kq_again_ret ?_ | refine kw_ift rfl ?_ | refine kw_iff rfl ?_ | refine kl_ung rfl rfl ?_ | refine kl_skipg rfl rfl rfl rfl ?_ | refine kl_skipg0 rfl rfl rfl ?_ | (first | refine kl_move rfl rfl (.inl rfl) rfl rfl ?_ | refine kl_move rfl rfl (.inr rfl) rfl rfl ?_ | refine kl_const rfl rfl (.inl rfl) rfl ?_ | refine kl_const rfl rfl (.inr rfl) rfl ?_) | ((first | refine kl_step rfl rfl rfl fun K hK => ?_ | refine kl_step0 rfl rfl rfl fun K hK => ?_); go_simp; (try go_bits); (first | refine hK _ _ ?_ | refine hK _ ?_); clear hK K))
  refine kl_call rfl rfl rfl Try.func7 rfl (by kernel_rfl) rfl ?_
  refine Calls.mono (known17_any _) ?_
  rintro e w1 ⟨rfl, hb⟩
  have hbw := hb
  clear hb
  refine ⟨_, rfl, ?_⟩
  by_cases h3 : n ≤ 300
  case neg =>
    have t1 : decide ((300 : Int) < (n : Int)) = true := by rw [decide_eq_true_eq]; omega
    have t1n : decide (300 < n) = true := by rw [decide_eq_true_eq]; omega
    clear h3
    repeat (first | refine kw_seq ?_ | refine kw_block ?_ | refine kw_skip ?_ | refine kw_region ?_ | refine kl_nil ?_ | refine kq_then ?_ | refine kq_block ?_ | refine kw_exit ?_ | refine kq_then_exit ?_ | refine kq_block_here rfl ?_ | refine kq_block_far rfl ?_ | refine kq_again_exit ?_ | refine kw_ret ?_ | refine kq_then_ret ?_ | refine kq_block_ret ?_ | refine kq_again_ret ?_ | refine kw_ift rfl ?_ | refine kw_iff rfl ?_ | refine kl_ung rfl rfl ?_ | refine kl_skipg rfl rfl rfl rfl ?_ | refine kl_skipg0 rfl rfl rfl ?_ | (first | refine kl_move rfl rfl (.inl rfl) rfl rfl ?_ | refine kl_move rfl rfl (.inr rfl) rfl rfl ?_ | refine kl_const rfl rfl (.inl rfl) rfl ?_ | refine kl_const rfl rfl (.inr rfl) rfl ?_) | ((first | refine kl_step rfl rfl rfl fun K hK => ?_ | refine kl_step0 rfl rfl rfl fun K hK => ?_); go_simp; (try go_bits); (first | refine hK _ _ ?_ | refine hK _ ?_); clear hK K))
    exact kq_ret1 rfl rfl ⟨rfl, hbw⟩
  have t1 : decide ((300 : Int) < (n : Int)) = false := by rw [decide_eq_false_iff_not]; omega
  have t1n : decide (300 < n) = false := by rw [decide_eq_false_iff_not]; omega
  by_cases h6 : n1 ≤ 60
  case neg =>
    have t2 : decide ((60 : Int) < (n1 : Int)) = true := by rw [decide_eq_true_eq]; omega
    have t2n : decide (60 < n1) = true := by rw [decide_eq_true_eq]; omega
    clear h3 h6
    repeat (first | refine kw_seq ?_ | refine kw_block ?_ | refine kw_skip ?_ | refine kw_region ?_ | refine kl_nil ?_ | refine kq_then ?_ | refine kq_block ?_ | refine kw_exit ?_ | refine kq_then_exit ?_ | refine kq_block_here rfl ?_ | refine kq_block_far rfl ?_ | refine kq_again_exit ?_ | refine kw_ret ?_ | refine kq_then_ret ?_ | refine kq_block_ret ?_ | refine kq_again_ret ?_ | refine kw_ift rfl ?_ | refine kw_iff rfl ?_ | refine kl_ung rfl rfl ?_ | refine kl_skipg rfl rfl rfl rfl ?_ | refine kl_skipg0 rfl rfl rfl ?_ | (first | refine kl_move rfl rfl (.inl rfl) rfl rfl ?_ | refine kl_move rfl rfl (.inr rfl) rfl rfl ?_ | refine kl_const rfl rfl (.inl rfl) rfl ?_ | refine kl_const rfl rfl (.inr rfl) rfl ?_) | ((first | refine kl_step rfl rfl rfl fun K hK => ?_ | refine kl_step0 rfl rfl rfl fun K hK => ?_); go_simp; (try go_bits); (first | refine hK _ _ ?_ | refine hK _ ?_); clear hK K))
    exact kq_ret1 rfl rfl ⟨rfl, hbw⟩
  have t2 : decide ((60 : Int) < (n1 : Int)) = false := by rw [decide_eq_false_iff_not]; omega
  have t2n : decide (60 < n1) = false := by rw [decide_eq_false_iff_not]; omega
  repeat (first | refine kw_seq ?_ | refine kw_block ?_ | refine kw_skip ?_ | refine kw_region ?_ | refine kl_nil ?_ | refine kq_then ?_ | refine kq_block ?_ | refine kw_exit ?_ | refine kq_then_exit ?_ | refine kq_block_here rfl ?_ | refine kq_block_far rfl ?_ | refine kq_again_exit ?_ | refine kw_ret ?_ | refine kq_then_ret ?_ | refine kq_block_ret ?_ | refine kq_again_ret ?_ | refine kw_ift rfl ?_ | refine kw_iff rfl ?_ | refine kl_ung rfl rfl ?_ | refine kl_skipg rfl rfl rfl rfl ?_ | refine kl_skipg0 rfl rfl rfl ?_ | (first | refine kl_move rfl rfl (.inl rfl) rfl rfl ?_ | refine kl_move rfl rfl (.inr rfl) rfl rfl ?_ | refine kl_const rfl rfl (.inl rfl) rfl ?_ | refine kl_const rfl rfl (.inr rfl) rfl ?_) | ((first | refine kl_step rfl rfl rfl fun K hK => ?_ | refine kl_step0 rfl rfl rfl fun K hK => ?_); go_simp; (try go_bits); (first | refine hK _ _ ?_ | refine hK _ ?_); clear hK K))
  refine kl_call rfl rfl rfl Try.func8 rfl (by kernel_rfl) rfl ?_
  refine Calls.mono (refSha_any A n c img w1 (HA.out.keep (.of_below hbw)) (by omega)) ?_
  rintro e w2 ⟨rfl, hb⟩
  have hbw2 := below_two hbw hb
  clear hb
  refine ⟨_, rfl, ?_⟩
  refine kl_build 29 _ (frmV ⟨1, 3, (n : Int), 0, sha img, []⟩ (.slice none 0 0)).toArray rfl rfl rfl (by rfl) (by rfl) (frm_lit 1 3 (n : Int) 0 (sha img) (.slice none 0 0) (length_sha _) rfl) ?_
  refine kl_varL (cells := (frmV ⟨1, 3, (n : Int), 0, sha img, []⟩ (.slice none 0 0)).toArray) ((Lay.start w).next hbw2) frmZero (infoF ⟨1, 3, (n : Int), 0, sha img, []⟩ _ (length_sha _)) (sizeZF ⟨1, 3, (n : Int), 0, sha img, []⟩ _ (length_sha _)) (frmV_one _ _ rfl) rfl rfl rfl rfl rfl rfl rfl rfl rfl ?_
  intro g7 w3 eg hb hL
  clear eg hb
  have hFM : ∀ (W : World) (X : List UInt8), X.length = 32 → FrmM W ⟨1, 3, (n : Int), 0, X, []⟩ (.slice none 0 0) := fun W X hX => ⟨by show I64 1; unfold I64; omega, by show I64 3; unfold I64; omega, by show I64 (n : Int); unfold I64; omega, by show I64 0; unfold I64; omega, hX, SlB.nil W⟩
  refine kl_nil ?_
  refine kq_then ?_
  refine KW.less [0, 1, 2, 7] ?_
  simp only [nrm, lk, Nat.reduceBEq, cond_true, cond_false]
  obtain ⟨X, hX⟩ : ∃ X, sha img = X := ⟨_, rfl⟩
  have hX32 : X.length = 32 := by rw [← hX]; exact length_sha _
  rw [hX] at hL
  clear hX t1 t1n t2 t2n
  cases v
  · repeat (first | refine kw_seq ?_ | refine kw_region ?_ | (first | refine kl_move rfl rfl (.inl rfl) rfl rfl ?_ | refine kl_move rfl rfl (.inr rfl) rfl rfl ?_ | refine kl_const rfl rfl (.inl rfl) rfl ?_ | refine kl_const rfl rfl (.inr rfl) rfl ?_))
    refine kl_nil ?_
    refine kq_then ?_
    refine kw_iff rfl ?_
    refine kw_skip ?_
    refine kq_then ?_
    refine KW.less [0, 1, 7] ?_
    simp only [nrm, lk, Nat.reduceBEq, cond_true, cond_false]
    exact plays_start hL (hFM _ _ hX32) rfl rfl h3 HA.out hc (by omega) HL1.out h6
  · obtain ⟨x, hx⟩ : ∃ x, X[3]? = some x := ⟨_, List.getElem?_eq_getElem (by omega)⟩
    have c7 := hL.get (j := 4 + 3) 0 rfl (frm_sum ⟨1, 3, (n : Int), 0, X, []⟩ (.slice none 0 0) 3 _ (by rw [show (⟨1, 3, (n : Int), 0, X, []⟩ : Frm).sum = X from rfl]; simp [bv, hx]; rfl))
    have f7 := hL.free 0 rfl 7
    repeat (refine kw_seq ?_)
    refine kw_region ?_
    (first | refine kl_move rfl rfl (.inl rfl) rfl rfl ?_ | refine kl_move rfl rfl (.inr rfl) rfl rfl ?_ | refine kl_const rfl rfl (.inl rfl) rfl ?_ | refine kl_const rfl rfl (.inr rfl) rfl ?_)
    refine kl_nil ?_
    refine kq_then ?_
    refine kw_ift rfl ?_
    refine kw_region ?_
    repeat (first | (first | refine kl_move rfl rfl (.inl rfl) rfl rfl ?_ | refine kl_move rfl rfl (.inr rfl) rfl rfl ?_ | refine kl_const rfl rfl (.inl rfl) rfl ?_ | refine kl_const rfl rfl (.inr rfl) rfl ?_) | ((first | refine kl_step rfl rfl rfl fun K hK => ?_ | refine kl_step0 rfl rfl rfl fun K hK => ?_); go_simp; (try go_bits); (first | refine hK _ _ ?_ | refine hK _ ?_); clear hK K))
    refine kl_nil ?_
    refine KQ.less [0, 1, 7] ?_
    simp only [nrm, lk, Nat.reduceBEq, cond_true, cond_false]
    have ey : ((x.toNat : Int) + 1) % 256 = ((x + 1 : UInt8).toNat : Int) := by
      have : (x + 1 : UInt8).toNat = (x.toNat + 1) % 256 := by rw [UInt8.toNat_add]; rfl
      rw [this]; omega
    rw [ey]
    have hL2 := hL.cell 0 rfl 7 (.int .u8 ((x + 1 : UInt8).toNat : Int))
    rw [frm_set7 _ _ _ _ _ _ _ (by omega)] at hL2
    refine kq_then ?_
    refine KW.less [0, 1, 7] ?_
    simp only [nrm, lk, Nat.reduceBEq, cond_true, cond_false]
    exact plays_start hL2 (hFM _ _ (by rw [List.length_set]; exact hX32)) rfl rfl h3 HA.out hc (by omega) HL1.out h6
end Go.Proofs.Ytkgenkkcgegcbaa
