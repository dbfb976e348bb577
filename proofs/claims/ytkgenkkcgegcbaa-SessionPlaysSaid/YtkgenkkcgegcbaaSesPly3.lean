/- SessionPlays: the back of a round. -/
import Derived.Test.YtkgenkkcgegcbaaSesPly2
namespace Go.Proofs.Ytkgenkkcgegcbaa
open Go.RowKit
attribute [local go_sem] ev_tmp ev_const ev_func ev_global lk_hit lk_miss uponK_value uponK_skip look_tmp look_const look_global look_func valP_value
set_option maxRecDepth 100000 in
set_option maxHeartbeats 4000000 in
theorem plays_back {Q : Exit → Act → World → Prop} {w wr : World} {n g7 g8 g10 g13 g16 : Nat} {s : Ses} {F C : Frm} {DF D G D2 G2 DC V0 V1 V12 : Value} {c13 : Array Value} {t13 : TypeId}
    (h : PlS w g7 g8 g10 F DF s D G D2 G2 wr) (hL : Lay w wr [(g16, (frmV C DC).toArray, 29), (g13, c13, t13), (g10, (sesV s D2 G2).toArray, 36), (g8, (sesV s D G).toArray, 32), (g7, (frmV F DF).toArray, 29)]) (hC : FrmM wr C DC)
    (nD2 : NB g8 g10 D2) (nG2 : NB g8 g10 G2) (hs : s.size = n) (hd : s.data.length = n) (hg : s.got.length = n) (h0 : 0 < n) (hn : n ≤ 300) (HDF : Hid (DF = .slice none 0 0))
    (hQ : ∀ wr' D' G' E' H', PlS w g7 g8 g10 F DF (chunkS s C) D' G' E' H' wr' → NB g8 g10 E' → NB g8 g10 H' → KQ Q .normal 205 [(0, V0), (1, V1), (7, .pointer (some ⟨g7, 0, none⟩)), (8, .pointer (some ⟨g8, 0, none⟩)), (10, .pointer (some ⟨g10, 0, none⟩)), (12, V12)] wr') :
    KW Try.prog (rowAt Try.f3 29) Q 205 [(0, V0), (1, V1), (7, .pointer (some ⟨g7, 0, none⟩)), (8, .pointer (some ⟨g8, 0, none⟩)), (10, .pointer (some ⟨g10, 0, none⟩)), (12, V12), (16, .pointer (some ⟨g16, 0, none⟩))] wr := by
  conv => arg 2; whnf
  have HQ := Lib.hid hQ
  have H1 := Lib.hid h.s1
  have H2 := Lib.hid h.s2
  have HFR := Lib.hid h.frm
  have HNF := Lib.hid h.nF
  have HC := Lib.hid hC
  have HSS := Lib.hid h.s1.sum
  have hd' := chunkS_data (f := C) hs hd
  have hg' := chunkS_got (f := C) hs hg
  have HT : Hid ((chunkS s C).sum.length = 32) := by show _ = _; rw [chunkS_sum]; exact HSS.out
  have HD' := Lib.hid hd'
  have HG' := Lib.hid hg'
  clear hQ h hC hd' hg'
  refine kw_seq ?_
  refine kw_region ?_
  repeat (first | refine kl_getL hL 3 rfl Try.underlying32 rfl (infoS s _ _ HSS.out) rfl rfl rfl rfl rfl ?_ | refine kl_getL hL 0 rfl Try.underlying29 rfl (infoF C _ HC.out.sum) rfl rfl rfl rfl rfl ?_)
  have l8 := hL.lt 3 rfl
  have l10 := hL.lt 2 rfl
  refine kl_call rfl rfl rfl Try.func16 rfl (by kernel_rfl) rfl ?_
  refine Calls.mono (chunk_any s D G C DC n wr H1.out HC.out hs hd hg h0 (by omega)) ?_
  rintro e w2 ⟨D', G', rfl, hM1, hb, hF1, hF1'⟩
  have hL := hL.next hb
  have HC := Lib.hid (HC.out.keep (.of_below hb))
  have H1 := Lib.hid (H1.out.keep (.of_below hb))
  have H2 := Lib.hid (H2.out.keep (.of_below hb))
  have HFR := Lib.hid (HFR.out.keep (.of_below hb))
  have HT1 := Lib.hid hM1
  have n1 := NB.fr hF1 l8 l10
  have n2 := NB.fr hF1' l8 l10
  clear hb hM1 hF1 hF1' l8 l10
  refine ⟨_, rfl, ?_⟩
  obtain ⟨T, hT⟩ : ∃ T, chunkS s C = T := ⟨_, rfl⟩
  obtain ⟨E, hE⟩ : ∃ E, chunkE s C = E := ⟨_, rfl⟩
  rw [hT] at HT HD' HG' HT1 HQ ⊢
  rw [hE]
  have HTE := Lib.hid hT
  have HEE := Lib.hid hE
  clear hT hE
  repeat (first | refine kl_varL (cells := (sesV T D' G').toArray) hL sesZero (infoS T _ _ HT.out) (sizeZ T _ _ HT.out) (sesV_one T _ _ HT1.out.data.one HT1.out.got.one) rfl rfl rfl rfl rfl rfl rfl rfl rfl ?_ | (first | refine kl_move rfl rfl (.inl rfl) rfl rfl ?_ | refine kl_move rfl rfl (.inr rfl) rfl rfl ?_ | refine kl_const rfl rfl (.inl rfl) rfl ?_ | refine kl_const rfl rfl (.inr rfl) rfl ?_) | ((first | refine kl_step rfl rfl rfl fun K hK => ?_ | refine kl_step0 rfl rfl rfl fun K hK => ?_); go_simp; (try go_bits); (first | refine hK _ _ ?_ | refine hK _ ?_); clear hK K))
  intro g17 w3 eg hb hL
  have HC := Lib.hid (HC.out.keep (.of_below hb))
  have H1 := Lib.hid (H1.out.keep (.of_below hb))
  have H2 := Lib.hid (H2.out.keep (.of_below hb))
  have HFR := Lib.hid (HFR.out.keep (.of_below hb))
  have HT1 := Lib.hid (HT1.out.keep (.of_below hb))
  clear eg hb
  (first | refine kl_move rfl rfl (.inl rfl) rfl rfl ?_ | refine kl_move rfl rfl (.inr rfl) rfl rfl ?_ | refine kl_const rfl rfl (.inl rfl) rfl ?_ | refine kl_const rfl rfl (.inr rfl) rfl ?_)
  refine kl_nil ?_
  refine kq_then ?_
  refine KW.less [0, 1, 7, 8, 10, 12, 16, 17, 18] ?_
  simp only [nrm, lk, Nat.reduceBEq, cond_true, cond_false]
  refine kw_seq ?_
  refine kw_region_o (Hold [(g10, .cells (sesV s D2 G2).toArray 36 (0, 0)), (g16, .cells (frmV C DC).toArray 29 (0, 0))]) [true, true, false, false, true, true, true, false, false, true] (by kernel_rfl) (by kernel_rfl) (.cons (hL.drew.at_ 3 rfl) (.cons (hL.drew.at_ 1 rfl) (.nil _))) ?_
  have hb : Below w3.heap.size w3 w3.drew := (Below.refl _ w3).drew
  have hL := hL.next hb
  have HC := Lib.hid (HC.out.keep (.of_below hb))
  have H1 := Lib.hid (H1.out.keep (.of_below hb))
  have H2 := Lib.hid (H2.out.keep (.of_below hb))
  have HFR := Lib.hid (HFR.out.keep (.of_below hb))
  have HT1 := Lib.hid (HT1.out.keep (.of_below hb))
  clear hb
  generalize w3.drew = w4 at *
  refine kt_seg [0, 1] [2, 3, 4, 5, 6, 7, 8, 9] (by kernel_rfl) ?_
  simp only [pickO, pickF, nthO, nthB]
  repeat (first | refine kf_nil ?_ | refine kf_ung rfl rfl ?_ | refine kf_skipg rfl rfl rfl rfl ?_ | refine kf_load_row 0 rfl Try.underlying36 rfl (by rw [rsesInfo, length_sesV _ _ _ HSS.out]) rfl rfl rfl rfl rfl ?_ | refine kf_load_row 1 rfl Try.underlying29 rfl (by rw [frmInfo, length_frmV _ _ HC.out.sum]) rfl rfl rfl rfl rfl ?_ | (first | refine kf_move rfl rfl (.inl rfl) rfl rfl ?_ | refine kf_move rfl rfl (.inr rfl) rfl rfl ?_ | refine kf_const rfl rfl (.inl rfl) rfl ?_ | refine kf_const rfl rfl (.inr rfl) rfl ?_) | (refine kf_val rfl rfl rfl ?_; apply Exists.intro; refine And.intro (fun W hW N hN => ?_) ?_; · (go_simp; (try go_bits); exact hN)))
  refine kt_more ?_
  refine kt_fork2 2 7 (by kernel_rfl) ?_ ?_
  all_goals simp only [pickO, pickF, nthO, nthB]
  · refine kf_ch ?_
    refine kl_call rfl rfl rfl Try.func11 rfl (by kernel_rfl) rfl ?_
    refine Calls.mono (of17_any C DC _ HC.out) ?_
    rintro e wa ⟨rfl, hb⟩
    have hL := hL.next hb
    have HC := Lib.hid (HC.out.keep (.of_below hb))
    have H1 := Lib.hid (H1.out.keep (.of_below hb))
    have H2 := Lib.hid (H2.out.keep (.of_below hb))
    have HFR := Lib.hid (HFR.out.keep (.of_below hb))
    have HT1 := Lib.hid (HT1.out.keep (.of_below hb))
    clear hb
    refine ⟨_, rfl, ?_⟩
    refine kl_nil ?_
    refine kq_f (.cons (hL.at_ 3 rfl) (.cons (hL.at_ 1 rfl) (.nil _))) ?_
    repeat (first | refine kf_nil ?_ | refine kf_ung rfl rfl ?_ | refine kf_skipg rfl rfl rfl rfl ?_ | (first | refine kf_move rfl rfl (.inl rfl) rfl rfl ?_ | refine kf_move rfl rfl (.inr rfl) rfl rfl ?_ | refine kf_const rfl rfl (.inl rfl) rfl ?_ | refine kf_const rfl rfl (.inr rfl) rfl ?_) | (refine kf_val rfl rfl rfl ?_; apply Exists.intro; refine And.intro (fun W hW N hN => ?_) ?_; · (go_simp; (try go_bits); exact hN)))
    refine kt_more ?_
    refine kt_fork2 3 7 (by kernel_rfl) ?_ ?_
    all_goals simp only [pickO, pickF, nthO, nthB]
    · refine kf_ch ?_
      refine kl_call rfl rfl rfl Try.func17 rfl (by kernel_rfl) rfl ?_
      have l8 := hL.lt 4 rfl
      have l10 := hL.lt 3 rfl
      refine Calls.mono (chunkR_any s D2 G2 C DC n _ H2.out HC.out hs hd hg h0 (by omega)) ?_
      rintro e wb ⟨E', H', rfl, hM2, hb, hE', hH'⟩
      rw [HTE.out] at hM2 ⊢
      rw [HEE.out]
      have HT2 := Lib.hid hM2
      have hL := hL.next hb
      have HC := Lib.hid (HC.out.keep (.of_below hb))
      have H1 := Lib.hid (H1.out.keep (.of_below hb))
      have H2 := Lib.hid (H2.out.keep (.of_below hb))
      have HFR := Lib.hid (HFR.out.keep (.of_below hb))
      have HT1 := Lib.hid (HT1.out.keep (.of_below hb))
      have nE := NB.or hE' nD2 l8 l10
      have nH := NB.or hH' nG2 l8 l10
      clear hb hM2 hE' hH'
      refine ⟨_, rfl, ?_⟩
      refine kl_nil ?_
      refine kq_f (.cons (hL.at_ 3 rfl) (.cons (hL.at_ 1 rfl) (.nil _))) ?_
      repeat (first | refine kf_nil ?_ | refine kf_ung rfl rfl ?_ | refine kf_skipg rfl rfl rfl rfl ?_ | (first | refine kf_move rfl rfl (.inl rfl) rfl rfl ?_ | refine kf_move rfl rfl (.inr rfl) rfl rfl ?_ | refine kf_const rfl rfl (.inl rfl) rfl ?_ | refine kf_const rfl rfl (.inr rfl) rfl ?_) | (refine kf_val rfl rfl rfl ?_; apply Exists.intro; refine And.intro (fun W hW N hN => ?_) ?_; · (go_simp; (try go_bits); exact hN)))
      refine kt_more ?_
      refine kt_seg [4, 5, 6, 7, 8, 9] [] (by kernel_rfl) ?_
      simp only [pickO, pickF, nthO, nthB]
      repeat (first | refine kf_nil ?_ | refine kf_ung rfl rfl ?_ | refine kf_skipg rfl rfl rfl rfl ?_ | refine kf_load_row 0 rfl Try.underlying36 rfl (by rw [rsesInfo, length_sesV _ _ _ HSS.out]) rfl rfl rfl rfl rfl ?_ | refine kf_load_row 1 rfl Try.underlying29 rfl (by rw [frmInfo, length_frmV _ _ HC.out.sum]) rfl rfl rfl rfl rfl ?_ | (first | refine kf_move rfl rfl (.inl rfl) rfl rfl ?_ | refine kf_move rfl rfl (.inr rfl) rfl rfl ?_ | refine kf_const rfl rfl (.inl rfl) rfl ?_ | refine kf_const rfl rfl (.inr rfl) rfl ?_) | (refine kf_val rfl rfl rfl ?_; apply Exists.intro; refine And.intro (fun W hW N hN => ?_) ?_; · (go_simp; (try go_bits); exact hN)))
      refine kf_ch ?_
      refine kl_zeroL hL rsesZero rfl rfl rfl rfl ?_
      intro g19 wc eg hb hL
      have k1 : NE g19 D := fun b o n' c e => by have := (ses_lt H1.out (by omega) (by omega)).1 b o n' c e; omega
      have m1 : NE g19 G := fun b o n' c e => by have := (ses_lt H1.out (by omega) (by omega)).2 b o n' c e; omega
      have k2 : NE g19 D2 := fun b o n' c e => by have := (ses_lt H2.out (by omega) (by omega)).1 b o n' c e; omega
      have m2 : NE g19 G2 := fun b o n' c e => by have := (ses_lt H2.out (by omega) (by omega)).2 b o n' c e; omega
      have k3 : NE g19 D' := fun b o n' c e => by have h1 := HD'.out; have h2 := HG'.out; have := (ses_lt HT1.out (by omega) (by omega)).1 b o n' c e; omega
      have m3 : NE g19 G' := fun b o n' c e => by have h1 := HD'.out; have h2 := HG'.out; have := (ses_lt HT1.out (by omega) (by omega)).2 b o n' c e; omega
      have k4 : NE g19 DF := fun b o n' c e => by rw [HDF.out] at e; injection e with e _ _; cases e
      have kE : NE g19 E' := fun b o n' c e => by have h1 := HD'.out; have h2 := HG'.out; have := (ses_lt HT2.out (by omega) (by omega)).1 b o n' c e; omega
      have kH : NE g19 H' := fun b o n' c e => by have h1 := HD'.out; have h2 := HG'.out; have := (ses_lt HT2.out (by omega) (by omega)).2 b o n' c e; omega
      have HC := Lib.hid (HC.out.keep (.of_below hb))
      have H1 := Lib.hid (H1.out.keep (.of_below hb))
      have H2 := Lib.hid (H2.out.keep (.of_below hb))
      have HFR := Lib.hid (HFR.out.keep (.of_below hb))
      have HT1 := Lib.hid (HT1.out.keep (.of_below hb))
      have HT2 := Lib.hid (HT2.out.keep (.of_below hb))
      clear eg hb
      refine kl_nil ?_
      refine kq_f (.cons (hL.at_ 4 rfl) (.cons (hL.at_ 2 rfl) (.nil _))) ?_
      repeat (first | refine kf_nil ?_ | refine kf_ung rfl rfl ?_ | refine kf_skipg rfl rfl rfl rfl ?_ | (first | refine kf_move rfl rfl (.inl rfl) rfl rfl ?_ | refine kf_move rfl rfl (.inr rfl) rfl rfl ?_ | refine kf_const rfl rfl (.inl rfl) rfl ?_ | refine kf_const rfl rfl (.inr rfl) rfl ?_) | (refine kf_val rfl rfl rfl ?_; apply Exists.intro; refine And.intro (fun W hW N hN => ?_) ?_; · (go_simp; (try go_bits); exact hN)))
      refine kf_ch ?_
      refine kl_putL (cells := (sesV T E' H').toArray) hL 0 rfl (rinfoS T _ _ HT.out) (sizeZ T _ _ HT.out) (sesV_one T _ _ HT2.out.data.one HT2.out.got.one) rfl rfl rfl rfl rfl (fun hL2 => ?_)
      refine kl_nil ?_
      refine kq_f (.cons (hL2.at_ 4 rfl) (.cons (hL2.at_ 2 rfl) (.nil _))) ?_
      repeat (first | refine kf_nil ?_ | refine kf_ung rfl rfl ?_ | refine kf_skipg rfl rfl rfl rfl ?_ | (first | refine kf_move rfl rfl (.inl rfl) rfl rfl ?_ | refine kf_move rfl rfl (.inr rfl) rfl rfl ?_ | refine kf_const rfl rfl (.inl rfl) rfl ?_ | refine kf_const rfl rfl (.inr rfl) rfl ?_) | (refine kf_val rfl rfl rfl ?_; apply Exists.intro; refine And.intro (fun W hW N hN => ?_) ?_; · (go_simp; (try go_bits); exact hN)))
      refine kt_done ?_
      refine kq_then ?_
      refine KW.less [0, 1, 7, 8, 10, 12, 17, 18, 19, 20] ?_
      simp only [nrm, lk, Nat.reduceBEq, cond_true, cond_false]
      exact plays_tail ⟨hL2, H1.out.row k1 m1 _, H2.out.row k2 m2 _, HT1.out.row k3 m3 _, HT2.out.row kE kH _, HFR.out.row k4 _, HNF.out, n1, n2, nE, nH⟩ HD'.out HG'.out hn fun wr' hP => HQ.out wr' _ _ _ _ hP nE nH
    · refine kf_ch ?_
      refine kl_zeroL hL rsesZero rfl rfl rfl rfl ?_
      intro g19 wc eg hb hL
      have k1 : NE g19 D := fun b o n' c e => by have := (ses_lt H1.out (by omega) (by omega)).1 b o n' c e; omega
      have m1 : NE g19 G := fun b o n' c e => by have := (ses_lt H1.out (by omega) (by omega)).2 b o n' c e; omega
      have k2 : NE g19 D2 := fun b o n' c e => by have := (ses_lt H2.out (by omega) (by omega)).1 b o n' c e; omega
      have m2 : NE g19 G2 := fun b o n' c e => by have := (ses_lt H2.out (by omega) (by omega)).2 b o n' c e; omega
      have k3 : NE g19 D' := fun b o n' c e => by have h1 := HD'.out; have h2 := HG'.out; have := (ses_lt HT1.out (by omega) (by omega)).1 b o n' c e; omega
      have m3 : NE g19 G' := fun b o n' c e => by have h1 := HD'.out; have h2 := HG'.out; have := (ses_lt HT1.out (by omega) (by omega)).2 b o n' c e; omega
      have k4 : NE g19 DF := fun b o n' c e => by rw [HDF.out] at e; injection e with e _ _; cases e
      have HC := Lib.hid (HC.out.keep (.of_below hb))
      have H1 := Lib.hid (H1.out.keep (.of_below hb))
      have H2 := Lib.hid (H2.out.keep (.of_below hb))
      have HFR := Lib.hid (HFR.out.keep (.of_below hb))
      have HT1 := Lib.hid (HT1.out.keep (.of_below hb))
      clear eg hb
      refine kl_nil ?_
      refine kq_f (.cons (hL.at_ 4 rfl) (.cons (hL.at_ 2 rfl) (.nil _))) ?_
      repeat (first | refine kf_nil ?_ | refine kf_ung rfl rfl ?_ | refine kf_skipg rfl rfl rfl rfl ?_ | (first | refine kf_move rfl rfl (.inl rfl) rfl rfl ?_ | refine kf_move rfl rfl (.inr rfl) rfl rfl ?_ | refine kf_const rfl rfl (.inl rfl) rfl ?_ | refine kf_const rfl rfl (.inr rfl) rfl ?_) | (refine kf_val rfl rfl rfl ?_; apply Exists.intro; refine And.intro (fun W hW N hN => ?_) ?_; · (go_simp; (try go_bits); exact hN)))
      refine kt_more ?_
      refine kt_seg [3, 4, 5, 6, 8, 9] [] (by kernel_rfl) ?_
      simp only [pickO, pickF, nthO, nthB]
      refine kf_ch ?_
      refine kl_call rfl rfl rfl Try.func17 rfl (by kernel_rfl) rfl ?_
      have l8 := hL.lt 5 rfl
      have l10 := hL.lt 4 rfl
      have l19 := hL.lt 0 rfl
      refine Calls.mono (chunkR_any s D2 G2 C DC n _ H2.out HC.out hs hd hg h0 (by omega)) ?_
      rintro e wb ⟨E', H', rfl, hM2, hb, hE', hH'⟩
      rw [HTE.out] at hM2 ⊢
      rw [HEE.out]
      have HT2 := Lib.hid hM2
      have hL := hL.next hb
      have HC := Lib.hid (HC.out.keep (.of_below hb))
      have H1 := Lib.hid (H1.out.keep (.of_below hb))
      have H2 := Lib.hid (H2.out.keep (.of_below hb))
      have HFR := Lib.hid (HFR.out.keep (.of_below hb))
      have HT1 := Lib.hid (HT1.out.keep (.of_below hb))
      have nE := NB.or hE' nD2 l8 l10
      have nH := NB.or hH' nG2 l8 l10
      have kE := NE.or hE' k2 l19
      have kH := NE.or hH' m2 l19
      clear hb hM2 hE' hH'
      refine ⟨_, rfl, ?_⟩
      refine kl_nil ?_
      refine kq_f (.cons (hL.at_ 4 rfl) (.cons (hL.at_ 2 rfl) (.nil _))) ?_
      repeat (first | refine kf_nil ?_ | refine kf_ung rfl rfl ?_ | refine kf_skipg rfl rfl rfl rfl ?_ | refine kf_load_row 0 rfl Try.underlying36 rfl (by rw [rsesInfo, length_sesV _ _ _ HSS.out]) rfl rfl rfl rfl rfl ?_ | refine kf_load_row 1 rfl Try.underlying29 rfl (by rw [frmInfo, length_frmV _ _ HC.out.sum]) rfl rfl rfl rfl rfl ?_ | (first | refine kf_move rfl rfl (.inl rfl) rfl rfl ?_ | refine kf_move rfl rfl (.inr rfl) rfl rfl ?_ | refine kf_const rfl rfl (.inl rfl) rfl ?_ | refine kf_const rfl rfl (.inr rfl) rfl ?_) | (refine kf_val rfl rfl rfl ?_; apply Exists.intro; refine And.intro (fun W hW N hN => ?_) ?_; · (go_simp; (try go_bits); exact hN)))
      refine kf_ch ?_
      refine kl_putL (cells := (sesV T E' H').toArray) hL 0 rfl (rinfoS T _ _ HT.out) (sizeZ T _ _ HT.out) (sesV_one T _ _ HT2.out.data.one HT2.out.got.one) rfl rfl rfl rfl rfl (fun hL2 => ?_)
      refine kl_nil ?_
      refine kq_f (.cons (hL2.at_ 4 rfl) (.cons (hL2.at_ 2 rfl) (.nil _))) ?_
      repeat (first | refine kf_nil ?_ | refine kf_ung rfl rfl ?_ | refine kf_skipg rfl rfl rfl rfl ?_ | (first | refine kf_move rfl rfl (.inl rfl) rfl rfl ?_ | refine kf_move rfl rfl (.inr rfl) rfl rfl ?_ | refine kf_const rfl rfl (.inl rfl) rfl ?_ | refine kf_const rfl rfl (.inr rfl) rfl ?_) | (refine kf_val rfl rfl rfl ?_; apply Exists.intro; refine And.intro (fun W hW N hN => ?_) ?_; · (go_simp; (try go_bits); exact hN)))
      refine kt_done ?_
      refine kq_then ?_
      refine KW.less [0, 1, 7, 8, 10, 12, 17, 18, 19, 20] ?_
      simp only [nrm, lk, Nat.reduceBEq, cond_true, cond_false]
      exact plays_tail ⟨hL2, H1.out.row k1 m1 _, H2.out.row k2 m2 _, HT1.out.row k3 m3 _, HT2.out.row kE kH _, HFR.out.row k4 _, HNF.out, n1, n2, nE, nH⟩ HD'.out HG'.out hn fun wr' hP => HQ.out wr' _ _ _ _ hP nE nH
  · refine kf_ch ?_
    refine kl_zeroL hL rsesZero rfl rfl rfl rfl ?_
    intro g19 wc eg hb hL
    have k1 : NE g19 D := fun b o n' c e => by have := (ses_lt H1.out (by omega) (by omega)).1 b o n' c e; omega
    have m1 : NE g19 G := fun b o n' c e => by have := (ses_lt H1.out (by omega) (by omega)).2 b o n' c e; omega
    have k2 : NE g19 D2 := fun b o n' c e => by have := (ses_lt H2.out (by omega) (by omega)).1 b o n' c e; omega
    have m2 : NE g19 G2 := fun b o n' c e => by have := (ses_lt H2.out (by omega) (by omega)).2 b o n' c e; omega
    have k3 : NE g19 D' := fun b o n' c e => by have h1 := HD'.out; have h2 := HG'.out; have := (ses_lt HT1.out (by omega) (by omega)).1 b o n' c e; omega
    have m3 : NE g19 G' := fun b o n' c e => by have h1 := HD'.out; have h2 := HG'.out; have := (ses_lt HT1.out (by omega) (by omega)).2 b o n' c e; omega
    have k4 : NE g19 DF := fun b o n' c e => by rw [HDF.out] at e; injection e with e _ _; cases e
    have HC := Lib.hid (HC.out.keep (.of_below hb))
    have H1 := Lib.hid (H1.out.keep (.of_below hb))
    have H2 := Lib.hid (H2.out.keep (.of_below hb))
    have HFR := Lib.hid (HFR.out.keep (.of_below hb))
    have HT1 := Lib.hid (HT1.out.keep (.of_below hb))
    clear eg hb
    refine kl_nil ?_
    refine kq_f (.cons (hL.at_ 4 rfl) (.cons (hL.at_ 2 rfl) (.nil _))) ?_
    repeat (first | refine kf_nil ?_ | refine kf_ung rfl rfl ?_ | refine kf_skipg rfl rfl rfl rfl ?_ | (first | refine kf_move rfl rfl (.inl rfl) rfl rfl ?_ | refine kf_move rfl rfl (.inr rfl) rfl rfl ?_ | refine kf_const rfl rfl (.inl rfl) rfl ?_ | refine kf_const rfl rfl (.inr rfl) rfl ?_) | (refine kf_val rfl rfl rfl ?_; apply Exists.intro; refine And.intro (fun W hW N hN => ?_) ?_; · (go_simp; (try go_bits); exact hN)))
    refine kt_more ?_
    refine kt_seg [2, 3, 4, 5, 6, 8, 9] [] (by kernel_rfl) ?_
    simp only [pickO, pickF, nthO, nthB]
    refine kf_ch ?_
    refine kl_call rfl rfl rfl Try.func11 rfl (by kernel_rfl) rfl ?_
    refine Calls.mono (of17_any C DC _ HC.out) ?_
    rintro e wa ⟨rfl, hb⟩
    have hL := hL.next hb
    have HC := Lib.hid (HC.out.keep (.of_below hb))
    have H1 := Lib.hid (H1.out.keep (.of_below hb))
    have H2 := Lib.hid (H2.out.keep (.of_below hb))
    have HFR := Lib.hid (HFR.out.keep (.of_below hb))
    have HT1 := Lib.hid (HT1.out.keep (.of_below hb))
    clear hb
    refine ⟨_, rfl, ?_⟩
    refine kl_nil ?_
    refine kq_f (.cons (hL.at_ 4 rfl) (.cons (hL.at_ 2 rfl) (.nil _))) ?_
    repeat (first | refine kf_nil ?_ | refine kf_ung rfl rfl ?_ | refine kf_skipg rfl rfl rfl rfl ?_ | refine kf_load_row 0 rfl Try.underlying36 rfl (by rw [rsesInfo, length_sesV _ _ _ HSS.out]) rfl rfl rfl rfl rfl ?_ | refine kf_load_row 1 rfl Try.underlying29 rfl (by rw [frmInfo, length_frmV _ _ HC.out.sum]) rfl rfl rfl rfl rfl ?_ | (first | refine kf_move rfl rfl (.inl rfl) rfl rfl ?_ | refine kf_move rfl rfl (.inr rfl) rfl rfl ?_ | refine kf_const rfl rfl (.inl rfl) rfl ?_ | refine kf_const rfl rfl (.inr rfl) rfl ?_) | (refine kf_val rfl rfl rfl ?_; apply Exists.intro; refine And.intro (fun W hW N hN => ?_) ?_; · (go_simp; (try go_bits); exact hN)))
    refine kf_ch ?_
    refine kl_call rfl rfl rfl Try.func17 rfl (by kernel_rfl) rfl ?_
    have l8 := hL.lt 5 rfl
    have l10 := hL.lt 4 rfl
    have l19 := hL.lt 0 rfl
    refine Calls.mono (chunkR_any s D2 G2 C DC n _ H2.out HC.out hs hd hg h0 (by omega)) ?_
    rintro e wb ⟨E', H', rfl, hM2, hb, hE', hH'⟩
    rw [HTE.out] at hM2 ⊢
    rw [HEE.out]
    have HT2 := Lib.hid hM2
    have hL := hL.next hb
    have HC := Lib.hid (HC.out.keep (.of_below hb))
    have H1 := Lib.hid (H1.out.keep (.of_below hb))
    have H2 := Lib.hid (H2.out.keep (.of_below hb))
    have HFR := Lib.hid (HFR.out.keep (.of_below hb))
    have HT1 := Lib.hid (HT1.out.keep (.of_below hb))
    have nE := NB.or hE' nD2 l8 l10
    have nH := NB.or hH' nG2 l8 l10
    have kE := NE.or hE' k2 l19
    have kH := NE.or hH' m2 l19
    clear hb hM2 hE' hH'
    refine ⟨_, rfl, ?_⟩
    refine kl_nil ?_
    refine kq_f (.cons (hL.at_ 4 rfl) (.cons (hL.at_ 2 rfl) (.nil _))) ?_
    repeat (first | refine kf_nil ?_ | refine kf_ung rfl rfl ?_ | refine kf_skipg rfl rfl rfl rfl ?_ | refine kf_load_row 0 rfl Try.underlying36 rfl (by rw [rsesInfo, length_sesV _ _ _ HSS.out]) rfl rfl rfl rfl rfl ?_ | refine kf_load_row 1 rfl Try.underlying29 rfl (by rw [frmInfo, length_frmV _ _ HC.out.sum]) rfl rfl rfl rfl rfl ?_ | (first | refine kf_move rfl rfl (.inl rfl) rfl rfl ?_ | refine kf_move rfl rfl (.inr rfl) rfl rfl ?_ | refine kf_const rfl rfl (.inl rfl) rfl ?_ | refine kf_const rfl rfl (.inr rfl) rfl ?_) | (refine kf_val rfl rfl rfl ?_; apply Exists.intro; refine And.intro (fun W hW N hN => ?_) ?_; · (go_simp; (try go_bits); exact hN)))
    refine kf_ch ?_
    refine kl_putL (cells := (sesV T E' H').toArray) hL 0 rfl (rinfoS T _ _ HT.out) (sizeZ T _ _ HT.out) (sesV_one T _ _ HT2.out.data.one HT2.out.got.one) rfl rfl rfl rfl rfl (fun hL2 => ?_)
    refine kl_nil ?_
    refine kq_f (.cons (hL2.at_ 4 rfl) (.cons (hL2.at_ 2 rfl) (.nil _))) ?_
    repeat (first | refine kf_nil ?_ | refine kf_ung rfl rfl ?_ | refine kf_skipg rfl rfl rfl rfl ?_ | (first | refine kf_move rfl rfl (.inl rfl) rfl rfl ?_ | refine kf_move rfl rfl (.inr rfl) rfl rfl ?_ | refine kf_const rfl rfl (.inl rfl) rfl ?_ | refine kf_const rfl rfl (.inr rfl) rfl ?_) | (refine kf_val rfl rfl rfl ?_; apply Exists.intro; refine And.intro (fun W hW N hN => ?_) ?_; · (go_simp; (try go_bits); exact hN)))
    refine kt_done ?_
    refine kq_then ?_
    refine KW.less [0, 1, 7, 8, 10, 12, 17, 18, 19, 20] ?_
    simp only [nrm, lk, Nat.reduceBEq, cond_true, cond_false]
    exact plays_tail ⟨hL2, H1.out.row k1 m1 _, H2.out.row k2 m2 _, HT1.out.row k3 m3 _, HT2.out.row kE kH _, HFR.out.row k4 _, HNF.out, n1, n2, nE, nH⟩ HD'.out HG'.out hn fun wr' hP => HQ.out wr' _ _ _ _ hP nE nH
end Go.Proofs.Ytkgenkkcgegcbaa
