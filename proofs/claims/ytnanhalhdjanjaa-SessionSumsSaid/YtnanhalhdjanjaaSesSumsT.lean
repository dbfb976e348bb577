/- SessionSums: the walk behind the change. -/
import Derived.Test.YtnanhalhdjanjaaSesSumsP
namespace Go.Proofs.Ytnanhalhdjanjaa
open Go.RowKit
attribute [local go_sem] ev_tmp ev_const ev_func ev_global lk_hit lk_miss uponK_value uponK_skip look_tmp look_const look_global look_func
set_option maxRecDepth 100000 in
set_option maxHeartbeats 4000000 in
theorem sums_tail {w wr : World} {g9 gx cx n : Nat} {H X : List UInt8} (hH : H.length = 32) (hX : X.length = n) (h0 : 0 < n) (hn : n ≤ 60) (hne : sha X ≠ H) (hL : Lay w wr [(g9, (bv H).toArray, 27)]) (hB : SlB wr X (.slice (some ⟨gx, 0, none⟩) n cx)) (hgx : gx ≠ g9) :
    KW Try.prog (restAt Try.f4 12) (bodyPost Try.prog Try.f4 (SumsP w)) 112 [(9, .pointer (some ⟨g9, 0, none⟩)), (10, .slice (some ⟨gx, 0, none⟩) n cx)] wr := by
  conv => arg 2; whnf
  have HH := Lib.hid hH
  have HX := Lib.hid hX
  have HNE := Lib.hid hne
  have HB := Lib.hid hB
  clear hH hX hne hB
  repeat (first | refine kw_seq ?_ | refine kw_block ?_ | refine kw_skip ?_ | refine kw_region ?_ | refine kl_nil ?_ | refine kq_then ?_ | refine kq_block ?_ | refine kw_exit ?_ | refine kq_then_exit ?_ | refine kq_block_here rfl ?_ | refine kq_block_far rfl ?_ | refine kq_again_exit ?_ | refine kw_ret ?_ | refine kq_then_ret ?_ | refine kq_block_ret ?_ | refine kq_again_ret ?_ | refine kw_ift rfl ?_ | refine kw_iff rfl ?_ | refine kl_ung rfl rfl ?_ | refine kl_skipg rfl rfl rfl rfl ?_ | refine kl_skipg0 rfl rfl rfl ?_ | refine kl_getL hL 0 rfl hashUnder rfl (infoH H HH.out) rfl rfl rfl rfl rfl ?_ | refine kl_build 36 _ (frmV (fS n H) (.slice none 0 0)).toArray rfl rfl rfl (by rfl) (by rfl) (frm_built 1 1 n 0 H (.slice none 0 0) HH.out rfl) ?_ | (first | refine kl_move rfl rfl (.inl rfl) rfl rfl ?_ | refine kl_move rfl rfl (.inr rfl) rfl rfl ?_ | refine kl_const rfl rfl (.inl rfl) rfl ?_ | refine kl_const rfl rfl (.inr rfl) rfl ?_) | ((first | refine kl_step rfl rfl rfl fun K hK => ?_ | refine kl_step0 rfl rfl rfl fun K hK => ?_); go_simp; (try go_bits); (first | refine hK _ _ ?_ | refine hK _ ?_); clear hK K))
  refine kl_call rfl rfl rfl Try.func8 rfl (by kernel_rfl) rfl ?_
  refine Calls.mono (begin_any (fS n H) (.slice none 0 0) wr ⟨(by show I64 (1); unfold I64; omega), (by show I64 (1); unfold I64; omega), (by show I64 ((n : Int)); unfold I64; omega), (by show I64 (0); unfold I64; omega), HH.out, SlB.nil _⟩) ?_
  rintro e w2 ⟨D, G, rfl, hM, hb2, _⟩
  rw [(begin_fS n H h0 (by omega)).1, (begin_fS n H h0 (by omega)).2]
  rw [(begin_fS n H h0 (by omega)).1] at hM
  refine ⟨_, rfl, ?_⟩
  have HM := Lib.hid hM
  have hL := hL.next hb2
  have HB := Lib.hid (HB.out.keep (.of_below hb2))
  clear hM hb2
  repeat (first | refine kw_seq ?_ | refine kw_block ?_ | refine kw_skip ?_ | refine kw_region ?_ | refine kl_nil ?_ | refine kq_then ?_ | refine kq_block ?_ | refine kw_exit ?_ | refine kq_then_exit ?_ | refine kq_block_here rfl ?_ | refine kq_block_far rfl ?_ | refine kq_again_exit ?_ | refine kw_ret ?_ | refine kq_then_ret ?_ | refine kq_block_ret ?_ | refine kq_again_ret ?_ | refine kw_ift rfl ?_ | refine kw_iff rfl ?_ | refine kl_ung rfl rfl ?_ | refine kl_skipg rfl rfl rfl rfl ?_ | refine kl_skipg0 rfl rfl rfl ?_ | (first | refine kl_move rfl rfl (.inl rfl) rfl rfl ?_ | refine kl_move rfl rfl (.inr rfl) rfl rfl ?_ | refine kl_const rfl rfl (.inl rfl) rfl ?_ | refine kl_const rfl rfl (.inr rfl) rfl ?_) | ((first | refine kl_step rfl rfl rfl fun K hK => ?_ | refine kl_step0 rfl rfl rfl fun K hK => ?_); go_simp; (try go_bits); (first | refine hK _ _ ?_ | refine hK _ ?_); clear hK K))
  refine kl_varL (d := 11) (y := 67) (cells := (sesV (sS n H) D G).toArray) hL sesZero (infoS (sS n H) D G HH.out) (sizeZ (sS n H) D G HH.out) (sesV_one _ _ _ HM.out.data.one HM.out.got.one) rfl rfl rfl rfl rfl rfl rfl rfl rfl ?_
  intro g11 w3 eg11 hb3 hL
  have ngx : gx ≠ g11 := by have := HB.out.lt (by rw [HX.out]; exact h0); omega
  have HM := Lib.hid (HM.out.keep (.of_below hb3))
  have HB := Lib.hid (HB.out.keep (.of_below hb3))
  clear eg11 hb3
  repeat (first | refine kw_seq ?_ | refine kw_block ?_ | refine kw_skip ?_ | refine kw_region ?_ | refine kl_nil ?_ | refine kq_then ?_ | refine kq_block ?_ | refine kw_exit ?_ | refine kq_then_exit ?_ | refine kq_block_here rfl ?_ | refine kq_block_far rfl ?_ | refine kq_again_exit ?_ | refine kw_ret ?_ | refine kq_then_ret ?_ | refine kq_block_ret ?_ | refine kq_again_ret ?_ | refine kw_ift rfl ?_ | refine kw_iff rfl ?_ | refine kl_ung rfl rfl ?_ | refine kl_skipg rfl rfl rfl rfl ?_ | refine kl_skipg0 rfl rfl rfl ?_ | refine kl_getL hL 0 rfl Try.underlying30 rfl (by first | exact infoS _ _ _ HH.out | exact infoS _ _ _ z32_len) rfl rfl rfl rfl rfl ?_ | (first | refine kl_move rfl rfl (.inl rfl) rfl rfl ?_ | refine kl_move rfl rfl (.inr rfl) rfl rfl ?_ | refine kl_const rfl rfl (.inl rfl) rfl ?_ | refine kl_const rfl rfl (.inr rfl) rfl ?_) | ((first | refine kl_step rfl rfl rfl fun K hK => ?_ | refine kl_step0 rfl rfl rfl fun K hK => ?_); go_simp; (try go_bits); (first | refine hK _ _ ?_ | refine hK _ ?_); clear hK K))
  refine kl_call rfl rfl rfl Try.func10 rfl (by kernel_rfl) rfl ?_
  refine Calls.mono (chunk_any (sS n H) D G (cS X) _ n w3 HM.out ⟨(by show I64 (2); unfold I64; omega), (by show I64 (1); unfold I64; omega), (by show I64 (0); unfold I64; omega), (by show I64 (0); unfold I64; omega), z32_len, HB.out⟩ rfl (by simp [sS]) (by simp [sS]) h0 (by omega)) ?_
  rintro e w4 ⟨D2, G2, rfl, hM2, hb4, fD2, fG2⟩
  rw [(chunk_cS n H X HX.out h0).2, (chunk_cS n H X HX.out h0).1]
  rw [(chunk_cS n H X HX.out h0).2] at hM2
  refine ⟨_, rfl, ?_⟩
  have l11 : g11 < w3.heap.size := hL.lt 0 rfl
  have hL := hL.next hb4
  have HM2 := Lib.hid hM2
  have HB := Lib.hid (HB.out.keep (.of_below hb4))
  clear hM2 hb4
  repeat (first | refine kw_seq ?_ | refine kw_block ?_ | refine kw_skip ?_ | refine kw_region ?_ | refine kl_nil ?_ | refine kq_then ?_ | refine kq_block ?_ | refine kw_exit ?_ | refine kq_then_exit ?_ | refine kq_block_here rfl ?_ | refine kq_block_far rfl ?_ | refine kq_again_exit ?_ | refine kw_ret ?_ | refine kq_then_ret ?_ | refine kq_block_ret ?_ | refine kq_again_ret ?_ | refine kw_ift rfl ?_ | refine kw_iff rfl ?_ | refine kl_ung rfl rfl ?_ | refine kl_skipg rfl rfl rfl rfl ?_ | refine kl_skipg0 rfl rfl rfl ?_ | (first | refine kl_move rfl rfl (.inl rfl) rfl rfl ?_ | refine kl_move rfl rfl (.inr rfl) rfl rfl ?_ | refine kl_const rfl rfl (.inl rfl) rfl ?_ | refine kl_const rfl rfl (.inr rfl) rfl ?_) | ((first | refine kl_step rfl rfl rfl fun K hK => ?_ | refine kl_step0 rfl rfl rfl fun K hK => ?_); go_simp; (try go_bits); (first | refine hK _ _ ?_ | refine hK _ ?_); clear hK K))
  refine kl_putL (cells := (sesV (tS n H X) D2 G2).toArray) hL 0 rfl (infoS (tS n H X) D2 G2 HH.out) (sizeS (sS n H) (tS n H X) _ _ _ _ HH.out HH.out) (sesV_one _ _ _ HM2.out.data.one HM2.out.got.one) rfl rfl rfl rfl rfl (fun hL' => ?_)
  have HM3 : Hid (SesM (w4.setRow g11 (sesV (tS n H X) D2 G2).toArray) (tS n H X) D2 G2) := ⟨HM2.out.id, HM2.out.size, HM2.out.sum, HM2.out.data.row (fD2.ne l11) _, HM2.out.got.row (fG2.ne l11) _⟩
  have HB : Hid (SlB (w4.setRow g11 (sesV (tS n H X) D2 G2).toArray) X (.slice (some ⟨gx, 0, none⟩) n cx)) := HB.out.row (slice_ne ngx) _
  have HL : Hid (Lay w (w4.setRow g11 (sesV (tS n H X) D2 G2).toArray) [(g11, (sesV (tS n H X) D2 G2).toArray, 30), (g9, (bv H).toArray, 27)]) := hL'
  clear hL hL'
  generalize w4.setRow g11 (sesV (tS n H X) D2 G2).toArray = w5 at *
  have hL := HL.out
  clear HL HM HM2
  repeat (first | refine kw_seq ?_ | refine kw_block ?_ | refine kw_skip ?_ | refine kw_region ?_ | refine kl_nil ?_ | refine kq_then ?_ | refine kq_block ?_ | refine kw_exit ?_ | refine kq_then_exit ?_ | refine kq_block_here rfl ?_ | refine kq_block_far rfl ?_ | refine kq_again_exit ?_ | refine kw_ret ?_ | refine kq_then_ret ?_ | refine kq_block_ret ?_ | refine kq_again_ret ?_ | refine kw_ift rfl ?_ | refine kw_iff rfl ?_ | refine kl_ung rfl rfl ?_ | refine kl_skipg rfl rfl rfl rfl ?_ | refine kl_skipg0 rfl rfl rfl ?_ | refine kl_getL hL 0 rfl Try.underlying30 rfl (by first | exact infoS _ _ _ HH.out | exact infoS _ _ _ z32_len) rfl rfl rfl rfl rfl ?_ | (first | refine kl_move rfl rfl (.inl rfl) rfl rfl ?_ | refine kl_move rfl rfl (.inr rfl) rfl rfl ?_ | refine kl_const rfl rfl (.inl rfl) rfl ?_ | refine kl_const rfl rfl (.inr rfl) rfl ?_) | ((first | refine kl_step rfl rfl rfl fun K hK => ?_ | refine kl_step0 rfl rfl rfl fun K hK => ?_); go_simp; (try go_bits); (first | refine hK _ _ ?_ | refine hK _ ?_); clear hK K))
  refine kl_call rfl rfl rfl Try.func11 rfl (by kernel_rfl) rfl ?_
  refine Calls.mono (whole_any (tS n H X) D2 G2 w5 HM3.out (by simp [tS]; omega) (by show X.length ≤ _; rw [HX.out]; omega)) ?_
  rintro e w6 ⟨V, rfl, hV, hb6⟩
  rw [wholeB_err (by rw [whole_tS n H X HNE.out]; decide)] at hV
  rw [whole_tS n H X HNE.out]
  obtain ⟨AV, mV, cV, rfl, hVb, _, _⟩ := hV
  obtain rfl : mV = 0 := by have := hVb.len; simpa using this.symm
  refine ⟨_, rfl, ?_⟩
  have hL := hL.next hb6
  have HM3 := Lib.hid (HM3.out.keep (.of_below hb6))
  have HB := Lib.hid (HB.out.keep (.of_below hb6))
  clear hb6 hVb
  repeat (first | refine kw_seq ?_ | refine kw_block ?_ | refine kw_skip ?_ | refine kw_region ?_ | refine kl_nil ?_ | refine kq_then ?_ | refine kq_block ?_ | refine kw_exit ?_ | refine kq_then_exit ?_ | refine kq_block_here rfl ?_ | refine kq_block_far rfl ?_ | refine kq_again_exit ?_ | refine kw_ret ?_ | refine kq_then_ret ?_ | refine kq_block_ret ?_ | refine kq_again_ret ?_ | refine kw_ift rfl ?_ | refine kw_iff rfl ?_ | refine kl_ung rfl rfl ?_ | refine kl_skipg rfl rfl rfl rfl ?_ | refine kl_skipg0 rfl rfl rfl ?_ | refine kl_getL hL 0 rfl Try.underlying30 rfl (by first | exact infoS _ _ _ HH.out | exact infoS _ _ _ z32_len) rfl rfl rfl rfl rfl ?_ | (first | refine kl_move rfl rfl (.inl rfl) rfl rfl ?_ | refine kl_move rfl rfl (.inr rfl) rfl rfl ?_ | refine kl_const rfl rfl (.inl rfl) rfl ?_ | refine kl_const rfl rfl (.inr rfl) rfl ?_) | ((first | refine kl_step rfl rfl rfl fun K hK => ?_ | refine kl_step0 rfl rfl rfl fun K hK => ?_); go_simp; (try go_bits); (first | refine hK _ _ ?_ | refine hK _ ?_); clear hK K))
  refine kl_call rfl rfl rfl Try.func10 rfl (by kernel_rfl) rfl ?_
  refine Calls.mono (chunk_any (tS n H X) D2 G2 (cS X) _ n w6 HM3.out ⟨(by show I64 (2); unfold I64; omega), (by show I64 (1); unfold I64; omega), (by show I64 (0); unfold I64; omega), (by show I64 (0); unfold I64; omega), z32_len, HB.out⟩ rfl HX.out (by simp [tS]) h0 (by omega)) ?_
  rintro e w7 ⟨D4, G4, rfl, hM4, hb7, _⟩
  rw [chunk_tS n H X HX.out h0]
  obtain ⟨S4, hS4⟩ : ∃ S, chunkS (tS n H X) (cS X) = S := ⟨_, rfl⟩
  rw [hS4] at hM4 ⊢
  refine ⟨_, rfl, ?_⟩
  have HM4 := Lib.hid hM4
  have hL := hL.next hb7
  have HM3 := Lib.hid (HM3.out.keep (.of_below hb7))
  clear hM4 hb7 hS4
  repeat (first | refine kw_seq ?_ | refine kw_block ?_ | refine kw_skip ?_ | refine kw_region ?_ | refine kl_nil ?_ | refine kq_then ?_ | refine kq_block ?_ | refine kw_exit ?_ | refine kq_then_exit ?_ | refine kq_block_here rfl ?_ | refine kq_block_far rfl ?_ | refine kq_again_exit ?_ | refine kw_ret ?_ | refine kq_then_ret ?_ | refine kq_block_ret ?_ | refine kq_again_ret ?_ | refine kw_ift rfl ?_ | refine kw_iff rfl ?_ | refine kl_ung rfl rfl ?_ | refine kl_skipg rfl rfl rfl rfl ?_ | refine kl_skipg0 rfl rfl rfl ?_ | (first | refine kl_move rfl rfl (.inl rfl) rfl rfl ?_ | refine kl_move rfl rfl (.inr rfl) rfl rfl ?_ | refine kl_const rfl rfl (.inl rfl) rfl ?_ | refine kl_const rfl rfl (.inr rfl) rfl ?_) | ((first | refine kl_step rfl rfl rfl fun K hK => ?_ | refine kl_step0 rfl rfl rfl fun K hK => ?_); go_simp; (try go_bits); (first | refine hK _ _ ?_ | refine hK _ ?_); clear hK K))
  refine kl_varL (d := 16) (y := 86) (cells := (sesV S4 D4 G4).toArray) hL sesZero (infoS S4 D4 G4 HM4.out.sum) (sizeZ S4 D4 G4 HM4.out.sum) (sesV_one _ _ _ HM4.out.data.one HM4.out.got.one) rfl rfl rfl rfl rfl rfl rfl rfl rfl ?_
  intro g16 w8 _ hb8 hL
  have HM3 := Lib.hid (HM3.out.keep (.of_below hb8))
  clear hb8
  repeat (first | refine kw_seq ?_ | refine kw_block ?_ | refine kw_skip ?_ | refine kw_region ?_ | refine kl_nil ?_ | refine kq_then ?_ | refine kq_block ?_ | refine kw_exit ?_ | refine kq_then_exit ?_ | refine kq_block_here rfl ?_ | refine kq_block_far rfl ?_ | refine kq_again_exit ?_ | refine kw_ret ?_ | refine kq_then_ret ?_ | refine kq_block_ret ?_ | refine kq_again_ret ?_ | refine kw_ift rfl ?_ | refine kw_iff rfl ?_ | refine kl_ung rfl rfl ?_ | refine kl_skipg rfl rfl rfl rfl ?_ | refine kl_skipg0 rfl rfl rfl ?_ | refine kl_getL hL 1 rfl Try.underlying30 rfl (by first | exact infoS _ _ _ HH.out | exact infoS _ _ _ z32_len) rfl rfl rfl rfl rfl ?_ | (first | refine kl_move rfl rfl (.inl rfl) rfl rfl ?_ | refine kl_move rfl rfl (.inr rfl) rfl rfl ?_ | refine kl_const rfl rfl (.inl rfl) rfl ?_ | refine kl_const rfl rfl (.inr rfl) rfl ?_) | ((first | refine kl_step rfl rfl rfl fun K hK => ?_ | refine kl_step0 rfl rfl rfl fun K hK => ?_); go_simp; (try go_bits); (first | refine hK _ _ ?_ | refine hK _ ?_); clear hK K))
  refine kl_call rfl rfl rfl Try.func12 rfl (by kernel_rfl) rfl ?_
  refine Calls.mono (left_any (tS n H X) D2 G2 w8 HM3.out (by simp [tS]; omega)) ?_
  rw [show cnt false (tS n H X).got = 0 from cnt_trues n]
  rintro e w9 ⟨rfl, hb9⟩
  refine ⟨_, rfl, ?_⟩
  have hL := hL.next hb9
  repeat (first | refine kw_seq ?_ | refine kw_block ?_ | refine kw_skip ?_ | refine kw_region ?_ | refine kl_nil ?_ | refine kq_then ?_ | refine kq_block ?_ | refine kw_exit ?_ | refine kq_then_exit ?_ | refine kq_block_here rfl ?_ | refine kq_block_far rfl ?_ | refine kq_again_exit ?_ | refine kw_ret ?_ | refine kq_then_ret ?_ | refine kq_block_ret ?_ | refine kq_again_ret ?_ | refine kw_ift rfl ?_ | refine kw_iff rfl ?_ | refine kl_ung rfl rfl ?_ | refine kl_skipg rfl rfl rfl rfl ?_ | refine kl_skipg0 rfl rfl rfl ?_ | (first | refine kl_move rfl rfl (.inl rfl) rfl rfl ?_ | refine kl_move rfl rfl (.inr rfl) rfl rfl ?_ | refine kl_const rfl rfl (.inl rfl) rfl ?_ | refine kl_const rfl rfl (.inr rfl) rfl ?_) | ((first | refine kl_step rfl rfl rfl fun K hK => ?_ | refine kl_step0 rfl rfl rfl fun K hK => ?_); go_simp; (try go_bits); (first | refine hK _ _ ?_ | refine hK _ ?_); clear hK K))
  exact kq_ret1 rfl rfl ⟨rfl, hL.below⟩
end Go.Proofs.Ytnanhalhdjanjaa
