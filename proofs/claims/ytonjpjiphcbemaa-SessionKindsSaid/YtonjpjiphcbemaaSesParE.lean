/- session.Parse: its end. -/
import Derived.Test.YtonjpjiphcbemaaSesHash
import Derived.Test.YtonjpjiphcbemaaKnR
import Derived.Test.YtonjpjiphcbemaaSesKnown
namespace Go.Proofs.Ytonjpjiphcbemaa
open Go.RowKit
attribute [local go_sem] ev_tmp ev_const ev_func ev_global lk_hit lk_miss uponK_value uponK_skip look_tmp look_const look_global look_func valP_value
def ParseP (b : List UInt8) (w : World) (e : Ending) (w' : World) : Prop := ∃ D, e = .returned (.tuple #[.agg (frmV (parseF b).1 D).toArray, .int .i64 (parseF b).2]) ∧ FrmM w' (parseF b).1 D ∧ Below w.heap.size w w'
theorem zeroFrm_m (w : World) : FrmM w zeroFrm (.slice none 0 0) := ⟨by show I64 0; unfold I64; omega, by show I64 0; unfold I64; omega, by show I64 0; unfold I64; omega, by show I64 0; unfold I64; omega, z32_len, SlB.nil w⟩
theorem FrmM.row {w : World} {f : Frm} {D : Value} (h : FrmM w f D) {g : Nat} (hp : ∀ b o n c, D = .slice (some ⟨b, o, none⟩) n c → b ≠ g) (cs : Array Value) : FrmM (w.setRow g cs) f D := ⟨h.kind, h.id, h.size, h.at_, h.sum, h.data.row hp cs⟩
theorem frm_zero_built : Try.prog.built 36 [] = some zFrm.toArray := by
  obtain ⟨fs, hu, hp⟩ := frmUnder
  rw [built_struct frmZero hu hp, fill_nil]
theorem frm_kind_built (K : Int) : Try.prog.built 36 [(0, .int .i64 K)] = some (frmV ⟨K, 0, 0, 0, z32, []⟩ (.slice none 0 0)).toArray := by
  obtain ⟨fs, hu, hp⟩ := frmUnder
  rw [built_struct frmZero hu hp]
  have hz : zFrm.length = 37 := length_frmV _ _ z32_len
  have h1 := fill_step ([(0, 1), (1, 1), (2, 1), (3, 1), (4, 32), (36, 1)].toArray[·]?) [] zFrm 0 _ _ (cells_int .i64 K) rfl (by simp [hz])
  simp only [List.nil_append] at h1
  rw [h1, fill_nil]
  rfl
theorem readerZero : (Try.prog.info? 95).bind (·.zero) = some (.agg #[.pointer none]) := by kernel_rfl
theorem readerSize : (Try.prog.info? 95).map (·.size) = some 1 := by kernel_rfl
set_option maxRecDepth 100000 in
set_option maxHeartbeats 1000000 in
theorem parse_fin {w W : World} {g2 g7 g8 g : Nat} {F : Frm} {D : Value} {l b : List UInt8} {e : Int} (hB : w.heap.size ≤ g) (hR : Rd true w W [(g8, (frmV F D).toArray, 36), (g7, #[.pointer (some ⟨g, 0, none⟩)], 95), (g2, zFrm.toArray, 36)] g l e) (hM : FrmM W F D) (hDn : ∀ b o n c, D = .slice (some ⟨b, o, none⟩) n c → b ≠ g2) (hp : parseF b = finF F (ended l e)) :
    KW Try.prog (restAt Try.f30 16) (bodyPost Try.prog Try.f30 (ParseP b w)) 90 [(2, .pointer (some ⟨g2, 0, none⟩)), (7, .pointer (some ⟨g7, 0, none⟩)), (8, .pointer (some ⟨g8, 0, none⟩))] W := by
  conv => arg 2; whnf
  have HS := Lib.hid hM.sum
  have HP := Lib.hid hp
  have HDN := Lib.hid hDn
  obtain ⟨AD, nD, cD, rfl, hBD, hnD, hcD⟩ := hM.data
  have HM := Lib.hid hM
  have HND := Lib.hid hBD.len
  have c7 := hR.get (j := 0) (cs := [.pointer (some ⟨g, 0, none⟩)]) 1 rfl rfl
  clear hp hDn hM hBD
  repeat (first | refine kw_seq ?_ | refine kw_block ?_ | refine kw_skip ?_ | refine kw_region ?_ | refine kl_nil ?_ | refine kq_then ?_ | refine kq_block ?_ | refine kw_exit ?_ | refine kq_then_exit ?_ | refine kq_block_here rfl ?_ | refine kq_block_far rfl ?_ | refine kq_again_exit ?_ | refine kw_ret ?_ | refine kq_then_ret ?_ | refine kq_block_ret ?_ | refine kq_again_ret ?_ | refine kw_ift rfl ?_ | refine kw_iff rfl ?_ | refine kl_ung rfl rfl ?_ | refine kl_skipg rfl rfl rfl rfl ?_ | refine kl_skipg0 rfl rfl rfl ?_ | (first | refine kl_move rfl rfl (.inl rfl) rfl rfl ?_ | refine kl_move rfl rfl (.inr rfl) rfl rfl ?_ | refine kl_const rfl rfl (.inl rfl) rfl ?_ | refine kl_const rfl rfl (.inr rfl) rfl ?_) | ((first | refine kl_step rfl rfl rfl fun K hK => ?_ | refine kl_step0 rfl rfl rfl fun K hK => ?_); go_simp; (try go_bits); (first | refine hK _ _ ?_ | refine hK _ ?_); clear hK K))
  refine kl_call rfl rfl rfl Try.func55 rfl (by kernel_rfl) rfl ?_
  refine Calls.mono (rdEnd hR) ?_
  rintro e w2 ⟨rfl, hR2, hb2⟩
  have hL := hR2.lay hB
  have HM := Lib.hid (HM.out.keep (.of_below hb2))
  clear hb2
  refine ⟨_, rfl, ?_⟩
  obtain ⟨E, hE⟩ : ∃ E, ended l e = E := ⟨_, rfl⟩
  rw [hE] at HP ⊢
  clear hE c7
  by_cases e0 : E = 0
  · subst e0
    have t1 : ((0 : Int) == 0) = true := rfl
    have c8 := hL.get 0 rfl (frm_36 F (.slice AD nD cD) HS.out)
    by_cases h64 : 64 < nD
    · have t2 : decide ((64 : Int) < (nD : Int)) = true := by rw [decide_eq_true_eq]; omega
      have t3 : decide (64 < nD) = true := by rw [decide_eq_true_eq]; omega
      have hf : finF F 0 = (zeroFrm, 5) := by unfold finF; rw [HND.out, if_neg (by omega), if_pos rfl]
      have HF := Lib.hid (HP.out.trans hf)
      clear hf h64
      repeat (first | refine kw_seq ?_ | refine kw_block ?_ | refine kw_skip ?_ | refine kw_region ?_ | refine kl_nil ?_ | refine kq_then ?_ | refine kq_block ?_ | refine kw_exit ?_ | refine kq_then_exit ?_ | refine kq_block_here rfl ?_ | refine kq_block_far rfl ?_ | refine kq_again_exit ?_ | refine kw_ret ?_ | refine kq_then_ret ?_ | refine kq_block_ret ?_ | refine kq_again_ret ?_ | refine kw_ift rfl ?_ | refine kw_iff rfl ?_ | refine kl_ung rfl rfl ?_ | refine kl_skipg rfl rfl rfl rfl ?_ | refine kl_skipg0 rfl rfl rfl ?_ | refine kl_build 36 _ zFrm.toArray rfl rfl rfl (by rfl) (by rfl) frm_zero_built ?_ | refine kl_putL (cells := zFrm.toArray) hL 2 rfl (infoF zeroFrm _ z32_len) rfl (frmV_one zeroFrm _ rfl) rfl rfl rfl rfl rfl (fun hL2 => ?_) | (first | refine kl_move rfl rfl (.inl rfl) rfl rfl ?_ | refine kl_move rfl rfl (.inr rfl) rfl rfl ?_ | refine kl_const rfl rfl (.inl rfl) rfl ?_ | refine kl_const rfl rfl (.inr rfl) rfl ?_) | ((first | refine kl_step rfl rfl rfl fun K hK => ?_ | refine kl_step0 rfl rfl rfl fun K hK => ?_); go_simp; (try go_bits); (first | refine hK _ _ ?_ | refine hK _ ?_); clear hK K))
      refine kq_retv (v := .tuple #[.agg zFrm.toArray, .int .i64 5]) (fun a k => results_row_tmp rfl _ _ g2 36 zFrm.toArray (0, 0) _ _ (k.slot 2 rfl) (k.slot 3 rfl) (hL2.at_ 2 rfl) Try.underlying36 rfl (infoF zeroFrm _ z32_len)) ?_
      refine ⟨.slice none 0 0, ?_⟩
      rw [HF.out]
      exact ⟨rfl, zeroFrm_m _, hL2.below⟩
    · have t3 : decide (64 < nD) = false := by rw [decide_eq_false_iff_not]; omega
      have hf : finF F 0 = (F, 0) := by unfold finF; rw [HND.out, if_pos ⟨rfl, h64⟩]
      have HF := Lib.hid (HP.out.trans hf)
      have t2 : decide ((64 : Int) < (nD : Int)) = false := by rw [decide_eq_false_iff_not]; omega
      clear hf h64
      repeat (first | refine kw_seq ?_ | refine kw_block ?_ | refine kw_skip ?_ | refine kw_region ?_ | refine kl_nil ?_ | refine kq_then ?_ | refine kq_block ?_ | refine kw_exit ?_ | refine kq_then_exit ?_ | refine kq_block_here rfl ?_ | refine kq_block_far rfl ?_ | refine kq_again_exit ?_ | refine kw_ret ?_ | refine kq_then_ret ?_ | refine kq_block_ret ?_ | refine kq_again_ret ?_ | refine kw_ift rfl ?_ | refine kw_iff rfl ?_ | refine kl_ung rfl rfl ?_ | refine kl_skipg rfl rfl rfl rfl ?_ | refine kl_skipg0 rfl rfl rfl ?_ | refine kl_getL hL 0 rfl Try.underlying36 rfl (infoF F _ HS.out) rfl rfl rfl rfl rfl ?_ | refine kl_putL (cells := (frmV F (.slice AD nD cD)).toArray) hL 2 rfl (infoF F _ HS.out) (sizeZF F _ HS.out) (frmV_one F _ rfl) rfl rfl rfl rfl rfl (fun hL2 => ?_) | (first | refine kl_move rfl rfl (.inl rfl) rfl rfl ?_ | refine kl_move rfl rfl (.inr rfl) rfl rfl ?_ | refine kl_const rfl rfl (.inl rfl) rfl ?_ | refine kl_const rfl rfl (.inr rfl) rfl ?_) | ((first | refine kl_step rfl rfl rfl fun K hK => ?_ | refine kl_step0 rfl rfl rfl fun K hK => ?_); go_simp; (try go_bits); (first | refine hK _ _ ?_ | refine hK _ ?_); clear hK K))
      have HM2 := HM.out.row HDN.out (frmV F (.slice AD nD cD)).toArray
      refine kq_retv (v := .tuple #[.agg (frmV F (.slice AD nD cD)).toArray, .int .i64 0]) (fun a k => results_row_tmp rfl _ _ g2 36 (frmV F (.slice AD nD cD)).toArray (0, 0) _ _ (k.slot 2 rfl) (k.slot 3 rfl) (hL2.at_ 2 rfl) Try.underlying36 rfl (infoF F _ HS.out)) ?_
      refine ⟨.slice AD nD cD, ?_⟩
      rw [HF.out]
      exact ⟨rfl, HM2, hL2.below⟩
  · have t1 : (E == 0) = false := by rw [beq_eq_false_iff_ne]; exact e0
    have t2 : (E != 0) = true := by rw [bne_iff_ne]; exact e0
    have hf : finF F E = (zeroFrm, E) := by unfold finF; rw [if_neg (by omega), if_neg e0]
    have HF := Lib.hid (HP.out.trans hf)
    clear hf e0
    repeat (first | refine kw_seq ?_ | refine kw_block ?_ | refine kw_skip ?_ | refine kw_region ?_ | refine kl_nil ?_ | refine kq_then ?_ | refine kq_block ?_ | refine kw_exit ?_ | refine kq_then_exit ?_ | refine kq_block_here rfl ?_ | refine kq_block_far rfl ?_ | refine kq_again_exit ?_ | refine kw_ret ?_ | refine kq_then_ret ?_ | refine kq_block_ret ?_ | refine kq_again_ret ?_ | refine kw_ift rfl ?_ | refine kw_iff rfl ?_ | refine kl_ung rfl rfl ?_ | refine kl_skipg rfl rfl rfl rfl ?_ | refine kl_skipg0 rfl rfl rfl ?_ | refine kl_build 36 _ zFrm.toArray rfl rfl rfl (by rfl) (by rfl) frm_zero_built ?_ | refine kl_putL (cells := zFrm.toArray) hL 2 rfl (infoF zeroFrm _ z32_len) rfl (frmV_one zeroFrm _ rfl) rfl rfl rfl rfl rfl (fun hL2 => ?_) | (first | refine kl_move rfl rfl (.inl rfl) rfl rfl ?_ | refine kl_move rfl rfl (.inr rfl) rfl rfl ?_ | refine kl_const rfl rfl (.inl rfl) rfl ?_ | refine kl_const rfl rfl (.inr rfl) rfl ?_) | ((first | refine kl_step rfl rfl rfl fun K hK => ?_ | refine kl_step0 rfl rfl rfl fun K hK => ?_); go_simp; (try go_bits); (first | refine hK _ _ ?_ | refine hK _ ?_); clear hK K))
    refine kq_retv (v := .tuple #[.agg zFrm.toArray, .int .i64 E]) (fun a k => results_row_tmp rfl _ _ g2 36 zFrm.toArray (0, 0) _ _ (k.slot 2 rfl) (k.slot 3 rfl) (hL2.at_ 2 rfl) Try.underlying36 rfl (infoF zeroFrm _ z32_len)) ?_
    refine ⟨.slice none 0 0, ?_⟩
    rw [HF.out]
    exact ⟨rfl, zeroFrm_m _, hL2.below⟩
end Go.Proofs.Ytonjpjiphcbemaa
