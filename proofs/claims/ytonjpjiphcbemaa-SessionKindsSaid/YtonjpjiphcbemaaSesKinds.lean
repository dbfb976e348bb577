/- SessionKinds: the walk. -/
import Derived.Test.YtonjpjiphcbemaaSesGood
import Derived.Test.YtonjpjiphcbemaaSesSame
import Derived.Test.YtonjpjiphcbemaaKnOps
namespace Go.Proofs.Ytonjpjiphcbemaa
open Go.RowKit
attribute [local go_sem] ev_tmp ev_const ev_func ev_global lk_hit lk_miss uponK_value uponK_skip look_tmp look_const look_global look_func valP_value
theorem hashBuilt : Try.prog.built 27 [] = some (bv z32).toArray := by kernel_rfl
theorem hashSize (l : List UInt8) (h : l.length = 32) : (Try.prog.info? 27).map (·.size) = some (bv l).length := by rw [length_bv, h]; kernel_rfl
theorem nf_data (f : Frm) : (nf f).data.length ≤ f.data.length := by
  unfold nf
  split
  · exact Nat.zero_le _
  · split
    · exact Nat.le_refl _
    · exact Nat.zero_le _
theorem SlB.row0 {w : World} {l : List UInt8} {v : Value} (h : SlB w l v) {g : Nat} (hp : 0 < l.length → ∀ b o n c, v = .slice (some ⟨b, o, none⟩) n c → b ≠ g) (cs : Array Value) : SlB (w.setRow g cs) l v := by
  obtain ⟨A, n, c, rfl, hb, r⟩ := h
  rcases Nat.eq_zero_or_pos n with h0 | h0
  · subst h0
    have hl : l = [] := List.eq_nil_of_length_eq_zero hb.len
    subst hl
    exact ⟨A, 0, c, rfl, Bs.nil _ _, r⟩
  · exact ⟨A, n, c, rfl, Vs.setRow hb (fun b o e => hp (by rw [hb.len]; exact h0) b o n c (by rw [e])) cs, r⟩
theorem FrmM.row0 {w : World} {f : Frm} {D : Value} (h : FrmM w f D) {g : Nat} (hp : 0 < f.data.length → ∀ b o n c, D = .slice (some ⟨b, o, none⟩) n c → b ≠ g) (cs : Array Value) : FrmM (w.setRow g cs) f D := ⟨h.kind, h.id, h.size, h.at_, h.sum, h.data.row0 hp cs⟩
set_option maxRecDepth 100000 in
set_option maxHeartbeats 2000000 in
theorem sessionKinds_top (f : Frm) (D : Value) (w : World) (hM : FrmM w f D) :
    Calls Try.prog 8 #[.agg (frmV f D).toArray] w (LawP w) := by
  have HS := Lib.hid hM.sum
  refine calls_kw Try.func8 rfl Try.ntmps8 rfl [(0, .agg (frmV f D).toArray)] rfl ?_
  refine kw_seq ?_
  refine kw_region ?_
  refine kl_boxL (Lay.start w) rfl rfl rfl rfl rfl ?_
  intro g1 w1 eg1 hb1 hL
  have HM := Lib.hid (hM.keep (.of_below hb1))
  have HDL := Lib.hid hM.data
  clear eg1 hb1 hM
  repeat (first | refine kw_seq ?_ | refine kw_block ?_ | refine kw_skip ?_ | refine kw_region ?_ | refine kl_nil ?_ | refine kq_then ?_ | refine kq_block ?_ | refine kw_exit ?_ | refine kq_then_exit ?_ | refine kq_block_here rfl ?_ | refine kq_block_far rfl ?_ | refine kq_again_exit ?_ | refine kw_ret ?_ | refine kq_then_ret ?_ | refine kq_block_ret ?_ | refine kq_again_ret ?_ | refine kw_ift rfl ?_ | refine kw_iff rfl ?_ | refine kl_ung rfl rfl ?_ | refine kl_skipg rfl rfl rfl rfl ?_ | refine kl_skipg0 rfl rfl rfl ?_ | (first | refine kl_move rfl rfl (.inl rfl) rfl rfl ?_ | refine kl_move rfl rfl (.inr rfl) rfl rfl ?_ | refine kl_const rfl rfl (.inl rfl) rfl ?_ | refine kl_const rfl rfl (.inr rfl) rfl ?_) | ((first | refine kl_step rfl rfl rfl fun K hK => ?_ | refine kl_step0 rfl rfl rfl fun K hK => ?_); go_simp; (try go_bits); (first | refine hK _ _ ?_ | refine hK _ ?_); clear hK K))
  refine kl_call rfl rfl rfl Try.func11 rfl (by kernel_rfl) rfl ?_
  refine Calls.mono (known17_any _) ?_
  rintro e w2 ⟨rfl, hb⟩
  refine ⟨_, rfl, ?_⟩
  have hL := hL.next hb
  have HM := Lib.hid (HM.out.keep (.of_below hb))
  clear hb
  repeat (first | refine kw_seq ?_ | refine kw_block ?_ | refine kw_skip ?_ | refine kw_region ?_ | refine kl_nil ?_ | refine kq_then ?_ | refine kq_block ?_ | refine kw_exit ?_ | refine kq_then_exit ?_ | refine kq_block_here rfl ?_ | refine kq_block_far rfl ?_ | refine kq_again_exit ?_ | refine kw_ret ?_ | refine kq_then_ret ?_ | refine kq_block_ret ?_ | refine kq_again_ret ?_ | refine kw_ift rfl ?_ | refine kw_iff rfl ?_ | refine kl_ung rfl rfl ?_ | refine kl_skipg rfl rfl rfl rfl ?_ | refine kl_skipg0 rfl rfl rfl ?_ | refine kl_getL hL 0 rfl Try.underlying36 rfl (infoF _ _ HS.out) rfl rfl rfl rfl rfl ?_ | (first | refine kl_move rfl rfl (.inl rfl) rfl rfl ?_ | refine kl_move rfl rfl (.inr rfl) rfl rfl ?_ | refine kl_const rfl rfl (.inl rfl) rfl ?_ | refine kl_const rfl rfl (.inr rfl) rfl ?_) | ((first | refine kl_step rfl rfl rfl fun K hK => ?_ | refine kl_step0 rfl rfl rfl fun K hK => ?_); go_simp; (try go_bits); (first | refine hK _ _ ?_ | refine hK _ ?_); clear hK K))
  refine kl_call rfl rfl rfl Try.func22 rfl (by kernel_rfl) rfl ?_
  refine Calls.mono (few17_any f D w2 HM.out) ?_
  rintro e w3 ⟨rfl, hb⟩
  have hL := hL.next hb
  have HM := Lib.hid (HM.out.keep (.of_below hb))
  clear hb
  refine ⟨_, rfl, ?_⟩
  by_cases hfew : f.data.length ≤ 120
  case neg =>
    have t1 : decide (f.data.length ≤ 120) = false := decide_eq_false hfew
    clear hfew
    repeat (first | refine kw_seq ?_ | refine kw_block ?_ | refine kw_skip ?_ | refine kw_region ?_ | refine kl_nil ?_ | refine kq_then ?_ | refine kq_block ?_ | refine kw_exit ?_ | refine kq_then_exit ?_ | refine kq_block_here rfl ?_ | refine kq_block_far rfl ?_ | refine kq_again_exit ?_ | refine kw_ret ?_ | refine kq_then_ret ?_ | refine kq_block_ret ?_ | refine kq_again_ret ?_ | refine kw_ift rfl ?_ | refine kw_iff rfl ?_ | refine kl_ung rfl rfl ?_ | refine kl_skipg rfl rfl rfl rfl ?_ | refine kl_skipg0 rfl rfl rfl ?_ | (first | refine kl_move rfl rfl (.inl rfl) rfl rfl ?_ | refine kl_move rfl rfl (.inr rfl) rfl rfl ?_ | refine kl_const rfl rfl (.inl rfl) rfl ?_ | refine kl_const rfl rfl (.inr rfl) rfl ?_) | ((first | refine kl_step rfl rfl rfl fun K hK => ?_ | refine kl_step0 rfl rfl rfl fun K hK => ?_); go_simp; (try go_bits); (first | refine hK _ _ ?_ | refine hK _ ?_); clear hK K))
    exact kq_ret1 rfl rfl ⟨rfl, hL.below⟩
  have t1 : decide (f.data.length ≤ 120) = true := decide_eq_true hfew
  have HFEW := Lib.hid hfew
  clear hfew
  repeat (first | refine kw_seq ?_ | refine kw_block ?_ | refine kw_skip ?_ | refine kw_region ?_ | refine kl_nil ?_ | refine kq_then ?_ | refine kq_block ?_ | refine kw_exit ?_ | refine kq_then_exit ?_ | refine kq_block_here rfl ?_ | refine kq_block_far rfl ?_ | refine kq_again_exit ?_ | refine kw_ret ?_ | refine kq_then_ret ?_ | refine kq_block_ret ?_ | refine kq_again_ret ?_ | refine kw_ift rfl ?_ | refine kw_iff rfl ?_ | refine kl_ung rfl rfl ?_ | refine kl_skipg rfl rfl rfl rfl ?_ | refine kl_skipg0 rfl rfl rfl ?_ | refine kl_getL hL 0 rfl Try.underlying36 rfl (infoF _ _ HS.out) rfl rfl rfl rfl rfl ?_ | (first | refine kl_move rfl rfl (.inl rfl) rfl rfl ?_ | refine kl_move rfl rfl (.inr rfl) rfl rfl ?_ | refine kl_const rfl rfl (.inl rfl) rfl ?_ | refine kl_const rfl rfl (.inr rfl) rfl ?_) | ((first | refine kl_step rfl rfl rfl fun K hK => ?_ | refine kl_step0 rfl rfl rfl fun K hK => ?_); go_simp; (try go_bits); (first | refine hK _ _ ?_ | refine hK _ ?_); clear hK K))
  refine kl_call rfl rfl rfl Try.func33 rfl (by kernel_rfl) rfl ?_
  refine Calls.mono (good17_any f D w3 HM.out (by have := HFEW.out; omega)) ?_
  rintro e w4 ⟨D4, rfl, hM4, hb, hD4⟩
  have hL := hL.next hb
  have HAP : Hid (0 < (goodF f).data.length → ∀ b o n c, D4 = .slice (some ⟨b, o, none⟩) n c → b ≠ g1) := Lib.hid (fun h0 b o n c e => by
    obtain ⟨n', c', rfl⟩ := hD4 b o n c e
    have h1 : 0 < f.data.length := by have : (goodF f).data = f.data.take 64 := rfl; rw [this, List.length_take] at h0; omega
    have := HDL.out.lt h1
    have := hL.ge 0 rfl
    omega)
  clear hb t1 HM
  obtain ⟨F, hF⟩ : ∃ F, goodF f = F := ⟨_, rfl⟩
  have hFd := goodF_data f
  have hFk := goodF_kind f
  rw [hF] at hM4 hFd hFk HAP ⊢
  have HFS := Lib.hid hM4.sum
  have HFD : Hid (F.data.length ≤ 64) := Lib.hid hFd
  have HFK := Lib.hid hFk
  have HM := Lib.hid hM4
  clear hF hFd hFk hM4
  refine ⟨_, rfl, ?_⟩
  refine kl_putL (cells := (frmV F D4).toArray) hL 0 rfl (infoF _ _ HFS.out) (by simp [length_frmV _ _ HS.out, length_frmV _ _ HFS.out]) (frmV_one _ _ HM.out.data.one) rfl rfl rfl rfl rfl (fun hL' => ?_)
  have HM := Lib.hid (HM.out.row0 HAP.out (frmV F D4).toArray)
  have hL : Lay w (w4.setRow g1 (frmV F D4).toArray) [(g1, (frmV F D4).toArray, 36)] := hL'
  clear hL'
  generalize w4.setRow g1 (frmV F D4).toArray = w5 at *
  repeat (first | refine kw_seq ?_ | refine kw_block ?_ | refine kw_skip ?_ | refine kw_region ?_ | refine kl_nil ?_ | refine kq_then ?_ | refine kq_block ?_ | refine kw_exit ?_ | refine kq_then_exit ?_ | refine kq_block_here rfl ?_ | refine kq_block_far rfl ?_ | refine kq_again_exit ?_ | refine kw_ret ?_ | refine kq_then_ret ?_ | refine kq_block_ret ?_ | refine kq_again_ret ?_ | refine kw_ift rfl ?_ | refine kw_iff rfl ?_ | refine kl_ung rfl rfl ?_ | refine kl_skipg rfl rfl rfl rfl ?_ | refine kl_skipg0 rfl rfl rfl ?_ | refine kl_getL hL 0 rfl Try.underlying36 rfl (infoF _ _ HFS.out) rfl rfl rfl rfl rfl ?_ | (first | refine kl_move rfl rfl (.inl rfl) rfl rfl ?_ | refine kl_move rfl rfl (.inr rfl) rfl rfl ?_ | refine kl_const rfl rfl (.inl rfl) rfl ?_ | refine kl_const rfl rfl (.inr rfl) rfl ?_) | ((first | refine kl_step rfl rfl rfl fun K hK => ?_ | refine kl_step0 rfl rfl rfl fun K hK => ?_); go_simp; (try go_bits); (first | refine hK _ _ ?_ | refine hK _ ?_); clear hK K))
  refine kl_call rfl rfl rfl Try.func27 rfl (by kernel_rfl) rfl ?_
  refine Calls.mono (bytes17_any F D4 w5 HM.out (by have := HFD.out; omega)) ?_
  rintro e w6 ⟨v6, rfl, hown, hb⟩
  have hL := hL.next hb
  have HM := Lib.hid (HM.out.keep (.of_below hb))
  obtain ⟨A7, c7, rfl, hB7, hc7, hc7'⟩ := own_B hown
  have hlb := frameBody_len F HFS.out (by have := HFD.out; omega)
  have HLB : Hid ((frameBytes F).length ≤ 60040) := Lib.hid (by unfold frameBytes; rw [length_sealed]; omega)
  clear hb hown hlb
  refine ⟨_, rfl, ?_⟩
  refine kl_call rfl rfl rfl Try.func30 rfl (by kernel_rfl) rfl ?_
  refine Calls.mono (parse_any A7 _ c7 _ w6 hB7 (by have := HLB.out; omega) hc7 hc7') ?_
  rintro e w7 ⟨D7, rfl, hM7, hb⟩
  have hL := hL.next hb
  have HM := Lib.hid (HM.out.keep (.of_below hb))
  have hp := (parse_back F HFK.out HM.out.id HM.out.size HM.out.at_ HFS.out (by have := HFD.out; omega)).2
  refine ⟨_, rfl, ?_⟩
  have hnd := nf_data F
  rw [hp (by have := HFD.out; omega)] at hM7 ⊢
  have HXS := Lib.hid hM7.sum
  obtain ⟨A7', n7, c7', rfl, hBX, _, _⟩ := hM7.data
  clear hp hB7 hc7 hc7' HLB hM7 hb hnd
  repeat (first | refine kw_seq ?_ | refine kw_skip ?_ | refine kw_region ?_ | refine kl_nil ?_ | refine kq_then ?_ | refine kq_block ?_ | refine kw_exit ?_ | refine kq_then_exit ?_ | refine kq_block_here rfl ?_ | refine kq_block_far rfl ?_ | refine kq_again_exit ?_ | refine kw_ret ?_ | refine kq_then_ret ?_ | refine kq_block_ret ?_ | refine kq_again_ret ?_ | refine kw_ift rfl ?_ | refine kw_iff rfl ?_ | refine kl_ung rfl rfl ?_ | refine kl_skipg rfl rfl rfl rfl ?_ | refine kl_skipg0 rfl rfl rfl ?_ | (first | refine kl_move rfl rfl (.inl rfl) rfl rfl ?_ | refine kl_move rfl rfl (.inr rfl) rfl rfl ?_ | refine kl_const rfl rfl (.inl rfl) rfl ?_ | refine kl_const rfl rfl (.inr rfl) rfl ?_) | ((first | refine kl_step rfl rfl rfl fun K hK => ?_ | refine kl_step0 rfl rfl rfl fun K hK => ?_); go_simp; (try go_bits); (first | refine hK _ _ ?_ | refine hK _ ?_); clear hK K))
  refine kl_varL (d := 3) (y := 18) (cells := (frmV (nf F) (.slice A7' n7 c7')).toArray) hL frmZero (infoF _ _ HXS.out) (sizeZF _ _ HXS.out) (frmV_one _ _ rfl) rfl rfl rfl rfl rfl rfl rfl rfl rfl ?_
  intro g3 w8 eg hb hL
  have HM := Lib.hid (HM.out.keep (.of_below hb))
  replace hBX := hBX.keep (.of_below hb)
  clear eg hb
  repeat (first | refine kw_seq ?_ | refine kw_skip ?_ | refine kw_region ?_ | refine kl_nil ?_ | refine kq_then ?_ | refine kq_block ?_ | refine kw_exit ?_ | refine kq_then_exit ?_ | refine kq_block_here rfl ?_ | refine kq_block_far rfl ?_ | refine kq_again_exit ?_ | refine kw_ret ?_ | refine kq_then_ret ?_ | refine kq_block_ret ?_ | refine kq_again_ret ?_ | refine kw_ift rfl ?_ | refine kw_iff rfl ?_ | refine kl_ung rfl rfl ?_ | refine kl_skipg rfl rfl rfl rfl ?_ | refine kl_skipg0 rfl rfl rfl ?_ | (first | refine kl_move rfl rfl (.inl rfl) rfl rfl ?_ | refine kl_move rfl rfl (.inr rfl) rfl rfl ?_ | refine kl_const rfl rfl (.inl rfl) rfl ?_ | refine kl_const rfl rfl (.inr rfl) rfl ?_) | ((first | refine kl_step rfl rfl rfl fun K hK => ?_ | refine kl_step0 rfl rfl rfl fun K hK => ?_); go_simp; (try go_bits); (first | refine hK _ _ ?_ | refine hK _ ?_); clear hK K))
  have c0 : ∀ W, Keeps w8 W → _ := fun W (h : Keeps w8 W) => h _ _ (hL.get 1 rfl (frm_0 F _))
  refine kw_region_f (Keeps w8) [true, true, true, true, true, true, true, true] (by kernel_rfl) (by kernel_rfl) (.drew _) ?_
  repeat (first | refine kf_nil ?_ | refine kf_ung rfl rfl ?_ | refine kf_skipg rfl rfl rfl rfl ?_ | (first | refine kf_move rfl rfl (.inl rfl) rfl rfl ?_ | refine kf_move rfl rfl (.inr rfl) rfl rfl ?_ | refine kf_const rfl rfl (.inl rfl) rfl ?_ | refine kf_const rfl rfl (.inr rfl) rfl ?_) | (refine kf_val rfl rfl rfl ?_; apply Exists.intro; refine And.intro (fun W hW N hN => ?_) ?_; · (go_simp; (try go_bits); exact hN)))
  have hL := hL.next (Below.refl _ w8).drew
  have HM := Lib.hid (HM.out.keep (.drew _))
  replace hBX := hBX.keep (.drew _)
  generalize w8.drew = w9 at *
  clear c0
  refine kq_then ?_
  have a0 := hL.get (j := 0) 1 rfl (frm_0 F _)
  have a1 := hL.get (j := 1) 1 rfl (frm_1 F _)
  have b0 := hL.get (j := 0) 0 rfl (frm_0 (nf F) _)
  have b1 := hL.get (j := 1) 0 rfl (frm_1 (nf F) _)
  have b2 := hL.get (j := 2) 0 rfl (frm_2 (nf F) _)
  have b3 := hL.get (j := 3) 0 rfl (frm_3 (nf F) _)
  have b36 := hL.get (j := 36) 0 rfl (frm_36 (nf F) _ HXS.out)
  have hsX := Lib.hid (frm_range (hL.at_ 0 rfl))
  have hsF := Lib.hid (frm_range (hL.at_ 1 rfl))
  refine KW.less [1, 3, 4, 5, 6] ?_
  simp only [nrm, lk, Nat.reduceBEq, cond_true, cond_false]
  by_cases k1 : F.kind = 1
  · have hn : nf F = ⟨1, F.id, F.size, 0, F.sum, []⟩ := by unfold nf; rw [if_pos k1, k1]
    rw [hn] at b0 b1 b2 b3 hsX hBX
    have hn7 : 0 = n7 := hBX.len
    subst hn7
    have a2 := hL.get (j := 2) 1 rfl (frm_2 F _)
    have u1 : (F.kind == 1) = true := by rw [beq_iff_eq]; exact k1
    have u2 : (F.kind == 2) = false := by rw [beq_eq_false_iff_ne]; omega
    have u3 : ((1 : Int) == F.kind) = true := by rw [beq_iff_eq]; exact k1.symm
    have u4 : (F.id == F.id) = true := beq_self_eq_true _
    have u5 : (F.size == F.size) = true := beq_self_eq_true _
    have he : ∀ W, (Op.equalIn 10000 27 (.agg (bv F.sum).toArray) (.agg (bv F.sum).toArray)).run Try.prog W = .ok true W := fun W => by rw [eqH W _ _ HFS.out HFS.out, beq_self_eq_true]
    clear k1 hn hBX
    rw [u1, u2]
    repeat (first | refine kw_seq ?_ | refine kw_block ?_ | refine kw_skip ?_ | refine kw_region ?_ | refine kl_nil ?_ | refine kq_then ?_ | refine kq_block ?_ | refine kw_exit ?_ | refine kq_then_exit ?_ | refine kq_block_here rfl ?_ | refine kq_block_far rfl ?_ | refine kq_again_exit ?_ | refine kw_ret ?_ | refine kq_then_ret ?_ | refine kq_block_ret ?_ | refine kq_again_ret ?_ | refine kw_ift rfl ?_ | refine kw_iff rfl ?_ | refine kl_ung rfl rfl ?_ | refine kl_skipg rfl rfl rfl rfl ?_ | refine kl_skipg0 rfl rfl rfl ?_ | refine kl_build 27 _ (bv z32).toArray rfl rfl rfl (by rfl) (by rfl) hashBuilt ?_ | refine kl_load_mid 27 g3 4 _ _ hsX.out Try.underlying27 rfl (hashSize _ (by first | exact HFS.out | exact z32_len)) rfl rfl rfl rfl rfl ?_ | refine kl_load_mid 27 g1 4 _ _ hsF.out Try.underlying27 rfl (hashSize _ HFS.out) rfl rfl rfl rfl rfl ?_ | (first | refine kl_move rfl rfl (.inl rfl) rfl rfl ?_ | refine kl_move rfl rfl (.inr rfl) rfl rfl ?_ | refine kl_const rfl rfl (.inl rfl) rfl ?_ | refine kl_const rfl rfl (.inr rfl) rfl ?_) | ((first | refine kl_step rfl rfl rfl fun K hK => ?_ | refine kl_step0 rfl rfl rfl fun K hK => ?_); go_simp; (try go_bits); (first | refine hK _ _ ?_ | refine hK _ ?_); clear hK K))
    exact kq_ret1 rfl rfl ⟨rfl, hL.below⟩
  · by_cases k2 : F.kind = 2
    · have hn : nf F = ⟨2, F.id, 0, F.at_, z32, F.data⟩ := by unfold nf; rw [if_neg k1, if_pos k2, k2]
      rw [hn] at b0 b1 b2 b3 hsX hBX
      obtain ⟨AF, nF, cF, rfl, hBF, _, _⟩ := HM.out.data
      have a3 := hL.get (j := 3) 1 rfl (frm_3 F _)
      have a36 := hL.get (j := 36) 1 rfl (frm_36 F _ HFS.out)
      have u1 : (F.kind == 1) = false := by rw [beq_eq_false_iff_ne]; omega
      have u2 : (F.kind == 2) = true := by rw [beq_iff_eq]; exact k2
      have u3 : ((2 : Int) == F.kind) = true := by rw [beq_iff_eq]; exact k2.symm
      have u4 : (F.id == F.id) = true := beq_self_eq_true _
      have u5 : (F.at_ == F.at_) = true := beq_self_eq_true _
      have he : ∀ W, (Op.equalIn 10000 27 (.agg (bv z32).toArray) (.agg (bv z32).toArray)).run Try.prog W = .ok true W := fun W => by rw [eqH W _ _ z32_len z32_len, beq_self_eq_true]
      have hcv1 := convB (c := c7') hBX
      have hcv2 := convB (c := cF) hBF
      clear k1 k2 hn hBX hBF
      rw [u1, u2]
      repeat (first | refine kw_seq ?_ | refine kw_block ?_ | refine kw_skip ?_ | refine kw_region ?_ | refine kl_nil ?_ | refine kq_then ?_ | refine kq_block ?_ | refine kw_exit ?_ | refine kq_then_exit ?_ | refine kq_block_here rfl ?_ | refine kq_block_far rfl ?_ | refine kq_again_exit ?_ | refine kw_ret ?_ | refine kq_then_ret ?_ | refine kq_block_ret ?_ | refine kq_again_ret ?_ | refine kw_ift rfl ?_ | refine kw_iff rfl ?_ | refine kl_ung rfl rfl ?_ | refine kl_skipg rfl rfl rfl rfl ?_ | refine kl_skipg0 rfl rfl rfl ?_ | refine kl_build 27 _ (bv z32).toArray rfl rfl rfl (by rfl) (by rfl) hashBuilt ?_ | refine kl_load_mid 27 g3 4 _ _ hsX.out Try.underlying27 rfl (hashSize _ (by first | exact HFS.out | exact z32_len)) rfl rfl rfl rfl rfl ?_ | refine kl_load_mid 27 g1 4 _ _ hsF.out Try.underlying27 rfl (hashSize _ HFS.out) rfl rfl rfl rfl rfl ?_ | (first | refine kl_move rfl rfl (.inl rfl) rfl rfl ?_ | refine kl_move rfl rfl (.inr rfl) rfl rfl ?_ | refine kl_const rfl rfl (.inl rfl) rfl ?_ | refine kl_const rfl rfl (.inr rfl) rfl ?_) | ((first | refine kl_step rfl rfl rfl fun K hK => ?_ | refine kl_step0 rfl rfl rfl fun K hK => ?_); go_simp; (try go_bits); (first | refine hK _ _ ?_ | refine hK _ ?_); clear hK K))
      exact kq_ret1 rfl rfl ⟨rfl, hL.below⟩
    · have hn : nf F = ⟨F.kind, F.id, 0, 0, z32, []⟩ := by unfold nf; rw [if_neg k1, if_neg k2]
      rw [hn] at b0 b1 b2 b3 hsX hBX
      have hn7 : 0 = n7 := hBX.len
      subst hn7
      have u1 : (F.kind == 1) = false := by rw [beq_eq_false_iff_ne]; exact k1
      have u2 : (F.kind == 2) = false := by rw [beq_eq_false_iff_ne]; exact k2
      have u3 : (F.kind == F.kind) = true := beq_self_eq_true _
      have u4 : (F.id == F.id) = true := beq_self_eq_true _
      have he : ∀ W, (Op.equalIn 10000 27 (.agg (bv z32).toArray) (.agg (bv z32).toArray)).run Try.prog W = .ok true W := fun W => by rw [eqH W _ _ z32_len z32_len, beq_self_eq_true]
      clear k1 k2 hn hBX
      rw [u1, u2]
      repeat (first | refine kw_seq ?_ | refine kw_block ?_ | refine kw_skip ?_ | refine kw_region ?_ | refine kl_nil ?_ | refine kq_then ?_ | refine kq_block ?_ | refine kw_exit ?_ | refine kq_then_exit ?_ | refine kq_block_here rfl ?_ | refine kq_block_far rfl ?_ | refine kq_again_exit ?_ | refine kw_ret ?_ | refine kq_then_ret ?_ | refine kq_block_ret ?_ | refine kq_again_ret ?_ | refine kw_ift rfl ?_ | refine kw_iff rfl ?_ | refine kl_ung rfl rfl ?_ | refine kl_skipg rfl rfl rfl rfl ?_ | refine kl_skipg0 rfl rfl rfl ?_ | refine kl_build 27 _ (bv z32).toArray rfl rfl rfl (by rfl) (by rfl) hashBuilt ?_ | refine kl_load_mid 27 g3 4 _ _ hsX.out Try.underlying27 rfl (hashSize _ (by first | exact HFS.out | exact z32_len)) rfl rfl rfl rfl rfl ?_ | refine kl_load_mid 27 g1 4 _ _ hsF.out Try.underlying27 rfl (hashSize _ HFS.out) rfl rfl rfl rfl rfl ?_ | (first | refine kl_move rfl rfl (.inl rfl) rfl rfl ?_ | refine kl_move rfl rfl (.inr rfl) rfl rfl ?_ | refine kl_const rfl rfl (.inl rfl) rfl ?_ | refine kl_const rfl rfl (.inr rfl) rfl ?_) | ((first | refine kl_step rfl rfl rfl fun K hK => ?_ | refine kl_step0 rfl rfl rfl fun K hK => ?_); go_simp; (try go_bits); (first | refine hK _ _ ?_ | refine hK _ ?_); clear hK K))
      exact kq_ret1 rfl rfl ⟨rfl, hL.below⟩
end Go.Proofs.Ytonjpjiphcbemaa
