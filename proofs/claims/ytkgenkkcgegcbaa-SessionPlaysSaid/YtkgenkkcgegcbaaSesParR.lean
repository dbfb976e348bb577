/- The document's Parse (chapter 17): its end. -/
import Derived.Test.YtkgenkkcgegcbaaRefOpen
namespace Go.Proofs.Ytkgenkkcgegcbaa
open Go.RowKit
attribute [local go_sem] ev_tmp ev_const ev_func ev_global lk_hit lk_miss uponK_value uponK_skip look_tmp look_const look_global look_func valP_value
theorem rfrmZero : (Try.prog.info? 39).bind (·.zero) = some (.agg zFrm.toArray) := by kernel_rfl
theorem rfrmInfo : (Try.prog.info? 39).map (·.size) = some 37 := by kernel_rfl
theorem rinfoF (f : Frm) (D : Value) (h : f.sum.length = 32) : (Try.prog.info? 39).map (·.size) = some (frmV f D).toArray.size := by rw [rfrmInfo]; simp [length_frmV f D h]
theorem rfrmUnder : ∃ fs, Try.prog.underlying 39 = some (.struct fs) ∧ fs.toList.mapM (fun f => (Try.prog.info? f.type).map fun i => (f.offset, i.size)) = some [(0, 1), (1, 1), (2, 1), (3, 1), (4, 32), (36, 1)] := ⟨_, Try.underlying39, by kernel_rfl⟩
theorem rfrm_zero_built : Try.prog.built 39 [] = some zFrm.toArray := by
  obtain ⟨fs, hu, hp⟩ := rfrmUnder
  rw [built_struct rfrmZero hu hp, fill_nil]
theorem rfrm_kind_built (K : Int) : Try.prog.built 39 [(0, .int .i64 K)] = some (frmV ⟨K, 0, 0, 0, z32, []⟩ (.slice none 0 0)).toArray := by
  obtain ⟨fs, hu, hp⟩ := rfrmUnder
  rw [built_struct rfrmZero hu hp]
  have hz : zFrm.length = 37 := length_frmV _ _ z32_len
  have h1 := fill_step ([(0, 1), (1, 1), (2, 1), (3, 1), (4, 32), (36, 1)].toArray[·]?) [] zFrm 0 _ _ (cells_int .i64 K) rfl (by simp [hz])
  simp only [List.nil_append] at h1
  rw [h1, fill_nil]
  rfl
set_option maxRecDepth 100000 in
set_option maxHeartbeats 1000000 in
theorem rparse_fin {w W : World} {g2 g8 g : Nat} {F : Frm} {D : Value} {l b : List UInt8} {e : Int} (hB : w.heap.size ≤ g) (hR : Rd false w W [(g8, (frmV F D).toArray, 39), (g2, zFrm.toArray, 39)] g l e) (hM : FrmM W F D) (hDn : ∀ b o n c, D = .slice (some ⟨b, o, none⟩) n c → b ≠ g2) (hp : parseF b = finF F (ended l e)) :
    KW Try.prog (restAt Try.f27 21) (bodyPost Try.prog Try.f27 (ParseP b w)) 91 [(2, .pointer (some ⟨g2, 0, none⟩)), (7, .pointer (some ⟨g, 0, none⟩)), (8, .pointer (some ⟨g8, 0, none⟩))] W := by
  conv => arg 2; whnf
  have HS := Lib.hid hM.sum
  have HP := Lib.hid hp
  have HDN := Lib.hid hDn
  obtain ⟨AD, nD, cD, rfl, hBD, hnD, hcD⟩ := hM.data
  have HM := Lib.hid hM
  have HND := Lib.hid hBD.len
  clear hp hDn hM hBD
  repeat (first | refine kw_seq ?_ | refine kw_block ?_ | refine kw_skip ?_ | refine kw_region ?_ | refine kl_nil ?_ | refine kq_then ?_ | refine kq_block ?_ | refine kw_exit ?_ | refine kq_then_exit ?_ | refine kq_block_here rfl ?_ | refine kq_block_far rfl ?_ | refine kq_again_exit ?_ | refine kw_ret ?_ | refine kq_then_ret ?_ | refine kq_block_ret ?_ | refine kq_again_ret ?_ | refine kw_ift rfl ?_ | refine kw_iff rfl ?_ | refine kl_ung rfl rfl ?_ | refine kl_skipg rfl rfl rfl rfl ?_ | refine kl_skipg0 rfl rfl rfl ?_ | (first | refine kl_move rfl rfl (.inl rfl) rfl rfl ?_ | refine kl_move rfl rfl (.inr rfl) rfl rfl ?_ | refine kl_const rfl rfl (.inl rfl) rfl ?_ | refine kl_const rfl rfl (.inr rfl) rfl ?_) | ((first | refine kl_step rfl rfl rfl fun K hK => ?_ | refine kl_step0 rfl rfl rfl fun K hK => ?_); go_simp; (try go_bits); (first | refine hK _ _ ?_ | refine hK _ ?_); clear hK K))
  refine kl_call rfl rfl rfl Try.func58 rfl (by kernel_rfl) rfl ?_
  refine Calls.mono (rrEnd hR) ?_
  rintro e w2 ⟨rfl, hR2, hb2⟩
  have hL := hR2.lay hB
  have HM := Lib.hid (HM.out.keep (.of_below hb2))
  clear hb2
  refine ⟨_, rfl, ?_⟩
  obtain ⟨E, hE⟩ : ∃ E, ended l e = E := ⟨_, rfl⟩
  rw [hE] at HP ⊢
  clear hE
  by_cases e0 : E = 0
  · subst e0
    have t1 : ((0 : Int) == 0) = true := rfl
    have c8 := hL.get 0 rfl (frm_36 F (.slice AD nD cD) HS.out)
    by_cases h64 : 64 < nD
    · have t2 : decide ((64 : Int) < (nD : Int)) = true := by rw [decide_eq_true_eq]; omega
      have t3 : decide (64 < nD) = true := by rw [decide_eq_true_eq]; omega
      have hf : finF F 0 = (zeroFrm, 5) := by unfold finF; rw [HND.out, if_neg (by omega), if_pos rfl]
      have HF := Lib.hid (HP.out.trans hf)
      clear hf h64
      repeat (first | refine kw_seq ?_ | refine kw_block ?_ | refine kw_skip ?_ | refine kw_region ?_ | refine kl_nil ?_ | refine kq_then ?_ | refine kq_block ?_ | refine kw_exit ?_ | refine kq_then_exit ?_ | refine kq_block_here rfl ?_ | refine kq_block_far rfl ?_ | refine kq_again_exit ?_ | refine kw_ret ?_ | refine kq_then_ret ?_ | refine kq_block_ret ?_ | refine kq_again_ret ?_ | refine kw_ift rfl ?_ | refine kw_iff rfl ?_ | refine kl_ung rfl rfl ?_ | refine kl_skipg rfl rfl rfl rfl ?_ | refine kl_skipg0 rfl rfl rfl ?_ | refine kl_build 39 _ zFrm.toArray rfl rfl rfl (by rfl) (by rfl) rfrm_zero_built ?_ | refine kl_putL (cells := zFrm.toArray) hL 1 rfl (rinfoF zeroFrm _ z32_len) rfl (frmV_one zeroFrm _ rfl) rfl rfl rfl rfl rfl (fun hL2 => ?_) | (first | refine kl_move rfl rfl (.inl rfl) rfl rfl ?_ | refine kl_move rfl rfl (.inr rfl) rfl rfl ?_ | refine kl_const rfl rfl (.inl rfl) rfl ?_ | refine kl_const rfl rfl (.inr rfl) rfl ?_) | ((first | refine kl_step rfl rfl rfl fun K hK => ?_ | refine kl_step0 rfl rfl rfl fun K hK => ?_); go_simp; (try go_bits); (first | refine hK _ _ ?_ | refine hK _ ?_); clear hK K))
      refine kq_retv (v := .tuple #[.agg zFrm.toArray, .int .i64 5]) (fun a k => results_row_tmp rfl _ _ g2 39 zFrm.toArray (0, 0) _ _ (k.slot 2 rfl) (k.slot 3 rfl) (hL2.at_ 1 rfl) Try.underlying39 rfl (rinfoF zeroFrm _ z32_len)) ?_
      refine ⟨.slice none 0 0, ?_⟩
      rw [HF.out]
      exact ⟨rfl, zeroFrm_m _, hL2.below⟩
    · have t3 : decide (64 < nD) = false := by rw [decide_eq_false_iff_not]; omega
      have hf : finF F 0 = (F, 0) := by unfold finF; rw [HND.out, if_pos ⟨rfl, h64⟩]
      have HF := Lib.hid (HP.out.trans hf)
      have t2 : decide ((64 : Int) < (nD : Int)) = false := by rw [decide_eq_false_iff_not]; omega
      clear hf h64
      repeat (first | refine kw_seq ?_ | refine kw_block ?_ | refine kw_skip ?_ | refine kw_region ?_ | refine kl_nil ?_ | refine kq_then ?_ | refine kq_block ?_ | refine kw_exit ?_ | refine kq_then_exit ?_ | refine kq_block_here rfl ?_ | refine kq_block_far rfl ?_ | refine kq_again_exit ?_ | refine kw_ret ?_ | refine kq_then_ret ?_ | refine kq_block_ret ?_ | refine kq_again_ret ?_ | refine kw_ift rfl ?_ | refine kw_iff rfl ?_ | refine kl_ung rfl rfl ?_ | refine kl_skipg rfl rfl rfl rfl ?_ | refine kl_skipg0 rfl rfl rfl ?_ | refine kl_getL hL 0 rfl Try.underlying39 rfl (rinfoF F _ HS.out) rfl rfl rfl rfl rfl ?_ | refine kl_putL (cells := (frmV F (.slice AD nD cD)).toArray) hL 1 rfl (rinfoF F _ HS.out) (sizeZF F _ HS.out) (frmV_one F _ rfl) rfl rfl rfl rfl rfl (fun hL2 => ?_) | (first | refine kl_move rfl rfl (.inl rfl) rfl rfl ?_ | refine kl_move rfl rfl (.inr rfl) rfl rfl ?_ | refine kl_const rfl rfl (.inl rfl) rfl ?_ | refine kl_const rfl rfl (.inr rfl) rfl ?_) | ((first | refine kl_step rfl rfl rfl fun K hK => ?_ | refine kl_step0 rfl rfl rfl fun K hK => ?_); go_simp; (try go_bits); (first | refine hK _ _ ?_ | refine hK _ ?_); clear hK K))
      have HM2 := HM.out.row HDN.out (frmV F (.slice AD nD cD)).toArray
      refine kq_retv (v := .tuple #[.agg (frmV F (.slice AD nD cD)).toArray, .int .i64 0]) (fun a k => results_row_tmp rfl _ _ g2 39 (frmV F (.slice AD nD cD)).toArray (0, 0) _ _ (k.slot 2 rfl) (k.slot 3 rfl) (hL2.at_ 1 rfl) Try.underlying39 rfl (rinfoF F _ HS.out)) ?_
      refine ⟨.slice AD nD cD, ?_⟩
      rw [HF.out]
      exact ⟨rfl, HM2, hL2.below⟩
  · have t1 : (E == 0) = false := by rw [beq_eq_false_iff_ne]; exact e0
    have t2 : (E != 0) = true := by rw [bne_iff_ne]; exact e0
    have hf : finF F E = (zeroFrm, E) := by unfold finF; rw [if_neg (by omega), if_neg e0]
    have HF := Lib.hid (HP.out.trans hf)
    clear hf e0
    repeat (first | refine kw_seq ?_ | refine kw_block ?_ | refine kw_skip ?_ | refine kw_region ?_ | refine kl_nil ?_ | refine kq_then ?_ | refine kq_block ?_ | refine kw_exit ?_ | refine kq_then_exit ?_ | refine kq_block_here rfl ?_ | refine kq_block_far rfl ?_ | refine kq_again_exit ?_ | refine kw_ret ?_ | refine kq_then_ret ?_ | refine kq_block_ret ?_ | refine kq_again_ret ?_ | refine kw_ift rfl ?_ | refine kw_iff rfl ?_ | refine kl_ung rfl rfl ?_ | refine kl_skipg rfl rfl rfl rfl ?_ | refine kl_skipg0 rfl rfl rfl ?_ | refine kl_build 39 _ zFrm.toArray rfl rfl rfl (by rfl) (by rfl) rfrm_zero_built ?_ | refine kl_putL (cells := zFrm.toArray) hL 1 rfl (rinfoF zeroFrm _ z32_len) rfl (frmV_one zeroFrm _ rfl) rfl rfl rfl rfl rfl (fun hL2 => ?_) | (first | refine kl_move rfl rfl (.inl rfl) rfl rfl ?_ | refine kl_move rfl rfl (.inr rfl) rfl rfl ?_ | refine kl_const rfl rfl (.inl rfl) rfl ?_ | refine kl_const rfl rfl (.inr rfl) rfl ?_) | ((first | refine kl_step rfl rfl rfl fun K hK => ?_ | refine kl_step0 rfl rfl rfl fun K hK => ?_); go_simp; (try go_bits); (first | refine hK _ _ ?_ | refine hK _ ?_); clear hK K))
    refine kq_retv (v := .tuple #[.agg zFrm.toArray, .int .i64 E]) (fun a k => results_row_tmp rfl _ _ g2 39 zFrm.toArray (0, 0) _ _ (k.slot 2 rfl) (k.slot 3 rfl) (hL2.at_ 1 rfl) Try.underlying39 rfl (rinfoF zeroFrm _ z32_len)) ?_
    refine ⟨.slice none 0 0, ?_⟩
    rw [HF.out]
    exact ⟨rfl, zeroFrm_m _, hL2.below⟩
theorem frm_seth (K id sz at_ : Int) (h0 : List UInt8) (D : Value) (k : Nat) (x : UInt8) (hk : k < h0.length) : (frmV ⟨K, id, sz, at_, h0, []⟩ D).set (4 + k) (bval x) = frmV ⟨K, id, sz, at_, h0.set k x, []⟩ D := by
  unfold frmV
  rw [List.set_append_left _ _ (by simp [length_bv]; omega), List.set_append_right _ _ (by simp)]
  simp only [List.length_append, List.length_cons, List.length_nil, Nat.zero_add, Nat.reduceAdd, Nat.add_sub_cancel_left]
  rw [bv_set']
theorem hs_set (hs : List UInt8) (k : Nat) (x : UInt8) (hl : hs.length = k) (hk : k < 32) : (hs ++ List.replicate (32 - k) 0).set k x = (hs ++ [x]) ++ List.replicate (32 - (k + 1)) 0 := by
  subst hl
  rw [List.set_append_right _ _ (Nat.le_refl _), Nat.sub_self, show 32 - hs.length = (32 - (hs.length + 1)) + 1 by omega, List.replicate_succ, List.set_cons_zero, List.append_assoc]
  rfl
theorem hs_len (hs : List UInt8) (k : Nat) (hl : hs.length = k) (hk : k ≤ 32) : (hs ++ List.replicate (32 - k) (0 : UInt8)).length = 32 := by rw [List.length_append, List.length_replicate, hl]; omega
set_option maxRecDepth 100000 in
set_option maxHeartbeats 2000000 in
theorem rparse_rest {w W : World} {g2 g8 g : Nat} {K : Int} {l b : List UInt8} {e : Int} (hB : w.heap.size ≤ g) (h2 : g2 < g) (h8 : g < g8) (hK : I64 K) (hR : Rd false w W [(g8, (frmV ⟨K, 0, 0, 0, z32, []⟩ (.slice none 0 0)).toArray, 39), (g2, zFrm.toArray, 39)] g l e) (hp : parseF b = parseZ K l e) :
    KW Try.prog (restAt Try.f27 10) (bodyPost Try.prog Try.f27 (ParseP b w)) 91 [(2, .pointer (some ⟨g2, 0, none⟩)), (7, .pointer (some ⟨g, 0, none⟩)), (8, .pointer (some ⟨g8, 0, none⟩))] W := by
  conv => arg 2; whnf
  unfold parseZ at hp
  have HP := Lib.hid hp
  clear hp
  repeat (first | refine kw_seq ?_ | refine kw_block ?_ | refine kw_skip ?_ | refine kw_region ?_ | refine kl_nil ?_ | refine kq_then ?_ | refine kq_block ?_ | refine kw_exit ?_ | refine kq_then_exit ?_ | refine kq_block_here rfl ?_ | refine kq_block_far rfl ?_ | refine kq_again_exit ?_ | refine kw_ret ?_ | refine kq_then_ret ?_ | refine kq_block_ret ?_ | refine kq_again_ret ?_ | refine kw_ift rfl ?_ | refine kw_iff rfl ?_ | refine kl_ung rfl rfl ?_ | refine kl_skipg rfl rfl rfl rfl ?_ | refine kl_skipg0 rfl rfl rfl ?_ | (first | refine kl_move rfl rfl (.inl rfl) rfl rfl ?_ | refine kl_move rfl rfl (.inr rfl) rfl rfl ?_ | refine kl_const rfl rfl (.inl rfl) rfl ?_ | refine kl_const rfl rfl (.inr rfl) rfl ?_) | ((first | refine kl_step rfl rfl rfl fun K hK => ?_ | refine kl_step0 rfl rfl rfl fun K hK => ?_); go_simp; (try go_bits); (first | refine hK _ _ ?_ | refine hK _ ?_); clear hK K))
  refine kl_call rfl rfl rfl Try.func54 rfl (by kernel_rfl) rfl ?_
  refine Calls.mono (rrInt hR) ?_
  rintro e w2 ⟨rfl, hR2⟩
  clear hR
  have hid := tkN_64 (taken l e 8)
  obtain ⟨id, l2, e2, hq⟩ : ∃ id l2 e2, tkN (taken l e 8) = id ∧ (taken l e 8).2.1 = l2 ∧ (taken l e 8).2.2 = e2 := ⟨_, _, _, rfl, rfl, rfl⟩
  have hq2 : (taken l e 8).2 = (l2, e2) := by rw [← hq.2.1, ← hq.2.2]
  rw [hq.2.1, hq.2.2] at hR2
  try rw [hq2] at HP
  try rw [hq.1] at HP
  rw [hq.1] at hid ⊢
  clear hq hq2
  have hR := hR2
  clear hR2
  refine ⟨_, rfl, ?_⟩
  have c1 := hR.get (j := 1) 0 rfl (frm_1 _ _)
  have f1 := hR.free 0 rfl 1
  have hR3 : Rd false w (w2.setCell ⟨g8, 1, none⟩ (.int .i64 id)) [(g8, (frmV ⟨K, id, 0, 0, z32, []⟩ (.slice none 0 0)).toArray, 39), (g2, zFrm.toArray, 39)] g l2 e2 := hR.cell 0 rfl h8 1 (.int .i64 id)
  clear hR
  repeat (first | refine kl_nil ?_ | refine kq_then ?_ | (first | refine kl_move rfl rfl (.inl rfl) rfl rfl ?_ | refine kl_move rfl rfl (.inr rfl) rfl rfl ?_ | refine kl_const rfl rfl (.inl rfl) rfl ?_ | refine kl_const rfl rfl (.inr rfl) rfl ?_) | ((first | refine kl_step rfl rfl rfl fun K hK => ?_ | refine kl_step0 rfl rfl rfl fun K hK => ?_); go_simp; (try go_bits); (first | refine hK _ _ ?_ | refine hK _ ?_); clear hK K))
  clear c1 f1
  have hR := hR3
  clear hR3
  generalize w2.setCell ⟨g8, 1, none⟩ (.int .i64 id) = w3 at *
  have HP : Hid (parseF b = parseY K id l2 e2) := HP
  have c0 := hR.get (j := 0) 0 rfl (frm_0 _ _)
  unfold parseY at HP
  by_cases k1 : K = 1
  · have t1 : (K == 1) = true := by rw [beq_iff_eq]; exact k1
    rw [if_pos k1] at HP
    clear k1
    repeat (first | refine kw_seq ?_ | refine kw_block ?_ | refine kw_skip ?_ | refine kw_region ?_ | refine kl_nil ?_ | refine kq_then ?_ | refine kq_block ?_ | refine kw_exit ?_ | refine kq_then_exit ?_ | refine kq_block_here rfl ?_ | refine kq_block_far rfl ?_ | refine kq_again_exit ?_ | refine kw_ret ?_ | refine kq_then_ret ?_ | refine kq_block_ret ?_ | refine kq_again_ret ?_ | refine kw_ift rfl ?_ | refine kw_iff rfl ?_ | refine kl_ung rfl rfl ?_ | refine kl_skipg rfl rfl rfl rfl ?_ | refine kl_skipg0 rfl rfl rfl ?_ | (first | refine kl_move rfl rfl (.inl rfl) rfl rfl ?_ | refine kl_move rfl rfl (.inr rfl) rfl rfl ?_ | refine kl_const rfl rfl (.inl rfl) rfl ?_ | refine kl_const rfl rfl (.inr rfl) rfl ?_) | ((first | refine kl_step rfl rfl rfl fun K hK => ?_ | refine kl_step0 rfl rfl rfl fun K hK => ?_); go_simp; (try go_bits); (first | refine hK _ _ ?_ | refine hK _ ?_); clear hK K))
    clear c0 t1
    refine kl_call rfl rfl rfl Try.func54 rfl (by kernel_rfl) rfl ?_
    refine Calls.mono (rrInt hR) ?_
    rintro e w5 ⟨rfl, hR2⟩
    clear hR
    have hsz := tkN_64 (taken l2 e2 8)
    obtain ⟨sz, l3, e3, hq⟩ : ∃ sz l3 e3, tkN (taken l2 e2 8) = sz ∧ (taken l2 e2 8).2.1 = l3 ∧ (taken l2 e2 8).2.2 = e3 := ⟨_, _, _, rfl, rfl, rfl⟩
    have hq2 : (taken l2 e2 8).2 = (l3, e3) := by rw [← hq.2.1, ← hq.2.2]
    rw [hq.2.1, hq.2.2] at hR2
    try rw [hq2] at HP
    try rw [hq.1] at HP
    rw [hq.1] at hsz ⊢
    clear hq hq2
    have hR := hR2
    clear hR2
    refine ⟨_, rfl, ?_⟩
    have c1 := hR.get (j := 2) 0 rfl (frm_2 _ _)
    have f1 := hR.free 0 rfl 2
    have hR3 : Rd false w (w5.setCell ⟨g8, 2, none⟩ (.int .i64 sz)) [(g8, (frmV ⟨K, id, sz, 0, z32, []⟩ (.slice none 0 0)).toArray, 39), (g2, zFrm.toArray, 39)] g l3 e3 := hR.cell 0 rfl h8 2 (.int .i64 sz)
    clear hR
    repeat (first | refine kl_nil ?_ | refine kq_then ?_ | (first | refine kl_move rfl rfl (.inl rfl) rfl rfl ?_ | refine kl_move rfl rfl (.inr rfl) rfl rfl ?_ | refine kl_const rfl rfl (.inl rfl) rfl ?_ | refine kl_const rfl rfl (.inr rfl) rfl ?_) | ((first | refine kl_step rfl rfl rfl fun K hK => ?_ | refine kl_step0 rfl rfl rfl fun K hK => ?_); go_simp; (try go_bits); (first | refine hK _ _ ?_ | refine hK _ ?_); clear hK K))
    clear c1 f1
    have hR := hR3
    clear hR3
    generalize w5.setCell ⟨g8, 2, none⟩ (.int .i64 sz) = w6 at *
    repeat (first | refine kw_seq ?_ | refine kw_block ?_ | refine kw_region ?_ | refine kl_nil ?_ | refine kq_then ?_ | (first | refine kl_move rfl rfl (.inl rfl) rfl rfl ?_ | refine kl_move rfl rfl (.inr rfl) rfl rfl ?_ | refine kl_const rfl rfl (.inl rfl) rfl ?_ | refine kl_const rfl rfl (.inr rfl) rfl ?_))
    refine KW.less [2, 7, 8, 9] ?_
    simp only [nrm, lk, Nat.reduceBEq, cond_true, cond_false]
    refine kw_loop (fun m L wr => ∃ k, k ≤ 32 ∧ m = 32 - k ∧ Hid (Rd false w wr [(g8, (frmV ⟨K, id, sz, 0, (hashN k ([], l3, e3)).1 ++ List.replicate (32 - k) 0, []⟩ (.slice none 0 0)).toArray, 39), (g2, zFrm.toArray, 39)] g (hashN k ([], l3, e3)).2.1 (hashN k ([], l3, e3)).2.2) ∧
      L = [(2, .pointer (some ⟨g2, 0, none⟩)), (7, .pointer (some ⟨g, 0, none⟩)), (8, .pointer (some ⟨g8, 0, none⟩)), (9, .int .i64 (k : Int))]) ⟨0, by omega, rfl, (show Hid (Rd false w w6 [(g8, (frmV ⟨K, id, sz, 0, z32, []⟩ (.slice none 0 0)).toArray, 39), (g2, zFrm.toArray, 39)] g l3 e3) from hR), rfl⟩ ?_
    clear hR
    rintro m L wr ⟨k, hk, rfl, hR, rfl⟩
    have hlen := hashN_len k l3 e3
    obtain ⟨hs, rl, re, hh⟩ : ∃ hs rl re, hashN k ([], l3, e3) = (hs, rl, re) := ⟨_, _, _, rfl⟩
    have HH := Lib.hid hh
    rw [hh] at hR hlen
    clear hh
    have hR := hR.out
    simp only at hR hlen
    by_cases hlt : k < 32
    · have k0 : (0 : Int) ≤ k := by omega
      have k1 : (k : Int) < 32 := by omega
      have HL := Lib.hid hlen
      clear hlen
      repeat (first | refine kw_seq ?_ | refine kw_block ?_ | refine kw_skip ?_ | refine kw_region ?_ | refine kl_nil ?_ | refine kq_then ?_ | refine kq_block ?_ | refine kw_exit ?_ | refine kq_then_exit ?_ | refine kq_block_here rfl ?_ | refine kq_block_far rfl ?_ | refine kq_again_exit ?_ | refine kw_ret ?_ | refine kq_then_ret ?_ | refine kq_block_ret ?_ | refine kq_again_ret ?_ | refine kw_ift rfl ?_ | refine kw_iff rfl ?_ | refine kl_ung rfl rfl ?_ | refine kl_skipg rfl rfl rfl rfl ?_ | refine kl_skipg0 rfl rfl rfl ?_ | (first | refine kl_move rfl rfl (.inl rfl) rfl rfl ?_ | refine kl_move rfl rfl (.inr rfl) rfl rfl ?_ | refine kl_const rfl rfl (.inl rfl) rfl ?_ | refine kl_const rfl rfl (.inr rfl) rfl ?_) | ((first | refine kl_step rfl rfl rfl fun K hK => ?_ | refine kl_step0 rfl rfl rfl fun K hK => ?_); go_simp; (try go_bits); (first | refine hK _ _ ?_ | refine hK _ ?_); clear hK K))
      refine kl_call rfl rfl rfl Try.func56 rfl (by kernel_rfl) rfl ?_
      refine Calls.mono (rrByte hR) ?_
      rintro e w8 ⟨rfl, hR4⟩
      refine ⟨_, rfl, ?_⟩
      obtain ⟨x, hx⟩ : ∃ x, (taken rl re 1).1.headD 0 = x := ⟨_, rfl⟩
      have HX := Lib.hid hx
      rw [hx]
      clear hx hR
      have hbx := byte_lt x
      have c2 : w8.cell? ⟨g8, 4 + k, none⟩ = some (bval 0) := hR4.get (j := 4 + k) 0 rfl (frm_sum _ _ k _ (hash_cell hs k HL.out hlt))
      have f2 := hR4.free 0 rfl (4 + k)
      have hR5 := hR4.cell 0 rfl (by omega) (4 + k) (bval x)
      rw [frm_seth K id sz 0 _ _ k x (by rw [hs_len hs k HL.out (by omega)]; exact hlt), hs_set hs k x HL.out hlt] at hR5
      have hR5 := Lib.hid hR5
      clear hR4
      repeat (first | refine kw_seq ?_ | refine kw_block ?_ | refine kw_skip ?_ | refine kw_region ?_ | refine kl_nil ?_ | refine kq_then ?_ | refine kq_block ?_ | refine kw_exit ?_ | refine kq_then_exit ?_ | refine kq_block_here rfl ?_ | refine kq_block_far rfl ?_ | refine kq_again_exit ?_ | refine kw_ret ?_ | refine kq_then_ret ?_ | refine kq_block_ret ?_ | refine kq_again_ret ?_ | refine kw_ift rfl ?_ | refine kw_iff rfl ?_ | refine kl_ung rfl rfl ?_ | refine kl_skipg rfl rfl rfl rfl ?_ | refine kl_skipg0 rfl rfl rfl ?_ | (first | refine kl_move rfl rfl (.inl rfl) rfl rfl ?_ | refine kl_move rfl rfl (.inr rfl) rfl rfl ?_ | refine kl_const rfl rfl (.inl rfl) rfl ?_ | refine kl_const rfl rfl (.inr rfl) rfl ?_) | ((first | refine kl_step rfl rfl rfl fun K hK => ?_ | refine kl_step0 rfl rfl rfl fun K hK => ?_); go_simp; (try go_bits); (first | refine hK _ _ ?_ | refine hK _ ?_); clear hK K))
      refine kq_again (32 - (k + 1)) [2, 7, 8, 9] (by omega) ?_
      simp only [nrm, lk, Nat.reduceBEq, cond_true, cond_false]
      refine ⟨k + 1, by omega, rfl, ?_, by simp only [Int.natCast_add]; rfl⟩
      have := hR5.out
      rw [hashN, HH.out]
      unfold hashStep
      simp only
      rw [HX.out]
      exact this
    · obtain rfl : k = 32 := by omega
      have k1 : decide (((32 : Nat) : Int) < 32) = false := by decide
      clear hlt
      rw [Nat.sub_self, List.replicate_zero, List.append_nil] at hR
      rw [HH.out] at HP
      repeat (first | refine kw_seq ?_ | refine kw_region ?_ | (first | refine kl_move rfl rfl (.inl rfl) rfl rfl ?_ | refine kl_move rfl rfl (.inr rfl) rfl rfl ?_ | refine kl_const rfl rfl (.inl rfl) rfl ?_ | refine kl_const rfl rfl (.inr rfl) rfl ?_) | ((first | refine kl_step rfl rfl rfl fun K hK => ?_ | refine kl_step0 rfl rfl rfl fun K hK => ?_); go_simp; (try go_bits); (first | refine hK _ _ ?_ | refine hK _ ?_); clear hK K))
      refine kl_nil ?_
      refine kq_then ?_
      refine kw_iff rfl ?_
      refine kw_exit ?_
      refine kq_then_exit ?_
      refine kq_again_exit ?_
      refine kq_block_here rfl ?_
      refine kq_block ?_
      refine kq_then ?_
      refine KW.less [2, 7, 8] ?_
      simp only [nrm, lk, Nat.reduceBEq, cond_true, cond_false]
      exact rparse_fin hB hR ⟨hK, hid, hsz, by show I64 0; unfold I64; omega, hlen, SlB.nil _⟩ (fun b o n c e => by cases e) HP.out
  by_cases k2 : K = 2
  · have t1 : (K == 1) = false := by rw [beq_eq_false_iff_ne]; exact k1
    have t2 : (K == 2) = true := by rw [beq_iff_eq]; exact k2
    rw [if_neg k1, if_pos k2] at HP
    clear k1 k2
    repeat (first | refine kw_seq ?_ | refine kw_block ?_ | refine kw_skip ?_ | refine kw_region ?_ | refine kl_nil ?_ | refine kq_then ?_ | refine kq_block ?_ | refine kw_exit ?_ | refine kq_then_exit ?_ | refine kq_block_here rfl ?_ | refine kq_block_far rfl ?_ | refine kq_again_exit ?_ | refine kw_ret ?_ | refine kq_then_ret ?_ | refine kq_block_ret ?_ | refine kq_again_ret ?_ | refine kw_ift rfl ?_ | refine kw_iff rfl ?_ | refine kl_ung rfl rfl ?_ | refine kl_skipg rfl rfl rfl rfl ?_ | refine kl_skipg0 rfl rfl rfl ?_ | (first | refine kl_move rfl rfl (.inl rfl) rfl rfl ?_ | refine kl_move rfl rfl (.inr rfl) rfl rfl ?_ | refine kl_const rfl rfl (.inl rfl) rfl ?_ | refine kl_const rfl rfl (.inr rfl) rfl ?_) | ((first | refine kl_step rfl rfl rfl fun K hK => ?_ | refine kl_step0 rfl rfl rfl fun K hK => ?_); go_simp; (try go_bits); (first | refine hK _ _ ?_ | refine hK _ ?_); clear hK K))
    clear c0 t1 t2
    refine kl_call rfl rfl rfl Try.func54 rfl (by kernel_rfl) rfl ?_
    refine Calls.mono (rrInt hR) ?_
    rintro e w5 ⟨rfl, hR2⟩
    clear hR
    have hsz := tkN_64 (taken l2 e2 8)
    obtain ⟨at_, l3, e3, hq⟩ : ∃ at_ l3 e3, tkN (taken l2 e2 8) = at_ ∧ (taken l2 e2 8).2.1 = l3 ∧ (taken l2 e2 8).2.2 = e3 := ⟨_, _, _, rfl, rfl, rfl⟩
    have hq2 : (taken l2 e2 8).2 = (l3, e3) := by rw [← hq.2.1, ← hq.2.2]
    rw [hq.2.1, hq.2.2] at hR2
    try rw [hq2] at HP
    try rw [hq.1] at HP
    rw [hq.1] at hsz ⊢
    clear hq hq2
    have hR := hR2
    clear hR2
    refine ⟨_, rfl, ?_⟩
    have c1 := hR.get (j := 3) 0 rfl (frm_3 _ _)
    have f1 := hR.free 0 rfl 3
    have hR3 : Rd false w (w5.setCell ⟨g8, 3, none⟩ (.int .i64 at_)) [(g8, (frmV ⟨K, id, 0, at_, z32, []⟩ (.slice none 0 0)).toArray, 39), (g2, zFrm.toArray, 39)] g l3 e3 := hR.cell 0 rfl h8 3 (.int .i64 at_)
    clear hR
    repeat (first | refine kl_nil ?_ | refine kq_then ?_ | (first | refine kl_move rfl rfl (.inl rfl) rfl rfl ?_ | refine kl_move rfl rfl (.inr rfl) rfl rfl ?_ | refine kl_const rfl rfl (.inl rfl) rfl ?_ | refine kl_const rfl rfl (.inr rfl) rfl ?_) | ((first | refine kl_step rfl rfl rfl fun K hK => ?_ | refine kl_step0 rfl rfl rfl fun K hK => ?_); go_simp; (try go_bits); (first | refine hK _ _ ?_ | refine hK _ ?_); clear hK K))
    clear c1 f1
    have hR := hR3
    clear hR3
    generalize w5.setCell ⟨g8, 3, none⟩ (.int .i64 at_) = w6 at *
    repeat (first | refine kw_seq ?_ | refine kw_block ?_ | refine kw_skip ?_ | refine kw_region ?_ | refine kl_nil ?_ | refine kq_then ?_ | refine kq_block ?_ | refine kw_exit ?_ | refine kq_then_exit ?_ | refine kq_block_here rfl ?_ | refine kq_block_far rfl ?_ | refine kq_again_exit ?_ | refine kw_ret ?_ | refine kq_then_ret ?_ | refine kq_block_ret ?_ | refine kq_again_ret ?_ | refine kw_ift rfl ?_ | refine kw_iff rfl ?_ | refine kl_ung rfl rfl ?_ | refine kl_skipg rfl rfl rfl rfl ?_ | refine kl_skipg0 rfl rfl rfl ?_ | (first | refine kl_move rfl rfl (.inl rfl) rfl rfl ?_ | refine kl_move rfl rfl (.inr rfl) rfl rfl ?_ | refine kl_const rfl rfl (.inl rfl) rfl ?_ | refine kl_const rfl rfl (.inr rfl) rfl ?_) | ((first | refine kl_step rfl rfl rfl fun K hK => ?_ | refine kl_step0 rfl rfl rfl fun K hK => ?_); go_simp; (try go_bits); (first | refine hK _ _ ?_ | refine hK _ ?_); clear hK K))
    refine kl_call rfl rfl rfl Try.func57 rfl (by kernel_rfl) rfl ?_
    refine Calls.mono (rrText hR) ?_
    rintro e w7 ⟨rfl, hR2⟩
    have hln := textOf_len l3 e3
    obtain ⟨tx, l4, e4, hq⟩ : ∃ tx l4 e4, textOf l3 e3 = (tx, l4, e4) := ⟨_, _, _, rfl⟩
    have HP : Hid (parseF b = finF ⟨K, id, 0, at_, z32, tx⟩ (ended l4 e4)) := Lib.hid (by have := HP.out; simp only [hq] at this; exact this)
    rw [hq] at hR2 hln ⊢
    have HLN : Hid (tx.length ≤ 65535) := Lib.hid hln
    clear hq hR hln
    have hR : Rd false w w7 [(g8, (frmV ⟨K, id, 0, at_, z32, []⟩ (.slice none 0 0)).toArray, 39), (g2, zFrm.toArray, 39)] g l4 e4 := hR2
    clear hR2
    refine ⟨_, rfl, ?_⟩
    refine kl_strBytes tx (by have := HLN.out; omega) rfl rfl rfl rfl rfl ?_
    intro c9 w8 hBt hbt hc9 hc9'
    have hR7 := hR.next hbt
    have n8 : w7.heap.size ≠ g8 := Nat.ne_of_gt (hR.vars.lt (g8, (frmV ⟨K, id, 0, at_, z32, []⟩ (.slice none 0 0)).toArray, 39) (by simp))
    have n2 : w7.heap.size ≠ g2 := Nat.ne_of_gt (hR.vars.lt (g2, zFrm.toArray, 39) (by simp))
    clear hbt hR
    have hR := hR7
    clear hR7
    generalize w7.heap.size = g9 at *
    have c2 := hR.get (j := 36) 0 rfl (frm_36 _ _ z32_len)
    have f2 := hR.free 0 rfl 36
    have hR3 := hR.cell 0 rfl h8 36 (.slice (some ⟨g9, 0, none⟩) tx.length c9)
    rw [frm_set36 _ _ _ z32_len] at hR3
    have hBt : Bs (w8.setCell ⟨g8, 36, none⟩ (.slice (some ⟨g9, 0, none⟩) tx.length c9)) (some ⟨g9, 0, none⟩) tx.length tx := Vs.far hBt (fun b o e => by injection e with e; injection e with e _; subst e; exact n8) _
    clear hR
    repeat (first | refine kl_nil ?_ | (first | refine kl_move rfl rfl (.inl rfl) rfl rfl ?_ | refine kl_move rfl rfl (.inr rfl) rfl rfl ?_ | refine kl_const rfl rfl (.inl rfl) rfl ?_ | refine kl_const rfl rfl (.inr rfl) rfl ?_) | ((first | refine kl_step rfl rfl rfl fun K hK => ?_ | refine kl_step0 rfl rfl rfl fun K hK => ?_); go_simp; (try go_bits); (first | refine hK _ _ ?_ | refine hK _ ?_); clear hK K))
    clear c2 f2
    generalize w8.setCell ⟨g8, 36, none⟩ _ = w9 at *
    repeat (first | refine kq_then ?_ | refine kq_block ?_)
    refine KW.less [2, 7, 8] ?_
    simp only [nrm, lk, Nat.reduceBEq, cond_true, cond_false]
    exact rparse_fin (F := ⟨K, id, 0, at_, z32, tx⟩) hB hR3 ⟨hK, hid, by show I64 0; unfold I64; omega, hsz, z32_len, ⟨_, _, _, rfl, hBt, hc9, hc9'⟩⟩ (fun b o n c e => by injection e with e _ _; injection e with e; injection e with e _; subst e; exact n2) HP.out
  · have t1 : (K == 1) = false := by rw [beq_eq_false_iff_ne]; exact k1
    have t2 : (K == 2) = false := by rw [beq_eq_false_iff_ne]; exact k2
    rw [if_neg k1, if_neg k2] at HP
    clear k1 k2
    repeat (first | refine kw_seq ?_ | refine kw_block ?_ | refine kw_region ?_ | refine kl_nil ?_ | refine kw_iff rfl ?_ | (first | refine kl_move rfl rfl (.inl rfl) rfl rfl ?_ | refine kl_move rfl rfl (.inr rfl) rfl rfl ?_ | refine kl_const rfl rfl (.inl rfl) rfl ?_ | refine kl_const rfl rfl (.inr rfl) rfl ?_) | ((first | refine kl_step rfl rfl rfl fun K hK => ?_ | refine kl_step0 rfl rfl rfl fun K hK => ?_); go_simp; (try go_bits); (first | refine hK _ _ ?_ | refine hK _ ?_); clear hK K) | (refine kq_then ?_; first | refine kw_iff rfl ?_ | refine kw_block ?_ | refine kw_seq ?_; refine kw_block ?_))
    refine kw_skip ?_
    refine kq_block ?_
    refine kq_then ?_
    refine KW.less [2, 7, 8] ?_
    simp only [nrm, lk, Nat.reduceBEq, cond_true, cond_false]
    exact rparse_fin hB hR ⟨hK, hid, by show I64 0; unfold I64; omega, by show I64 0; unfold I64; omega, z32_len, SlB.nil _⟩ (fun b o n c e => by cases e) HP.out
end Go.Proofs.Ytkgenkkcgegcbaa
