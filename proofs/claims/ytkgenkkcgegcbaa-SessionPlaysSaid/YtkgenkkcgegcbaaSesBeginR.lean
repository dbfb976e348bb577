/- Of, SameFrame. The document's Session as a type (chapter 17): printed by wip/tools/g_begr.py. The document's Begin (chapter 17): printed by wip/tools/g_begr.py. -/
import Derived.Test.YtkgenkkcgegcbaaSesParR
import Derived.Test.YtkgenkkcgegcbaaSesCount
import Derived.Test.YtkgenkkcgegcbaaKnOps
import Derived.Test.YtkgenkkcgegcbaaSesBegin
namespace Go.Proofs.Ytkgenkkcgegcbaa
open Go.RowKit
attribute [local go_sem] ev_tmp ev_const ev_func ev_global lk_hit lk_miss uponK_value uponK_skip look_tmp look_const look_global look_func valP_value
theorem rfrm_built (f : Frm) (D : Value) (h : f.sum.length = 32) (hD : D.cells = [D].toArray) :
    Try.prog.built 39 [(0, .int .i64 f.kind), (1, .int .i64 f.id), (2, .int .i64 f.size), (3, .int .i64 f.at_), (4, .agg (bv f.sum).toArray), (5, D)] = some (frmV f D).toArray := by
  obtain ⟨fs, hu, hp⟩ := rfrmUnder
  rw [built_struct rfrmZero hu hp]
  have hz : zFrm.length = 37 := length_frmV _ _ z32_len
  have h1 := fill_step ([(0, 1), (1, 1), (2, 1), (3, 1), (4, 32), (36, 1)].toArray[·]?) [] zFrm 0 _ _ (cells_int .i64 f.kind) rfl (by simp [hz])
  simp only [List.nil_append] at h1
  rw [h1, fill_step _ _ _ 1 _ _ (cells_int .i64 f.id) rfl (by simp [hz]), fill_step _ _ _ 2 _ _ (cells_int .i64 f.size) rfl (by simp [hz]), fill_step _ _ _ 3 _ _ (cells_int .i64 f.at_) rfl (by simp [hz]), fill_step _ _ _ 4 _ _ (cells_agg (bv f.sum)) (by simp [length_bv, h]) (by simp [hz, length_bv, h]),
    fill_step _ _ _ 5 _ _ hD (by simp [length_bv, h]) (by simp [hz, length_bv, h]), fill_nil]
  refine congrArg (fun l : List Value => some l.toArray) ?_
  rw [List.drop_drop, List.drop_drop, List.drop_drop, List.drop_drop, List.drop_drop, List.drop_of_length_le (by simp [hz, length_bv, h])]
  simp [frmV]
theorem hashSize' (l : List UInt8) (h : l.length = 32) : (Try.prog.info? 26).map (·.size) = some (bv l).length := by rw [length_bv, h]; kernel_rfl
set_option maxRecDepth 100000 in
set_option maxHeartbeats 1000000 in
theorem of17_any (f : Frm) (D : Value) (w : World) (hM : FrmM w f D) :
    Calls Try.prog 11 #[.agg (frmV f D).toArray] w fun e w' => e = .returned (.agg (frmV f D).toArray) ∧ Below w.heap.size w w' := by
  have HS := Lib.hid hM.sum
  obtain ⟨AD, nD, cD, rfl, hBD, _, _⟩ := hM.data
  refine calls_kw Try.func11 rfl Try.ntmps11 rfl [(0, .agg (frmV f (.slice AD nD cD)).toArray)] rfl ?_
  refine kw_seq ?_
  refine kw_region ?_
  refine kl_boxL (Lay.start w) rfl rfl rfl rfl rfl ?_
  intro g1 w1 eg1 hb1 hL
  refine kl_zeroL hL rfrmZero rfl rfl rfl rfl ?_
  intro g2 w2 eg2 hb2 hL
  clear eg1 eg2 hb1 hb2 hM hBD
  have a0 := hL.get (j := 0) 1 rfl (frm_0 f _)
  have a1 := hL.get (j := 1) 1 rfl (frm_1 f _)
  have a2 := hL.get (j := 2) 1 rfl (frm_2 f _)
  have a3 := hL.get (j := 3) 1 rfl (frm_3 f _)
  have a36 := hL.get (j := 36) 1 rfl (frm_36 f _ HS.out)
  have hsF := Lib.hid (frm_range (hL.at_ 1 rfl))
  refine kl_nil ?_
  refine kq_then ?_
  refine kw_seq ?_
  refine kw_region ?_
  repeat (first | refine kl_load_mid 26 g1 4 _ _ hsF.out Try.underlying26 rfl (hashSize' _ HS.out) rfl rfl rfl rfl rfl ?_ | (first | refine kl_move rfl rfl (.inl rfl) rfl rfl ?_ | refine kl_move rfl rfl (.inr rfl) rfl rfl ?_ | refine kl_const rfl rfl (.inl rfl) rfl ?_ | refine kl_const rfl rfl (.inr rfl) rfl ?_) | ((first | refine kl_step rfl rfl rfl fun K hK => ?_ | refine kl_step0 rfl rfl rfl fun K hK => ?_); go_simp; (try go_bits); (first | refine hK _ _ ?_ | refine hK _ ?_); clear hK K))
  refine kl_build 39 _ (frmV f (.slice AD nD cD)).toArray rfl rfl rfl (by rfl) (by rfl) (rfrm_built f (.slice AD nD cD) HS.out rfl) ?_
  refine kl_putL (cells := (frmV f (.slice AD nD cD)).toArray) hL 0 rfl (rinfoF f _ HS.out) (sizeZF f _ HS.out) (frmV_one f _ rfl) rfl rfl rfl rfl rfl (fun hL2 => ?_)
  refine kl_nil ?_
  refine kq_then ?_
  refine kw_ret ?_
  refine kq_retv (fun a k => results_cell_row rfl _ _ g2 39 (frmV f (.slice AD nD cD)).toArray (0, 0) _ (k.slot 2 rfl) (hL2.at_ 0 rfl) Try.underlying39 rfl (rinfoF f _ HS.out)) ?_
  exact ⟨rfl, hL2.below⟩
set_option maxRecDepth 100000 in
set_option maxHeartbeats 1000000 in
theorem sameFrame_any (f : Frm) (D D' : Value) (w : World) (hM : FrmM w f D) (hM' : FrmM w f D') :
    Calls Try.prog 28 #[.agg (frmV f D).toArray, .agg (frmV f D').toArray] w fun e w' => e = .returned (.bool true) ∧ Below w.heap.size w w' := by
  have HS := Lib.hid hM.sum
  obtain ⟨AD, nD, cD, rfl, hBD, _, _⟩ := hM.data
  obtain ⟨AE, nE, cE, rfl, hBE, _, _⟩ := hM'.data
  refine calls_kw Try.func28 rfl Try.ntmps28 rfl [(0, .agg (frmV f (.slice AD nD cD)).toArray), (1, .agg (frmV f (.slice AE nE cE)).toArray)] rfl ?_
  refine kw_seq ?_
  refine kw_region ?_
  refine kl_boxL (Lay.start w) rfl rfl rfl rfl rfl ?_
  intro g1 w1 eg1 hb1 hL
  refine kl_boxL hL rfl rfl rfl rfl rfl ?_
  intro g2 w2 eg2 hb2 hL
  replace hBD := (hBD.keep (.of_below hb1)).keep (.of_below hb2)
  replace hBE := (hBE.keep (.of_below hb1)).keep (.of_below hb2)
  clear eg1 eg2 hb1 hb2 hM hM'
  have a0 := hL.get (j := 0) 1 rfl (frm_0 f _)
  have a1 := hL.get (j := 1) 1 rfl (frm_1 f _)
  have a2 := hL.get (j := 2) 1 rfl (frm_2 f _)
  have a3 := hL.get (j := 3) 1 rfl (frm_3 f _)
  have a36 := hL.get (j := 36) 1 rfl (frm_36 f _ HS.out)
  have b0 := hL.get (j := 0) 0 rfl (frm_0 f _)
  have b1 := hL.get (j := 1) 0 rfl (frm_1 f _)
  have b2 := hL.get (j := 2) 0 rfl (frm_2 f _)
  have b3 := hL.get (j := 3) 0 rfl (frm_3 f _)
  have b36 := hL.get (j := 36) 0 rfl (frm_36 f _ HS.out)
  have hsF := Lib.hid (frm_range (hL.at_ 1 rfl))
  have hsG := Lib.hid (frm_range (hL.at_ 0 rfl))
  have he : ∀ W, (Op.equalIn 10000 26 (.agg (bv f.sum).toArray) (.agg (bv f.sum).toArray)).run Try.prog W = .ok true W := fun W => by rw [eqH W _ _ HS.out HS.out, beq_self_eq_true]
  have hcv1 := convB (c := cD) hBD
  have hcv2 := convB (c := cE) hBE
  clear hBD hBE
  repeat (first | refine kw_seq ?_ | refine kw_block ?_ | refine kw_skip ?_ | refine kw_region ?_ | refine kl_nil ?_ | refine kq_then ?_ | refine kq_block ?_ | refine kw_exit ?_ | refine kq_then_exit ?_ | refine kq_block_here rfl ?_ | refine kq_block_far rfl ?_ | refine kq_again_exit ?_ | refine kw_ret ?_ | refine kq_then_ret ?_ | refine kq_block_ret ?_ | refine kq_again_ret ?_ | refine kw_ift rfl ?_ | refine kw_iff rfl ?_ | refine kl_ung rfl rfl ?_ | refine kl_skipg rfl rfl rfl rfl ?_ | refine kl_skipg0 rfl rfl rfl ?_ | refine kl_load_mid 26 g1 4 _ _ hsF.out Try.underlying26 rfl (hashSize' _ HS.out) rfl rfl rfl rfl rfl ?_ | refine kl_load_mid 26 g2 4 _ _ hsG.out Try.underlying26 rfl (hashSize' _ HS.out) rfl rfl rfl rfl rfl ?_ | (first | refine kl_move rfl rfl (.inl rfl) rfl rfl ?_ | refine kl_move rfl rfl (.inr rfl) rfl rfl ?_ | refine kl_const rfl rfl (.inl rfl) rfl ?_ | refine kl_const rfl rfl (.inr rfl) rfl ?_) | ((first | refine kl_step rfl rfl rfl fun K hK => ?_ | refine kl_step0 rfl rfl rfl fun K hK => ?_); go_simp; (try go_bits); (first | refine hK _ _ ?_ | refine hK _ ?_); clear hK K))
  exact kq_ret1 rfl rfl ⟨rfl, hL.below⟩
end Go.Proofs.Ytkgenkkcgegcbaa
namespace Go.Proofs.Ytkgenkkcgegcbaa
open Go.RowKit
theorem rsesZero : (Try.prog.info? 36).bind (·.zero) = some (.agg zSes.toArray) := by kernel_rfl
theorem rsesInfo : (Try.prog.info? 36).map (·.size) = some 36 := by kernel_rfl
theorem rinfoS (s : Ses) (D G : Value) (h : s.sum.length = 32) : (Try.prog.info? 36).map (·.size) = some (sesV s D G).toArray.size := by rw [rsesInfo]; simp [length_sesV s D G h]
theorem rsesUnder : ∃ fs, Try.prog.underlying 36 = some (.struct fs) ∧ fs.toList.mapM (fun f => (Try.prog.info? f.type).map fun i => (f.offset, i.size)) = some [(0, 1), (1, 1), (2, 32), (34, 1), (35, 1)] := ⟨_, Try.underlying36, by kernel_rfl⟩
theorem rses_built (s : Ses) (D G : Value) (h : s.sum.length = 32) (hD : D.cells = [D].toArray) (hG : G.cells = [G].toArray) :
    Try.prog.built 36 [(0, .int .i64 s.id), (1, .int .i64 s.size), (2, .agg (bv s.sum).toArray), (3, D), (4, G)] = some (sesV s D G).toArray := by
  obtain ⟨fs, hu, hp⟩ := rsesUnder
  rw [built_struct rsesZero hu hp]
  have hz : zSes.length = 36 := length_sesV _ _ _ z32_len
  have h1 := fill_step ([(0, 1), (1, 1), (2, 32), (34, 1), (35, 1)].toArray[·]?) [] zSes 0 _ _ (cells_int .i64 s.id) rfl (by simp [hz])
  simp only [List.nil_append] at h1
  rw [h1, fill_step _ _ _ 1 _ _ (cells_int .i64 s.size) rfl (by simp [hz]), fill_step _ _ _ 2 _ _ (cells_agg (bv s.sum)) (by simp [length_bv, h]) (by simp [hz, length_bv, h]),
    fill_step _ _ _ 3 _ _ hD (by simp [length_bv, h]) (by simp [hz, length_bv, h]), fill_step _ _ _ 4 _ _ hG (by simp [length_bv, h]) (by simp [hz, length_bv, h]), fill_nil]
  refine congrArg (fun l : List Value => some l.toArray) ?_
  rw [List.drop_drop, List.drop_drop, List.drop_drop, List.drop_drop, List.drop_of_length_le (by simp [hz, length_bv, h])]
  simp [sesV]
theorem rses_built0 : Try.prog.built 36 [] = some zSes.toArray := by
  obtain ⟨fs, hu, hp⟩ := rsesUnder
  rw [built_struct rsesZero hu hp, fill_nil]
end Go.Proofs.Ytkgenkkcgegcbaa
namespace Go.Proofs.Ytkgenkkcgegcbaa
open Go.RowKit
attribute [local go_sem] ev_tmp ev_const ev_func ev_global lk_hit lk_miss uponK_value uponK_skip look_tmp look_const look_global look_func
set_option maxRecDepth 100000 in
set_option maxHeartbeats 1000000 in
theorem rbegin_any (f : Frm) (D : Value) (w : World) (hM : FrmM w f D) :
    Calls Try.prog 10 #[.agg (frmV f D).toArray] w (BeginP f w) := by
  have HS := Lib.hid hM.sum
  refine calls_kw Try.func10 rfl Try.ntmps10 rfl [(0, .agg (frmV f D).toArray)] rfl ?_
  refine kw_seq ?_
  refine kw_region ?_
  ((first | refine kl_step rfl rfl rfl fun K hK => ?_ | refine kl_step0 rfl rfl rfl fun K hK => ?_); go_simp; (try go_bits); (first | refine hK _ _ ?_ | refine hK _ ?_); clear hK K)
  obtain ⟨w1, hw1⟩ : ∃ w1, w1 = w.alloc (.cells (frmV f D).toArray 39) := ⟨_, rfl⟩
  have hbw1 : Below w.heap.size w w1 := by rw [hw1]; exact (Below.refl _ _).alloc (Nat.le_refl _) _
  have h1 : w1.heap[w.heap.size]? = some (.cells (frmV f D).toArray 39 (0, 0)) := by rw [hw1]; exact heap_alloc_new _ _
  have sw1 : w1.heap.size = w.heap.size + 1 := by rw [hw1]; simp
  rw [← hw1]
  clear hw1
  obtain ⟨g1, hg1⟩ : ∃ g, w.heap.size = g := ⟨_, rfl⟩
  have c1 := frm_cell h1 (frm_1 f D)
  have c2 := frm_cell h1 (frm_2 f D)
  rw [hg1] at h1 c1 c2
  have H1 := Lib.hid h1
  have HG1 := Lib.hid hg1
  rw [hg1]
  have l1 : g1 < w1.heap.size := by omega
  have b1 : w.heap.size ≤ g1 := by omega
  clear hg1 h1 sw1
  refine kl_alloc_row 36 rsesZero rfl rfl rfl rfl ?_
  obtain ⟨w2, hw2⟩ : ∃ w2, w2 = w1.alloc (.cells zSes.toArray 36) := ⟨_, rfl⟩
  have hbw2 : Below w1.heap.size w1 w2 := by rw [hw2]; exact (Below.refl _ _).alloc (Nat.le_refl _) _
  have h2 : w2.heap[w1.heap.size]? = some (.cells zSes.toArray 36 (0, 0)) := by rw [hw2]; exact heap_alloc_new _ _
  have sw2 : w2.heap.size = w1.heap.size + 1 := by rw [hw2]; simp
  rw [← hw2]
  clear hw2
  obtain ⟨g2, hg2⟩ : ∃ g, w1.heap.size = g := ⟨_, rfl⟩
  have c1 := Keeps.of_below hbw2 _ _ c1
  have c2 := Keeps.of_below hbw2 _ _ c2
  have H1 := Lib.hid (below_atK hbw2 H1.out)
  rw [hg2] at h2 ⊢
  have hb := below_two hbw1 hbw2
  have H2 := Lib.hid h2
  have n12 : g1 ≠ g2 := by omega
  have b2 : w.heap.size ≤ g2 := by omega
  have l2 : g2 < w2.heap.size := by omega
  clear hg2 h2 sw2
  by_cases hbad : badF f
  · have hS : beginS f = zeroSes := if_pos hbad
    have hE : beginE f = 1 := if_pos hbad
    have hcase : (decide (f.id < 0) = true) ∨ (decide (f.id < 0) = false ∧ decide (f.size < 1) = true) ∨ (decide (f.id < 0) = false ∧ decide (f.size < 1) = false ∧ decide (1000 < f.size) = true) := by
      unfold badF at hbad
      simp only [decide_eq_true_eq, decide_eq_false_iff_not]
      omega
    have HSS := Lib.hid hS
    have HEE := Lib.hid hE
    clear hbad hS hE
    rcases hcase with d1 | ⟨d1, d2⟩ | ⟨d1, d2, d3⟩
    all_goals
      repeat (first | refine kw_seq ?_ | refine kw_block ?_ | refine kw_skip ?_ | refine kw_region ?_ | refine kl_nil ?_ | refine kq_then ?_ | refine kq_block ?_ | refine kw_exit ?_ | refine kq_then_exit ?_ | refine kq_block_here rfl ?_ | refine kq_block_far rfl ?_ | refine kq_again_exit ?_ | refine kw_ret ?_ | refine kq_then_ret ?_ | refine kq_block_ret ?_ | refine kq_again_ret ?_ | refine kw_ift rfl ?_ | refine kw_iff rfl ?_ | refine kl_ung rfl rfl ?_ | refine kl_skipg rfl rfl rfl rfl ?_ | refine kl_skipg0 rfl rfl rfl ?_ | (first | refine kl_move rfl rfl (.inl rfl) rfl rfl ?_ | refine kl_move rfl rfl (.inr rfl) rfl rfl ?_ | refine kl_const rfl rfl (.inl rfl) rfl ?_ | refine kl_const rfl rfl (.inr rfl) rfl ?_) | ((first | refine kl_step rfl rfl rfl fun K hK => ?_ | refine kl_step0 rfl rfl rfl fun K hK => ?_); go_simp; (try go_bits); (first | refine hK _ _ ?_ | refine hK _ ?_); clear hK K))
      refine kl_store_row 36 g2 zSes.toArray _ zSes.toArray H2.out (rinfoS zeroSes _ _ z32_len) rfl (sesV_one _ _ _ rfl rfl) rfl rfl rfl rfl rfl ?_
      repeat (first | refine kw_seq ?_ | refine kw_block ?_ | refine kw_skip ?_ | refine kw_region ?_ | refine kl_nil ?_ | refine kq_then ?_ | refine kq_block ?_ | refine kw_exit ?_ | refine kq_then_exit ?_ | refine kq_block_here rfl ?_ | refine kq_block_far rfl ?_ | refine kq_again_exit ?_ | refine kw_ret ?_ | refine kq_then_ret ?_ | refine kq_block_ret ?_ | refine kq_again_ret ?_ | refine kw_ift rfl ?_ | refine kw_iff rfl ?_ | refine kl_ung rfl rfl ?_ | refine kl_skipg rfl rfl rfl rfl ?_ | refine kl_skipg0 rfl rfl rfl ?_ | (first | refine kl_move rfl rfl (.inl rfl) rfl rfl ?_ | refine kl_move rfl rfl (.inr rfl) rfl rfl ?_ | refine kl_const rfl rfl (.inl rfl) rfl ?_ | refine kl_const rfl rfl (.inr rfl) rfl ?_) | ((first | refine kl_step rfl rfl rfl fun K hK => ?_ | refine kl_step0 rfl rfl rfl fun K hK => ?_); go_simp; (try go_bits); (first | refine hK _ _ ?_ | refine hK _ ?_); clear hK K))
      refine kq_retv (v := .tuple #[.agg zSes.toArray, .int .i64 1]) (fun a k => results_row_tmp rfl _ _ g2 36 zSes.toArray (0, 0) _ _ (k.slot 2 rfl) (k.slot 3 rfl) (setRow_block H2.out) Try.underlying36 rfl (rinfoS zeroSes _ _ z32_len)) ?_
      exact ⟨.slice none 0 0, .slice none 0 0, by rw [HSS.out, HEE.out]; rfl, by rw [HSS.out]; exact zeroSes_m _, below_setRow hb b2 _, Fr.nil _ _ _, Fr.nil _ _ _⟩
  have hS : beginS f = ⟨f.id, f.size, f.sum, List.replicate f.size.toNat 0, List.replicate f.size.toNat false⟩ := if_neg hbad
  have hE : beginE f = 0 := if_neg hbad
  have d1 : decide (f.id < 0) = false := by unfold badF at hbad; rw [decide_eq_false_iff_not]; omega
  have d2 : decide (f.size < 1) = false := by unfold badF at hbad; rw [decide_eq_false_iff_not]; omega
  have d3 : decide (1000 < f.size) = false := by unfold badF at hbad; rw [decide_eq_false_iff_not]; omega
  obtain ⟨n, hn⟩ : ∃ n : Nat, f.size = n := ⟨f.size.toNat, by unfold badF at hbad; omega⟩
  have hn1 : n ≤ 1000 := by unfold badF at hbad; omega
  have hnn : f.size.toNat = n := by omega
  rw [hnn] at hS
  rw [hn] at c2 d2 d3
  have HSS := Lib.hid hS
  have HEE := Lib.hid hE
  have HN := Lib.hid hn
  clear hbad hS hE hn hnn
  have hI := hM.id
  have hZ := hM.size
  have hF := hM.sum
  have HI := Lib.hid hI
  have HF := Lib.hid hF
  clear hI hZ hF
  repeat (first | refine kw_seq ?_ | refine kw_block ?_ | refine kw_skip ?_ | refine kw_region ?_ | refine kl_nil ?_ | refine kq_then ?_ | refine kq_block ?_ | refine kw_exit ?_ | refine kq_then_exit ?_ | refine kq_block_here rfl ?_ | refine kq_block_far rfl ?_ | refine kq_again_exit ?_ | refine kw_ret ?_ | refine kq_then_ret ?_ | refine kq_block_ret ?_ | refine kq_again_ret ?_ | refine kw_ift rfl ?_ | refine kw_iff rfl ?_ | refine kl_ung rfl rfl ?_ | refine kl_skipg rfl rfl rfl rfl ?_ | refine kl_skipg0 rfl rfl rfl ?_ | (first | refine kl_move rfl rfl (.inl rfl) rfl rfl ?_ | refine kl_move rfl rfl (.inr rfl) rfl rfl ?_ | refine kl_const rfl rfl (.inl rfl) rfl ?_ | refine kl_const rfl rfl (.inr rfl) rfl ?_) | ((first | refine kl_step rfl rfl rfl fun K hK => ?_ | refine kl_step0 rfl rfl rfl fun K hK => ?_); go_simp; (try go_bits); (first | refine hK _ _ ?_ | refine hK _ ?_); clear hK K))
  refine KW.less [1, 2] ?_
  simp only [nrm, lk, Nat.reduceBEq, cond_true, cond_false]
  have hmk1 := makeBytes n (by omega)
  have hmk2 := makeBools n (by omega)
  have H1R : Hid (w2.rangeAt g1 4 (bv f.sum)) := frm_range H1.out
  refine kw_region_xt 12 [none, none, none, none, none, none, none, none, some (fun W v => SlB W (List.replicate n 0) v ∧ Fr w2.heap.size v), none, none, some (fun W v => SlO W (List.replicate n false) v ∧ Fr w2.heap.size v)]
    [[(1, none)], [(18, some 0)], [(1, none)], [(20, some 2)], [(1, none)], [(22, some 4)], [(1, none)], [(24, some 6)], [(25, some 7)], [(1, none)], [(27, some 9)], [(28, some 10)]]
    [1, 2] (by kernel_rfl) (by kernel_rfl) (by kernel_rfl) (by kernel_rfl) (by kernel_rfl)
    ⟨(fun _ _ _ hb h => ⟨SlB.keep h.1 (.of_below hb), h.2⟩), (fun _ _ _ hb h => ⟨SlO.keep h.1 (.of_below hb), h.2⟩), trivial⟩ ?_
  repeat (first | apply exs_none | apply exs_some)
  refine exs_nil (And.intro ?v1_vc ?v1_fin)
  case v1_vc =>
    refine ⟨?_, ?_, ?_, ?_, ?_, ?_, ?_, ?_, ?_, ?_, ?_, ?_, trivial⟩
    · refine vk_none rfl fun A W hR h N hN => ?_
      refine vk_of N ?_
      obtain ⟨h1, _⟩ := h
      replace h1 := h1 _ rfl
      go_simp
      (try go_bits)
      exact hN _ _ (Below.refl _ _) rfl
    · refine vk_none rfl fun A W hR h N hN => ?_
      refine vk_of N ?_
      obtain ⟨h18, _⟩ := h
      replace h18 : A.tmps[18]?.getD undef = _ := h18
      have c1 := Keeps.of_below hR _ _ c1
      have c2 := Keeps.of_below hR _ _ c2
      go_simp
      (try go_bits)
      exact hN _ _ (Below.refl _ _) rfl
    · refine vk_none rfl fun A W hR h N hN => ?_
      refine vk_of N ?_
      obtain ⟨h1, _⟩ := h
      replace h1 := h1 _ rfl
      go_simp
      (try go_bits)
      exact hN _ _ (Below.refl _ _) rfl
    · refine vk_none rfl fun A W hR h N hN => ?_
      refine vk_of N ?_
      obtain ⟨h20, _⟩ := h
      replace h20 : A.tmps[20]?.getD undef = _ := h20
      have c1 := Keeps.of_below hR _ _ c1
      have c2 := Keeps.of_below hR _ _ c2
      go_simp
      (try go_bits)
      exact hN _ _ (Below.refl _ _) rfl
    · refine vk_none rfl fun A W hR h N hN => ?_
      refine vk_of N ?_
      obtain ⟨h1, _⟩ := h
      replace h1 := h1 _ rfl
      go_simp
      (try go_bits)
      exact hN _ _ (Below.refl _ _) rfl
    · refine vk_none rfl fun A W hR h N hN => ?_
      refine vk_of N ?_
      obtain ⟨h22, _⟩ := h
      replace h22 : A.tmps[22]?.getD undef = _ := h22
      rw [run_loadMid (b := g1) (off := 4) 26 (.tmp 22) rfl h22 (bv f.sum) _ (rangeAt_below (H1R.out) hR) hashUnder rfl (by rw [hashInfo, length_bv, HF.out])]
      exact hN _ _ (Below.refl _ _) rfl
    · refine vk_none rfl fun A W hR h N hN => ?_
      refine vk_of N ?_
      obtain ⟨h1, _⟩ := h
      replace h1 := h1 _ rfl
      go_simp
      (try go_bits)
      exact hN _ _ (Below.refl _ _) rfl
    · refine vk_none rfl fun A W hR h N hN => ?_
      refine vk_of N ?_
      obtain ⟨h24, _⟩ := h
      replace h24 : A.tmps[24]?.getD undef = _ := h24
      have c1 := Keeps.of_below hR _ _ c1
      have c2 := Keeps.of_below hR _ _ c2
      go_simp
      (try go_bits)
      exact hN _ _ (Below.refl _ _) rfl
    · refine vk_none rfl fun A W hR h N hN => ?_
      refine vk_of N ?_
      obtain ⟨h25, _⟩ := h
      replace h25 : A.tmps[25]?.getD undef = _ := h25
      go_simp
      (try go_bits)
      exact hN _ _ ((Below.refl _ _).alloc (Nat.le_refl _) _) (by have h := SlB.lit (w := W) 5 (List.replicate n (0 : UInt8)) rfl (by simp; omega); rw [List.length_replicate] at h; exact ⟨h, Fr.new hR.size⟩)
    · refine vk_none rfl fun A W hR h N hN => ?_
      refine vk_of N ?_
      obtain ⟨h1, _⟩ := h
      replace h1 := h1 _ rfl
      go_simp
      (try go_bits)
      exact hN _ _ (Below.refl _ _) rfl
    · refine vk_none rfl fun A W hR h N hN => ?_
      refine vk_of N ?_
      obtain ⟨h27, _⟩ := h
      replace h27 : A.tmps[27]?.getD undef = _ := h27
      have c1 := Keeps.of_below hR _ _ c1
      have c2 := Keeps.of_below hR _ _ c2
      go_simp
      (try go_bits)
      exact hN _ _ (Below.refl _ _) rfl
    · refine vk_none rfl fun A W hR h N hN => ?_
      refine vk_of N ?_
      obtain ⟨h28, _⟩ := h
      replace h28 : A.tmps[28]?.getD undef = _ := h28
      go_simp
      (try go_bits)
      exact hN _ _ ((Below.refl _ _).alloc (Nat.le_refl _) _) (by have h := SlO.lit (w := W) 4 (List.replicate n false) rfl (by simp; omega); rw [List.length_replicate] at h; exact ⟨h, Fr.new hR.size⟩)
  case v1_fin =>
    intro fa fW fk hR he
    have e1 := he.2.1
    have e3 := he.2.2.2.1
    have e5 := he.2.2.2.2.2.1
    have e8 := he.2.2.2.2.2.2.2.2.1
    have e11 := he.2.2.2.2.2.2.2.2.2.2.2.1
    clear he
    replace e1 : fa.tmps[19]?.getD undef = _ := e1
    replace fk := fk.more 19 _ e1
    clear e1
    replace e3 : fa.tmps[21]?.getD undef = _ := e3
    replace fk := fk.more 21 _ e3
    clear e3
    replace e5 : fa.tmps[23]?.getD undef = _ := e5
    replace fk := fk.more 23 _ e5
    clear e5
    obtain ⟨⟨A8, n8, c8, e8', hB8, r8⟩, hF8⟩ := e8
    rw [e8'] at hF8
    replace fk := fk.more 26 _ e8'
    obtain ⟨⟨A11, n11, c11, e11', hB11, r11⟩, hF11⟩ := e11
    rw [e11'] at hF11
    replace fk := fk.more 29 _ e11'
    have hD : SlB fW (List.replicate n 0) (.slice A8 n8 c8) := ⟨_, _, _, rfl, hB8, r8⟩
    have hG : SlO fW (List.replicate n false) (.slice A11 n11 c11) := ⟨_, _, _, rfl, hB11, r11⟩
    have H2 := Lib.hid (below_atK hR H2.out)
    have hb := below_then hb hR hb.size
    clear e8' e11' c1 c2
    refine kl_of _ _ ?_ fk
    clear fk fa
    simp only [nrm, lk, Nat.reduceBEq, cond_true, cond_false, List.take_succ_cons, List.take_zero, List.drop_succ_cons, List.drop_zero]
    rw [← HN.out]
    refine kl_build 36 _ (sesV ⟨f.id, f.size, f.sum, List.replicate n 0, List.replicate n false⟩ (.slice A8 n8 c8) (.slice A11 n11 c11)).toArray rfl rfl rfl (by rfl) (by rfl) (rses_built ⟨f.id, f.size, f.sum, List.replicate n 0, List.replicate n false⟩ (.slice A8 n8 c8) (.slice A11 n11 c11) HF.out rfl rfl) ?_
    refine kl_store_row 36 g2 _ _ zSes.toArray H2.out (rinfoS ⟨f.id, f.size, f.sum, _, _⟩ _ _ HF.out) (sizeZ ⟨f.id, f.size, f.sum, _, _⟩ _ _ HF.out) (sesV_one _ _ _ rfl rfl) rfl rfl rfl rfl rfl ?_
    repeat (first | refine kw_seq ?_ | refine kw_block ?_ | refine kw_skip ?_ | refine kw_region ?_ | refine kl_nil ?_ | refine kq_then ?_ | refine kq_block ?_ | refine kw_exit ?_ | refine kq_then_exit ?_ | refine kq_block_here rfl ?_ | refine kq_block_far rfl ?_ | refine kq_again_exit ?_ | refine kw_ret ?_ | refine kq_then_ret ?_ | refine kq_block_ret ?_ | refine kq_again_ret ?_ | refine kw_ift rfl ?_ | refine kw_iff rfl ?_ | refine kl_ung rfl rfl ?_ | refine kl_skipg rfl rfl rfl rfl ?_ | refine kl_skipg0 rfl rfl rfl ?_ | (first | refine kl_move rfl rfl (.inl rfl) rfl rfl ?_ | refine kl_move rfl rfl (.inr rfl) rfl rfl ?_ | refine kl_const rfl rfl (.inl rfl) rfl ?_ | refine kl_const rfl rfl (.inr rfl) rfl ?_) | ((first | refine kl_step rfl rfl rfl fun K hK => ?_ | refine kl_step0 rfl rfl rfl fun K hK => ?_); go_simp; (try go_bits); (first | refine hK _ _ ?_ | refine hK _ ?_); clear hK K))
    refine kq_retv (v := .tuple #[.agg (sesV ⟨f.id, f.size, f.sum, List.replicate n 0, List.replicate n false⟩ (.slice A8 n8 c8) (.slice A11 n11 c11)).toArray, .int .i64 0]) (fun a k => results_row_tmp rfl _ _ g2 36 _ (0, 0) _ _ (k.slot 2 rfl) (k.slot 3 rfl) (setRow_block H2.out) Try.underlying36 rfl (rinfoS ⟨f.id, f.size, f.sum, _, _⟩ _ _ HF.out)) ?_
    refine ⟨_, _, by rw [HSS.out, HEE.out], ?_, below_setRow hb b2 _, hF8.mono (by omega), hF11.mono (by omega)⟩
    rw [HSS.out]
    exact ⟨hM.id, hM.size, HF.out, hD.row (hF8.ne l2) _, hG.row (hF11.ne l2) _⟩
end Go.Proofs.Ytkgenkkcgegcbaa
