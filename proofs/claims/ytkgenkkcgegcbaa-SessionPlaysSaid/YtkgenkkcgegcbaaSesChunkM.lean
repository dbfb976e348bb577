/- session.Chunk: its contract. -/
import Derived.Test.YtkgenkkcgegcbaaSesChunk1
namespace Go.Proofs.Ytkgenkkcgegcbaa
open Go.RowKit
attribute [local go_sem] ev_tmp ev_const ev_func ev_global lk_hit lk_miss uponK_value uponK_skip look_tmp look_const look_global look_func
theorem own_farRow {w : World} {base : Nat} {e : TypeId} {size : Nat} {v : Value} {n : Nat} {xs : List Value} (h : w.ownsRow base e size v n xs) {g' : Nat} (hp : g' < base) (cs : Array Value) : (w.setRow g' cs).ownsRow base e size v n xs := own_setRow h hp cs
theorem OwnM.row {w : World} {B n : Nat} {s : Ses} {D G : Value} (h : OwnM w B s D G n) {g : Nat} (hg : g < B) (cs : Array Value) : OwnM (w.setRow g cs) B s D G n := ⟨h.id, h.size, h.sum, own_setRow h.data hg cs, own_setRow h.got hg cs⟩
set_option maxRecDepth 100000 in
set_option maxHeartbeats 2000000 in
theorem chunk_own (s : Ses) (D G : Value) (f : Frm) (DF : Value) (n : Nat) (w : World) (hM : SesM w s D G) (hFM : FrmM w f DF) (hs : s.size = n) (hd : s.data.length = n) (hg : s.got.length = n) (h0 : 0 < n) (hn : n ≤ 1000000) :
    Calls Try.prog 16 #[.agg (sesV s D G).toArray, .agg (frmV f DF).toArray] w (ChunkO s f w) := by
  obtain ⟨Af, m, cf, rfl, hBf, hmc, hcf⟩ := hFM.data
  have HS := Lib.hid hM.sum
  have HF := Lib.hid hFM.sum
  have HM := Lib.hid hBf.len
  have HD := Lib.hid hd
  have HG := Lib.hid hg
  have hlf : ∀ b o, 0 < m → Af = some ⟨b, o, none⟩ → b < w.heap.size := fun b o hm e => by subst e; exact bs_lt hBf hm
  have HLF := Lib.hid hlf
  have hat := hFM.at_
  have HAT := Lib.hid hat
  have HFM := Lib.hid hFM
  have HMM := Lib.hid hM
  clear hlf hat hFM
  refine calls_kw Try.func16 rfl Try.ntmps16 rfl [(0, .agg (sesV s D G).toArray), (1, .agg (frmV f (.slice Af m cf)).toArray)] rfl ?_
  refine kw_seq ?_
  refine kw_region ?_
  ((first | refine kl_step rfl rfl rfl fun K hK => ?_ | refine kl_step0 rfl rfl rfl fun K hK => ?_); go_simp; (try go_bits); (first | refine hK _ _ ?_ | refine hK _ ?_); clear hK K)
  obtain ⟨w1, hw1⟩ : ∃ w1, w1 = w.alloc (.cells (sesV s D G).toArray 32) := ⟨_, rfl⟩
  have hbw1 : Below w.heap.size w w1 := by rw [hw1]; exact (Below.refl _ _).alloc (Nat.le_refl _) _
  have h2 : w1.heap[w.heap.size]? = some (.cells (sesV s D G).toArray 32 (0, 0)) := by rw [hw1]; exact heap_alloc_new _ _
  have sw1 : w1.heap.size = w.heap.size + 1 := by rw [hw1]; simp
  rw [← hw1]
  clear hw1
  obtain ⟨g2, hg2⟩ : ∃ g, w.heap.size = g := ⟨_, rfl⟩
  rw [hg2] at h2
  have H2 := Lib.hid h2
  have HG2 := Lib.hid hg2
  have b2 : w.heap.size ≤ g2 := by omega
  have l2 : g2 < w1.heap.size := by omega
  rw [hg2]
  clear hg2 h2 sw1
  ((first | refine kl_step rfl rfl rfl fun K hK => ?_ | refine kl_step0 rfl rfl rfl fun K hK => ?_); go_simp; (try go_bits); (first | refine hK _ _ ?_ | refine hK _ ?_); clear hK K)
  obtain ⟨w2, hw2⟩ : ∃ w2, w2 = w1.alloc (.cells (frmV f (.slice Af m cf)).toArray 29) := ⟨_, rfl⟩
  have hbw2 : Below w1.heap.size w1 w2 := by rw [hw2]; exact (Below.refl _ _).alloc (Nat.le_refl _) _
  have h3 : w2.heap[w1.heap.size]? = some (.cells (frmV f (.slice Af m cf)).toArray 29 (0, 0)) := by rw [hw2]; exact heap_alloc_new _ _
  have sw2 : w2.heap.size = w1.heap.size + 1 := by rw [hw2]; simp
  rw [← hw2]
  clear hw2
  obtain ⟨g3, hg3⟩ : ∃ g, w1.heap.size = g := ⟨_, rfl⟩
  rw [hg3] at h3
  have H3 := Lib.hid h3
  have H2 := Lib.hid (below_atK hbw2 H2.out)
  have b3 : w.heap.size ≤ g3 := by omega
  have n23 : g2 ≠ g3 := by omega
  have l3 : g3 < w2.heap.size := by omega
  have l22 : g2 < w2.heap.size := by omega
  rw [hg3]
  clear hg3 h3 sw2
  refine kl_alloc_row 32 sesZero rfl rfl rfl rfl ?_
  obtain ⟨w3, hw3⟩ : ∃ w3, w3 = w2.alloc (.cells zSes.toArray 32) := ⟨_, rfl⟩
  have hbw3 : Below w2.heap.size w2 w3 := by rw [hw3]; exact (Below.refl _ _).alloc (Nat.le_refl _) _
  have h4 : w3.heap[w2.heap.size]? = some (.cells zSes.toArray 32 (0, 0)) := by rw [hw3]; exact heap_alloc_new _ _
  have sw3 : w3.heap.size = w2.heap.size + 1 := by rw [hw3]; simp
  rw [← hw3]
  clear hw3
  obtain ⟨g4, hg4⟩ : ∃ g, w2.heap.size = g := ⟨_, rfl⟩
  rw [hg4] at h4
  have H4 := Lib.hid h4
  have H3 := Lib.hid (below_atK hbw3 H3.out)
  have H2 := Lib.hid (below_atK hbw3 H2.out)
  have b4 : w.heap.size ≤ g4 := by omega
  have n24 : g2 ≠ g4 := by omega
  have n34 : g3 ≠ g4 := by omega
  have l2B : g2 < w3.heap.size := by omega
  have l3B : g3 < w3.heap.size := by omega
  have l4B : g4 < w3.heap.size := by omega
  have wB : w.heap.size ≤ w3.heap.size := by omega
  rw [hg4]
  clear hg4 h4 sw3
  have hb3 := below_two (below_two hbw1 hbw2) hbw3
  clear hbw1 hbw2 hbw3
  (first | refine kl_move rfl rfl (.inl rfl) rfl rfl ?_ | refine kl_move rfl rfl (.inr rfl) rfl rfl ?_ | refine kl_const rfl rfl (.inl rfl) rfl ?_ | refine kl_const rfl rfl (.inr rfl) rfl ?_)
  refine kl_nil ?_
  refine kq_then ?_
  refine kw_seq ?_
  refine kw_region ?_
  refine kl_load_row 32 g2 _ _ _ _ H2.out Try.underlying32 rfl (infoS s _ _ HS.out) rfl rfl rfl rfl rfl ?_
  refine kl_call rfl rfl rfl Try.func32 rfl (by kernel_rfl) rfl ?_
  refine Calls.mono (own_any s D G n w3 (hM.keep (.of_below hb3)) hd hg hn) ?_
  rintro e w4 ⟨D5, G5, rfl, hO, hb4⟩
  refine ⟨_, rfl, ?_⟩
  obtain ⟨gd, cd, rfl, d1, d2, d3, d4⟩ := own_form hO.data h0
  obtain ⟨gg, cg, rfl, e1, e2, e3, e4⟩ := own_form hO.got h0
  have ndg := own_apart (by decide) hO.data hO.got
  have H2 := Lib.hid (below_atK hb4 H2.out)
  refine kl_store_row 32 g2 (sesV s (.slice (some ⟨gd, 0, none⟩) n cd) (.slice (some ⟨gg, 0, none⟩) n cg)).toArray _ _ H2.out (infoS s _ _ HS.out) (sizeS s s _ _ _ _ HS.out HS.out) (sesV_one _ _ _ rfl rfl) rfl rfl rfl rfl rfl ?_
  have hO5 := hO.row l2B (sesV s (.slice (some ⟨gd, 0, none⟩) n cd) (.slice (some ⟨gg, 0, none⟩) n cg)).toArray
  have hbw4 := below_then hb3 hb4 hb3.size
  have hbw := below_setRow hbw4 b2 (sesV s (.slice (some ⟨gd, 0, none⟩) n cd) (.slice (some ⟨gg, 0, none⟩) n cg)).toArray
  have h2 := setRow_block (cs := (sesV s (.slice (some ⟨gd, 0, none⟩) n cd) (.slice (some ⟨gg, 0, none⟩) n cg)).toArray) H2.out
  have h3 : (w4.setRow g2 (sesV s (.slice (some ⟨gd, 0, none⟩) n cd) (.slice (some ⟨gg, 0, none⟩) n cg)).toArray).heap[g3]? = some (.cells (frmV f (.slice Af m cf)).toArray 29 (0, 0)) := by rw [setRow_other _ _ _ _ (Ne.symm n23)]; exact below_atK hb4 H3.out
  have h4 : (w4.setRow g2 (sesV s (.slice (some ⟨gd, 0, none⟩) n cd) (.slice (some ⟨gg, 0, none⟩) n cg)).toArray).heap[g4]? = some (.cells zSes.toArray 32 (0, 0)) := by rw [setRow_other _ _ _ _ (Ne.symm n24)]; exact below_atK hb4 H4.out
  have HO := Lib.hid hO5
  clear hO hO5 hbw4
  generalize w4.setRow g2 (sesV s (.slice (some ⟨gd, 0, none⟩) n cd) (.slice (some ⟨gg, 0, none⟩) n cg)).toArray = w5 at *
  have c0 := ses_cell h2 (ses_0 s _ _)
  have c1 := ses_cell h2 (ses_1 s _ _)
  have c34 := ses_cell h2 (ses_34 s _ _ HS.out)
  have c35 := ses_cell h2 (ses_35 s _ _ HS.out)
  have k1 := frm_cell h3 (frm_1 f _)
  have k3 := frm_cell h3 (frm_3 f _)
  have k36 := frm_cell h3 (frm_36 f _ HF.out)
  rw [hs] at c1
  have HX2 := Lib.hid h2
  have HX3 := Lib.hid h3
  have HX4 := Lib.hid h4
  have HSZ := Lib.hid hs
  have HB := Lib.hid hBf
  have HBW := Lib.hid hbw
  clear h2 h3 h4 hd hg hs hb3 hb4 hM hBf H2 H3 H4
  repeat (first | refine kw_seq ?_ | refine kw_skip ?_ | refine kw_region ?_ | refine kl_nil ?_ | refine kq_then ?_ | refine kq_block ?_ | refine kw_exit ?_ | refine kq_then_exit ?_ | refine kq_block_here rfl ?_ | refine kq_block_far rfl ?_ | refine kq_again_exit ?_ | refine kw_ret ?_ | refine kq_then_ret ?_ | refine kq_block_ret ?_ | refine kq_again_ret ?_ | refine kw_ift rfl ?_ | refine kw_iff rfl ?_ | refine kl_ung rfl rfl ?_ | refine kl_skipg rfl rfl rfl rfl ?_ | refine kl_skipg0 rfl rfl rfl ?_ | (first | refine kl_move rfl rfl (.inl rfl) rfl rfl ?_ | refine kl_move rfl rfl (.inr rfl) rfl rfl ?_ | refine kl_const rfl rfl (.inl rfl) rfl ?_ | refine kl_const rfl rfl (.inr rfl) rfl ?_) | ((first | refine kl_step rfl rfl rfl fun K hK => ?_ | refine kl_step0 rfl rfl rfl fun K hK => ?_); go_simp; (try go_bits); (first | refine hK _ _ ?_ | refine hK _ ?_); clear hK K))
  simp only [Int.lt_irrefl, if_false]
  refine KW.less [2, 3, 4, 5, 6] ?_
  simp only [nrm, lk, Nat.reduceBEq, cond_true, cond_false]
  clear c1 c34 c35
  by_cases hid : f.id = s.id
  case neg =>
    have hE : chunkE s f = 2 := if_pos hid
    have HE := Lib.hid hE
    have t1 : (f.id != s.id) = true := by rw [bne_iff_ne]; exact hid
    clear hid hE
    repeat (first | refine kw_seq ?_ | refine kw_block ?_ | refine kw_skip ?_ | refine kw_region ?_ | refine kl_nil ?_ | refine kq_then ?_ | refine kq_block ?_ | refine kw_exit ?_ | refine kq_then_exit ?_ | refine kq_block_here rfl ?_ | refine kq_block_far rfl ?_ | refine kq_again_exit ?_ | refine kw_ret ?_ | refine kq_then_ret ?_ | refine kq_block_ret ?_ | refine kq_again_ret ?_ | refine kw_ift rfl ?_ | refine kw_iff rfl ?_ | refine kl_ung rfl rfl ?_ | refine kl_skipg rfl rfl rfl rfl ?_ | refine kl_skipg0 rfl rfl rfl ?_ | (first | refine kl_move rfl rfl (.inl rfl) rfl rfl ?_ | refine kl_move rfl rfl (.inr rfl) rfl rfl ?_ | refine kl_const rfl rfl (.inl rfl) rfl ?_ | refine kl_const rfl rfl (.inr rfl) rfl ?_) | ((first | refine kl_step rfl rfl rfl fun K hK => ?_ | refine kl_step0 rfl rfl rfl fun K hK => ?_); go_simp; (try go_bits); (first | refine hK _ _ ?_ | refine hK _ ?_); clear hK K))
    refine kl_load_row 32 g2 _ _ _ _ HX2.out Try.underlying32 rfl (infoS s _ _ HS.out) rfl rfl rfl rfl rfl ?_
    refine kl_store_row 32 g4 _ _ zSes.toArray HX4.out (infoS s _ _ HS.out) (sizeZ s _ _ HS.out) (sesV_one _ _ _ rfl rfl) rfl rfl rfl rfl rfl ?_
    repeat (first | refine kw_seq ?_ | refine kw_block ?_ | refine kw_skip ?_ | refine kw_region ?_ | refine kl_nil ?_ | refine kq_then ?_ | refine kq_block ?_ | refine kw_exit ?_ | refine kq_then_exit ?_ | refine kq_block_here rfl ?_ | refine kq_block_far rfl ?_ | refine kq_again_exit ?_ | refine kw_ret ?_ | refine kq_then_ret ?_ | refine kq_block_ret ?_ | refine kq_again_ret ?_ | refine kw_ift rfl ?_ | refine kw_iff rfl ?_ | refine kl_ung rfl rfl ?_ | refine kl_skipg rfl rfl rfl rfl ?_ | refine kl_skipg0 rfl rfl rfl ?_ | (first | refine kl_move rfl rfl (.inl rfl) rfl rfl ?_ | refine kl_move rfl rfl (.inr rfl) rfl rfl ?_ | refine kl_const rfl rfl (.inl rfl) rfl ?_ | refine kl_const rfl rfl (.inr rfl) rfl ?_) | ((first | refine kl_step rfl rfl rfl fun K hK => ?_ | refine kl_step0 rfl rfl rfl fun K hK => ?_); go_simp; (try go_bits); (first | refine hK _ _ ?_ | refine hK _ ?_); clear hK K))
    refine kq_retv (v := .tuple #[.agg (sesV s (.slice (some ⟨gd, 0, none⟩) n cd) (.slice (some ⟨gg, 0, none⟩) n cg)).toArray, .int .i64 2]) (fun a k => results_row_tmp rfl _ _ g4 32 _ (0, 0) _ _ (k.slot 4 rfl) (k.slot 5 rfl) (setRow_block HX4.out) Try.underlying32 rfl (infoS s _ _ HS.out)) ?_
    exact ⟨_, _, by rw [chunkS_err (by rw [HE.out]; decide), HE.out], by rw [chunkS_err (by rw [HE.out]; decide)]; exact own_ses (HO.out.row l4B _), below_setRow hbw b4 _, (Fr.own HO.out.data).mono wB, (Fr.own HO.out.got).mono wB, Ty.own (HO.out.row l4B _).data, Ty.own (HO.out.row l4B _).got⟩
  have t1 : (f.id != s.id) = false := by rw [hid]; simp
  by_cases hbad : argBad s f
  · have hE : chunkE s f = 1 := by unfold chunkE; rw [if_neg (by simpa using hid), if_pos hbad]
    have HE := Lib.hid hE
    have hcase : ((m : Int) == 0) = true ∨ (((m : Int) == 0) = false ∧ decide (f.at_ < 0) = true) ∨ (((m : Int) == 0) = false ∧ decide (f.at_ < 0) = false ∧ decide (n < m) = true) ∨
        (((m : Int) == 0) = false ∧ decide (f.at_ < 0) = false ∧ decide (n < m) = false ∧ decide ((n : Int) - m < f.at_) = true) := by
      unfold argBad at hbad
      rw [HM.out, HSZ.out] at hbad
      rw [beq_iff_eq, beq_eq_false_iff_ne]
      simp only [decide_eq_true_eq, decide_eq_false_iff_not]
      omega
    clear hbad hE hid
    rcases hcase with t2 | ⟨t2, t3⟩ | ⟨t2, t3, t4⟩ | ⟨t2, t3, t4, t5⟩
    · repeat (first | refine kw_seq ?_ | refine kw_block ?_ | refine kw_skip ?_ | refine kw_region ?_ | refine kl_nil ?_ | refine kq_then ?_ | refine kq_block ?_ | refine kw_exit ?_ | refine kq_then_exit ?_ | refine kq_block_here rfl ?_ | refine kq_block_far rfl ?_ | refine kq_again_exit ?_ | refine kw_ret ?_ | refine kq_then_ret ?_ | refine kq_block_ret ?_ | refine kq_again_ret ?_ | refine kw_ift rfl ?_ | refine kw_iff rfl ?_ | refine kl_ung rfl rfl ?_ | refine kl_skipg rfl rfl rfl rfl ?_ | refine kl_skipg0 rfl rfl rfl ?_ | (first | refine kl_move rfl rfl (.inl rfl) rfl rfl ?_ | refine kl_move rfl rfl (.inr rfl) rfl rfl ?_ | refine kl_const rfl rfl (.inl rfl) rfl ?_ | refine kl_const rfl rfl (.inr rfl) rfl ?_) | ((first | refine kl_step rfl rfl rfl fun K hK => ?_ | refine kl_step0 rfl rfl rfl fun K hK => ?_); go_simp; (try go_bits); (first | refine hK _ _ ?_ | refine hK _ ?_); clear hK K))
      refine kl_load_row 32 g2 _ _ _ _ HX2.out Try.underlying32 rfl (infoS s _ _ HS.out) rfl rfl rfl rfl rfl ?_
      refine kl_store_row 32 g4 _ _ zSes.toArray HX4.out (infoS s _ _ HS.out) (sizeZ s _ _ HS.out) (sesV_one _ _ _ rfl rfl) rfl rfl rfl rfl rfl ?_
      repeat (first | refine kw_seq ?_ | refine kw_block ?_ | refine kw_skip ?_ | refine kw_region ?_ | refine kl_nil ?_ | refine kq_then ?_ | refine kq_block ?_ | refine kw_exit ?_ | refine kq_then_exit ?_ | refine kq_block_here rfl ?_ | refine kq_block_far rfl ?_ | refine kq_again_exit ?_ | refine kw_ret ?_ | refine kq_then_ret ?_ | refine kq_block_ret ?_ | refine kq_again_ret ?_ | refine kw_ift rfl ?_ | refine kw_iff rfl ?_ | refine kl_ung rfl rfl ?_ | refine kl_skipg rfl rfl rfl rfl ?_ | refine kl_skipg0 rfl rfl rfl ?_ | (first | refine kl_move rfl rfl (.inl rfl) rfl rfl ?_ | refine kl_move rfl rfl (.inr rfl) rfl rfl ?_ | refine kl_const rfl rfl (.inl rfl) rfl ?_ | refine kl_const rfl rfl (.inr rfl) rfl ?_) | ((first | refine kl_step rfl rfl rfl fun K hK => ?_ | refine kl_step0 rfl rfl rfl fun K hK => ?_); go_simp; (try go_bits); (first | refine hK _ _ ?_ | refine hK _ ?_); clear hK K))
      refine kq_retv (v := .tuple #[.agg (sesV s (.slice (some ⟨gd, 0, none⟩) n cd) (.slice (some ⟨gg, 0, none⟩) n cg)).toArray, .int .i64 1]) (fun a k => results_row_tmp rfl _ _ g4 32 _ (0, 0) _ _ (k.slot 4 rfl) (k.slot 5 rfl) (setRow_block HX4.out) Try.underlying32 rfl (infoS s _ _ HS.out)) ?_
      exact ⟨_, _, by rw [chunkS_err (by rw [HE.out]; decide), HE.out], by rw [chunkS_err (by rw [HE.out]; decide)]; exact own_ses (HO.out.row l4B _), below_setRow hbw b4 _, (Fr.own HO.out.data).mono wB, (Fr.own HO.out.got).mono wB, Ty.own (HO.out.row l4B _).data, Ty.own (HO.out.row l4B _).got⟩
    · repeat (first | refine kw_seq ?_ | refine kw_block ?_ | refine kw_skip ?_ | refine kw_region ?_ | refine kl_nil ?_ | refine kq_then ?_ | refine kq_block ?_ | refine kw_exit ?_ | refine kq_then_exit ?_ | refine kq_block_here rfl ?_ | refine kq_block_far rfl ?_ | refine kq_again_exit ?_ | refine kw_ret ?_ | refine kq_then_ret ?_ | refine kq_block_ret ?_ | refine kq_again_ret ?_ | refine kw_ift rfl ?_ | refine kw_iff rfl ?_ | refine kl_ung rfl rfl ?_ | refine kl_skipg rfl rfl rfl rfl ?_ | refine kl_skipg0 rfl rfl rfl ?_ | (first | refine kl_move rfl rfl (.inl rfl) rfl rfl ?_ | refine kl_move rfl rfl (.inr rfl) rfl rfl ?_ | refine kl_const rfl rfl (.inl rfl) rfl ?_ | refine kl_const rfl rfl (.inr rfl) rfl ?_) | ((first | refine kl_step rfl rfl rfl fun K hK => ?_ | refine kl_step0 rfl rfl rfl fun K hK => ?_); go_simp; (try go_bits); (first | refine hK _ _ ?_ | refine hK _ ?_); clear hK K))
      refine kl_load_row 32 g2 _ _ _ _ HX2.out Try.underlying32 rfl (infoS s _ _ HS.out) rfl rfl rfl rfl rfl ?_
      refine kl_store_row 32 g4 _ _ zSes.toArray HX4.out (infoS s _ _ HS.out) (sizeZ s _ _ HS.out) (sesV_one _ _ _ rfl rfl) rfl rfl rfl rfl rfl ?_
      repeat (first | refine kw_seq ?_ | refine kw_block ?_ | refine kw_skip ?_ | refine kw_region ?_ | refine kl_nil ?_ | refine kq_then ?_ | refine kq_block ?_ | refine kw_exit ?_ | refine kq_then_exit ?_ | refine kq_block_here rfl ?_ | refine kq_block_far rfl ?_ | refine kq_again_exit ?_ | refine kw_ret ?_ | refine kq_then_ret ?_ | refine kq_block_ret ?_ | refine kq_again_ret ?_ | refine kw_ift rfl ?_ | refine kw_iff rfl ?_ | refine kl_ung rfl rfl ?_ | refine kl_skipg rfl rfl rfl rfl ?_ | refine kl_skipg0 rfl rfl rfl ?_ | (first | refine kl_move rfl rfl (.inl rfl) rfl rfl ?_ | refine kl_move rfl rfl (.inr rfl) rfl rfl ?_ | refine kl_const rfl rfl (.inl rfl) rfl ?_ | refine kl_const rfl rfl (.inr rfl) rfl ?_) | ((first | refine kl_step rfl rfl rfl fun K hK => ?_ | refine kl_step0 rfl rfl rfl fun K hK => ?_); go_simp; (try go_bits); (first | refine hK _ _ ?_ | refine hK _ ?_); clear hK K))
      refine kq_retv (v := .tuple #[.agg (sesV s (.slice (some ⟨gd, 0, none⟩) n cd) (.slice (some ⟨gg, 0, none⟩) n cg)).toArray, .int .i64 1]) (fun a k => results_row_tmp rfl _ _ g4 32 _ (0, 0) _ _ (k.slot 4 rfl) (k.slot 5 rfl) (setRow_block HX4.out) Try.underlying32 rfl (infoS s _ _ HS.out)) ?_
      exact ⟨_, _, by rw [chunkS_err (by rw [HE.out]; decide), HE.out], by rw [chunkS_err (by rw [HE.out]; decide)]; exact own_ses (HO.out.row l4B _), below_setRow hbw b4 _, (Fr.own HO.out.data).mono wB, (Fr.own HO.out.got).mono wB, Ty.own (HO.out.row l4B _).data, Ty.own (HO.out.row l4B _).got⟩
    · repeat (first | refine kw_seq ?_ | refine kw_block ?_ | refine kw_skip ?_ | refine kw_region ?_ | refine kl_nil ?_ | refine kq_then ?_ | refine kq_block ?_ | refine kw_exit ?_ | refine kq_then_exit ?_ | refine kq_block_here rfl ?_ | refine kq_block_far rfl ?_ | refine kq_again_exit ?_ | refine kw_ret ?_ | refine kq_then_ret ?_ | refine kq_block_ret ?_ | refine kq_again_ret ?_ | refine kw_ift rfl ?_ | refine kw_iff rfl ?_ | refine kl_ung rfl rfl ?_ | refine kl_skipg rfl rfl rfl rfl ?_ | refine kl_skipg0 rfl rfl rfl ?_ | (first | refine kl_move rfl rfl (.inl rfl) rfl rfl ?_ | refine kl_move rfl rfl (.inr rfl) rfl rfl ?_ | refine kl_const rfl rfl (.inl rfl) rfl ?_ | refine kl_const rfl rfl (.inr rfl) rfl ?_) | ((first | refine kl_step rfl rfl rfl fun K hK => ?_ | refine kl_step0 rfl rfl rfl fun K hK => ?_); go_simp; (try go_bits); (first | refine hK _ _ ?_ | refine hK _ ?_); clear hK K))
      refine kl_load_row 32 g2 _ _ _ _ HX2.out Try.underlying32 rfl (infoS s _ _ HS.out) rfl rfl rfl rfl rfl ?_
      refine kl_store_row 32 g4 _ _ zSes.toArray HX4.out (infoS s _ _ HS.out) (sizeZ s _ _ HS.out) (sesV_one _ _ _ rfl rfl) rfl rfl rfl rfl rfl ?_
      repeat (first | refine kw_seq ?_ | refine kw_block ?_ | refine kw_skip ?_ | refine kw_region ?_ | refine kl_nil ?_ | refine kq_then ?_ | refine kq_block ?_ | refine kw_exit ?_ | refine kq_then_exit ?_ | refine kq_block_here rfl ?_ | refine kq_block_far rfl ?_ | refine kq_again_exit ?_ | refine kw_ret ?_ | refine kq_then_ret ?_ | refine kq_block_ret ?_ | refine kq_again_ret ?_ | refine kw_ift rfl ?_ | refine kw_iff rfl ?_ | refine kl_ung rfl rfl ?_ | refine kl_skipg rfl rfl rfl rfl ?_ | refine kl_skipg0 rfl rfl rfl ?_ | (first | refine kl_move rfl rfl (.inl rfl) rfl rfl ?_ | refine kl_move rfl rfl (.inr rfl) rfl rfl ?_ | refine kl_const rfl rfl (.inl rfl) rfl ?_ | refine kl_const rfl rfl (.inr rfl) rfl ?_) | ((first | refine kl_step rfl rfl rfl fun K hK => ?_ | refine kl_step0 rfl rfl rfl fun K hK => ?_); go_simp; (try go_bits); (first | refine hK _ _ ?_ | refine hK _ ?_); clear hK K))
      refine kq_retv (v := .tuple #[.agg (sesV s (.slice (some ⟨gd, 0, none⟩) n cd) (.slice (some ⟨gg, 0, none⟩) n cg)).toArray, .int .i64 1]) (fun a k => results_row_tmp rfl _ _ g4 32 _ (0, 0) _ _ (k.slot 4 rfl) (k.slot 5 rfl) (setRow_block HX4.out) Try.underlying32 rfl (infoS s _ _ HS.out)) ?_
      exact ⟨_, _, by rw [chunkS_err (by rw [HE.out]; decide), HE.out], by rw [chunkS_err (by rw [HE.out]; decide)]; exact own_ses (HO.out.row l4B _), below_setRow hbw b4 _, (Fr.own HO.out.data).mono wB, (Fr.own HO.out.got).mono wB, Ty.own (HO.out.row l4B _).data, Ty.own (HO.out.row l4B _).got⟩
    · have hmn : m ≤ n := by rw [decide_eq_false_iff_not] at t4; omega
      have w1' : IntKind.i64.wrap ((n : Int) - m) = n - m := IntWalk.i64_in _ (by omega)
      repeat (first | refine kw_seq ?_ | refine kw_block ?_ | refine kw_skip ?_ | refine kw_region ?_ | refine kl_nil ?_ | refine kq_then ?_ | refine kq_block ?_ | refine kw_exit ?_ | refine kq_then_exit ?_ | refine kq_block_here rfl ?_ | refine kq_block_far rfl ?_ | refine kq_again_exit ?_ | refine kw_ret ?_ | refine kq_then_ret ?_ | refine kq_block_ret ?_ | refine kq_again_ret ?_ | refine kw_ift rfl ?_ | refine kw_iff rfl ?_ | refine kl_ung rfl rfl ?_ | refine kl_skipg rfl rfl rfl rfl ?_ | refine kl_skipg0 rfl rfl rfl ?_ | (first | refine kl_move rfl rfl (.inl rfl) rfl rfl ?_ | refine kl_move rfl rfl (.inr rfl) rfl rfl ?_ | refine kl_const rfl rfl (.inl rfl) rfl ?_ | refine kl_const rfl rfl (.inr rfl) rfl ?_) | ((first | refine kl_step rfl rfl rfl fun K hK => ?_ | refine kl_step0 rfl rfl rfl fun K hK => ?_); go_simp; (try go_bits); (first | refine hK _ _ ?_ | refine hK _ ?_); clear hK K))
      refine kl_load_row 32 g2 _ _ _ _ HX2.out Try.underlying32 rfl (infoS s _ _ HS.out) rfl rfl rfl rfl rfl ?_
      refine kl_store_row 32 g4 _ _ zSes.toArray HX4.out (infoS s _ _ HS.out) (sizeZ s _ _ HS.out) (sesV_one _ _ _ rfl rfl) rfl rfl rfl rfl rfl ?_
      repeat (first | refine kw_seq ?_ | refine kw_block ?_ | refine kw_skip ?_ | refine kw_region ?_ | refine kl_nil ?_ | refine kq_then ?_ | refine kq_block ?_ | refine kw_exit ?_ | refine kq_then_exit ?_ | refine kq_block_here rfl ?_ | refine kq_block_far rfl ?_ | refine kq_again_exit ?_ | refine kw_ret ?_ | refine kq_then_ret ?_ | refine kq_block_ret ?_ | refine kq_again_ret ?_ | refine kw_ift rfl ?_ | refine kw_iff rfl ?_ | refine kl_ung rfl rfl ?_ | refine kl_skipg rfl rfl rfl rfl ?_ | refine kl_skipg0 rfl rfl rfl ?_ | (first | refine kl_move rfl rfl (.inl rfl) rfl rfl ?_ | refine kl_move rfl rfl (.inr rfl) rfl rfl ?_ | refine kl_const rfl rfl (.inl rfl) rfl ?_ | refine kl_const rfl rfl (.inr rfl) rfl ?_) | ((first | refine kl_step rfl rfl rfl fun K hK => ?_ | refine kl_step0 rfl rfl rfl fun K hK => ?_); go_simp; (try go_bits); (first | refine hK _ _ ?_ | refine hK _ ?_); clear hK K))
      refine kq_retv (v := .tuple #[.agg (sesV s (.slice (some ⟨gd, 0, none⟩) n cd) (.slice (some ⟨gg, 0, none⟩) n cg)).toArray, .int .i64 1]) (fun a k => results_row_tmp rfl _ _ g4 32 _ (0, 0) _ _ (k.slot 4 rfl) (k.slot 5 rfl) (setRow_block HX4.out) Try.underlying32 rfl (infoS s _ _ HS.out)) ?_
      exact ⟨_, _, by rw [chunkS_err (by rw [HE.out]; decide), HE.out], by rw [chunkS_err (by rw [HE.out]; decide)]; exact own_ses (HO.out.row l4B _), below_setRow hbw b4 _, (Fr.own HO.out.data).mono wB, (Fr.own HO.out.got).mono wB, Ty.own (HO.out.row l4B _).data, Ty.own (HO.out.row l4B _).got⟩
  have hge : 0 ≤ f.at_ := by unfold argBad at hbad; omega
  obtain ⟨a, hfa⟩ : ∃ a : Nat, f.at_ = a := ⟨f.at_.toNat, by omega⟩
  have hnb : ¬ argBad s f := hbad
  unfold argBad at hbad
  rw [HM.out, HSZ.out, hfa] at hbad
  have hm0 : 0 < m := by omega
  have hmn : m ≤ n := by omega
  have ham : a + m ≤ n := by omega
  have t2 : ((m : Int) == 0) = false := by rw [beq_eq_false_iff_ne]; omega
  have t3 : decide ((a : Int) < 0) = false := by rw [decide_eq_false_iff_not]; omega
  have t4 : decide (n < m) = false := by rw [decide_eq_false_iff_not]; omega
  have w1' : IntKind.i64.wrap ((n : Int) - m) = n - m := IntWalk.i64_in _ (by omega)
  have t5 : decide ((n : Int) - m < a) = false := by rw [decide_eq_false_iff_not]; omega
  have hE : clash s f = true → chunkE s f = 10 := fun h => by unfold chunkE; rw [if_neg (by simpa using hid), if_neg hnb, if_pos h]
  have hE0 : clash s f = false → chunkE s f = 0 := fun h => by unfold chunkE; rw [if_neg (by simpa using hid), if_neg hnb, if_neg (by rw [h]; simp)]
  have HE := Lib.hid hE
  have HE0 := Lib.hid hE0
  rw [hfa] at k3
  have HFA := Lib.hid hfa
  clear hE hE0 hnb hbad hid hge hfa
  refine kw_block ?_
  repeat (first | refine kw_seq ?_ | refine kw_skip ?_ | refine kw_region ?_ | refine kl_nil ?_ | refine kq_then ?_ | refine kq_block ?_ | refine kw_exit ?_ | refine kq_then_exit ?_ | refine kq_block_here rfl ?_ | refine kq_block_far rfl ?_ | refine kq_again_exit ?_ | refine kw_ret ?_ | refine kq_then_ret ?_ | refine kq_block_ret ?_ | refine kq_again_ret ?_ | refine kw_ift rfl ?_ | refine kw_iff rfl ?_ | refine kl_ung rfl rfl ?_ | refine kl_skipg rfl rfl rfl rfl ?_ | refine kl_skipg0 rfl rfl rfl ?_ | (first | refine kl_move rfl rfl (.inl rfl) rfl rfl ?_ | refine kl_move rfl rfl (.inr rfl) rfl rfl ?_ | refine kl_const rfl rfl (.inl rfl) rfl ?_ | refine kl_const rfl rfl (.inr rfl) rfl ?_) | ((first | refine kl_step rfl rfl rfl fun K hK => ?_ | refine kl_step0 rfl rfl rfl fun K hK => ?_); go_simp; (try go_bits); (first | refine hK _ _ ?_ | refine hK _ ?_); clear hK K))
  clear t1 t2 t3 t4 t5 w1' c0 k1 k3 k36
  have hbw := HBW.out
  refine KW.less [2, 3, 4, 58, 59, 60] ?_
  simp only [nrm, lk, Nat.reduceBEq, cond_true, cond_false]
  have hCh : ChM w w3.heap.size n m s f g2 g3 g4 gd gg cd cg (.slice Af m cf) Af cf s.data s.got w5 := ⟨hbw, HX2.out, HX3.out, HX4.out, HO.out.data, HO.out.got, HB.out.keep (.of_below hbw)⟩
  have HCH := Lib.hid hCh
  refine chunk_loop1 rfl d3 d4 e3 e4 hmc hcf hn ham HFA.out HS HF HD HG HM HCH.out (fun hc => ?_) (fun hc => ?_)
  · have hcE := HE.out hc
    have HC := Lib.hid hcE
    clear hcE hc hCh
    repeat (first | refine kw_seq ?_ | refine kw_block ?_ | refine kw_skip ?_ | refine kw_region ?_ | refine kl_nil ?_ | refine kq_then ?_ | refine kq_block ?_ | refine kw_exit ?_ | refine kq_then_exit ?_ | refine kq_block_here rfl ?_ | refine kq_block_far rfl ?_ | refine kq_again_exit ?_ | refine kw_ret ?_ | refine kq_then_ret ?_ | refine kq_block_ret ?_ | refine kq_again_ret ?_ | refine kw_ift rfl ?_ | refine kw_iff rfl ?_ | refine kl_ung rfl rfl ?_ | refine kl_skipg rfl rfl rfl rfl ?_ | refine kl_skipg0 rfl rfl rfl ?_ | (first | refine kl_move rfl rfl (.inl rfl) rfl rfl ?_ | refine kl_move rfl rfl (.inr rfl) rfl rfl ?_ | refine kl_const rfl rfl (.inl rfl) rfl ?_ | refine kl_const rfl rfl (.inr rfl) rfl ?_) | ((first | refine kl_step rfl rfl rfl fun K hK => ?_ | refine kl_step0 rfl rfl rfl fun K hK => ?_); go_simp; (try go_bits); (first | refine hK _ _ ?_ | refine hK _ ?_); clear hK K))
    refine kq_retv (v := .tuple #[.agg (sesV s (.slice (some ⟨gd, 0, none⟩) n cd) (.slice (some ⟨gg, 0, none⟩) n cg)).toArray, .int .i64 10]) (fun a k => results_row_tmp rfl _ _ g4 32 _ (0, 0) _ _ (k.slot 4 rfl) (k.slot 5 rfl) (setRow_block HX4.out) Try.underlying32 rfl (infoS s _ _ HS.out)) ?_
    exact ⟨_, _, by rw [chunkS_err (by rw [HC.out]; decide), HC.out], by rw [chunkS_err (by rw [HC.out]; decide)]; exact own_ses (HO.out.row l4B _), below_setRow hbw b4 _, (Fr.own HO.out.data).mono wB, (Fr.own HO.out.got).mono wB, Ty.own (HO.out.row l4B _).data, Ty.own (HO.out.row l4B _).got⟩
  have hcE := HE0.out hc
  have HC := Lib.hid hcE
  clear hcE hc hCh
  have k36 := frm_cell HX3.out (frm_36 f _ HF.out)
  repeat (first | refine kw_seq ?_ | refine kw_skip ?_ | refine kw_region ?_ | refine kl_nil ?_ | refine kq_then ?_ | refine kq_block ?_ | refine kw_exit ?_ | refine kq_then_exit ?_ | refine kq_block_here rfl ?_ | refine kq_block_far rfl ?_ | refine kq_again_exit ?_ | refine kw_ret ?_ | refine kq_then_ret ?_ | refine kq_block_ret ?_ | refine kq_again_ret ?_ | refine kw_ift rfl ?_ | refine kw_iff rfl ?_ | refine kl_ung rfl rfl ?_ | refine kl_skipg rfl rfl rfl rfl ?_ | refine kl_skipg0 rfl rfl rfl ?_ | (first | refine kl_move rfl rfl (.inl rfl) rfl rfl ?_ | refine kl_move rfl rfl (.inr rfl) rfl rfl ?_ | refine kl_const rfl rfl (.inl rfl) rfl ?_ | refine kl_const rfl rfl (.inr rfl) rfl ?_) | ((first | refine kl_step rfl rfl rfl fun K hK => ?_ | refine kl_step0 rfl rfl rfl fun K hK => ?_); go_simp; (try go_bits); (first | refine hK _ _ ?_ | refine hK _ ?_); clear hK K))
  clear k36
  refine KW.less [2, 3, 4, 88, 89, 90] ?_
  simp only [nrm, lk, Nat.reduceBEq, cond_true, cond_false]
  have ha : ChA w w3.heap.size g2 g3 g4 gd gg := ⟨by omega, by omega, by omega, by omega, by omega, by omega, n24, ndg, b2, b4, by omega, by omega⟩
  refine chunk_loop2 ha (fun b o e => HLF.out b o hm0 e) rfl d3 d4 e3 e4 hmc hcf hn ham HFA.out HS HF HD HG HM HCH.out (fun w6 h6 => ?_)
  have H6 := Lib.hid h6
  clear h6
  refine kq_then ?_
  refine kw_seq ?_
  refine kw_region ?_
  refine kl_load_row 32 g2 _ _ _ _ H6.out.h2 Try.underlying32 rfl (infoS s _ _ HS.out) rfl rfl rfl rfl rfl ?_
  refine kl_store_row 32 g4 _ _ zSes.toArray H6.out.h4 (infoS s _ _ HS.out) (sizeZ s _ _ HS.out) (sesV_one _ _ _ rfl rfl) rfl rfl rfl rfl rfl ?_
  repeat (first | refine kw_seq ?_ | refine kw_block ?_ | refine kw_skip ?_ | refine kw_region ?_ | refine kl_nil ?_ | refine kq_then ?_ | refine kq_block ?_ | refine kw_exit ?_ | refine kq_then_exit ?_ | refine kq_block_here rfl ?_ | refine kq_block_far rfl ?_ | refine kq_again_exit ?_ | refine kw_ret ?_ | refine kq_then_ret ?_ | refine kq_block_ret ?_ | refine kq_again_ret ?_ | refine kw_ift rfl ?_ | refine kw_iff rfl ?_ | refine kl_ung rfl rfl ?_ | refine kl_skipg rfl rfl rfl rfl ?_ | refine kl_skipg0 rfl rfl rfl ?_ | (first | refine kl_move rfl rfl (.inl rfl) rfl rfl ?_ | refine kl_move rfl rfl (.inr rfl) rfl rfl ?_ | refine kl_const rfl rfl (.inl rfl) rfl ?_ | refine kl_const rfl rfl (.inr rfl) rfl ?_) | ((first | refine kl_step rfl rfl rfl fun K hK => ?_ | refine kl_step0 rfl rfl rfl fun K hK => ?_); go_simp; (try go_bits); (first | refine hK _ _ ?_ | refine hK _ ?_); clear hK K))
  refine kq_retv (v := .tuple #[.agg (sesV s (.slice (some ⟨gd, 0, none⟩) n cd) (.slice (some ⟨gg, 0, none⟩) n cg)).toArray, .int .i64 0]) (fun a k => results_row_tmp rfl _ _ g4 32 _ (0, 0) _ _ (k.slot 4 rfl) (k.slot 5 rfl) (setRow_block H6.out.h4) Try.underlying32 rfl (infoS s _ _ HS.out)) ?_
  have hSS : chunkS s f = { s with data := layK s.data a f.data m, got := layK s.got a (List.replicate m true) m } := by
    have ha' : f.at_.toNat = a := by have := HFA.out; omega
    unfold chunkS
    rw [if_pos HC.out, ha', HM.out]
  refine ⟨_, _, by rw [hSS, HC.out]; rfl, ?_, below_setRow H6.out.below b4 _, (Fr.own HO.out.data).mono wB, (Fr.own HO.out.got).mono wB, Ty.own (own_setRow H6.out.data l4B _), Ty.own (own_setRow H6.out.got l4B _)⟩
  rw [hSS]
  exact own_ses (B := w3.heap.size) (n := n) ⟨HMM.out.id, HMM.out.size, HS.out, own_setRow H6.out.data l4B _, own_setRow H6.out.got l4B _⟩
theorem chunk_any (s : Ses) (D G : Value) (f : Frm) (DF : Value) (n : Nat) (w : World) (hM : SesM w s D G) (hFM : FrmM w f DF) (hs : s.size = n) (hd : s.data.length = n) (hg : s.got.length = n) (h0 : 0 < n) (hn : n ≤ 1000000) :
    Calls Try.prog 16 #[.agg (sesV s D G).toArray, .agg (frmV f DF).toArray] w (ChunkP s f w) :=
  Calls.mono (chunk_own s D G f DF n w hM hFM hs hd hg h0 hn) fun _ _ h => by
    obtain ⟨D', G', e, h1, h2, h3, h4, _⟩ := h
    exact ⟨D', G', e, h1, h2, h3, h4⟩
end Go.Proofs.Ytkgenkkcgegcbaa
