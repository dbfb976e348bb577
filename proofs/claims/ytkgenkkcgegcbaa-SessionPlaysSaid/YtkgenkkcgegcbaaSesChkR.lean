/- The document's Chunk (chapter 17). -/
import Derived.Test.YtkgenkkcgegcbaaSesChkR2
import Derived.Test.YtkgenkkcgegcbaaKnOps
namespace Go.Proofs.Ytkgenkkcgegcbaa
open Go.RowKit
attribute [local go_sem] ev_tmp ev_const ev_func ev_global lk_hit lk_miss uponK_value uponK_skip look_tmp look_const look_global look_func valP_value
def ChunkQ (s : Ses) (D G : Value) (f : Frm) (w : World) (e : Ending) (w' : World) : Prop := ∃ D' G', e = .returned (.tuple #[.agg (sesV (chunkS s f) D' G').toArray, .int .i64 (chunkE s f)]) ∧ SesM w' (chunkS s f) D' G' ∧ Below w.heap.size w w' ∧ (D' = D ∨ Fr w.heap.size D') ∧ (G' = G ∨ Fr w.heap.size G')
theorem ChunkQ_err {s : Ses} {f : Frm} {w w' : World} {D G : Value} {x : Int} (hE : chunkE s f = x) (hx : x ≠ 0) (hM : SesM w' s D G) (hb : Below w.heap.size w w') : ChunkQ s D G f w (.returned (.tuple #[.agg (sesV s D G).toArray, .int .i64 x])) w' := by
  subst hE
  refine ⟨D, G, ?_, ?_, hb, .inl rfl, .inl rfl⟩
  · rw [chunkS_err hx]
  · rw [chunkS_err hx]; exact hM
set_option maxRecDepth 100000 in
set_option maxHeartbeats 2000000 in
theorem chunkR_any (s : Ses) (D G : Value) (f : Frm) (DF : Value) (n : Nat) (w : World) (hM : SesM w s D G) (hFM : FrmM w f DF) (hs : s.size = n) (hd : s.data.length = n) (hg : s.got.length = n) (h0 : 0 < n) (hn : n ≤ 1000000) :
    Calls Try.prog 17 #[.agg (sesV s D G).toArray, .agg (frmV f DF).toArray] w (ChunkQ s D G f w) := by
  have HS := Lib.hid hM.sum
  have HFS := Lib.hid hFM.sum
  have hfat := hFM.at_
  obtain ⟨AD, nD, cD, eD, hBD, hD1, hD2⟩ := hM.data
  obtain ⟨AG, nG, cG, eG, hBG, hG1, hG2⟩ := hM.got
  obtain ⟨AF, m, cF, eF, hBF, hF1, hF2⟩ := hFM.data
  have enD : nD = n := by rw [← hBD.len]; exact hd
  have enG : nG = n := by have := hBG.1; rw [length_bls, hg] at this; exact this.symm
  have enF : f.data.length = m := hBF.len
  subst eD
  subst eG
  subst eF
  subst enD
  subst enG
  have HD := Lib.hid hd
  have HG := Lib.hid hg
  have HM := Lib.hid enF
  have ltD : ∀ b o, AD = some ⟨b, o, none⟩ → b < w.heap.size := fun b o e => by subst e; exact bs_lt hBD h0
  have ltG : ∀ b o, AG = some ⟨b, o, none⟩ → b < w.heap.size := fun b o e => by
    subst e
    obtain ⟨b', o', u, e', hc, _⟩ := Vs.next hBG h0
    injection e' with e'; injection e' with e' _
    subst e'
    exact World.block_lt_of_cell? w _ hc
  have ltF : 0 < m → ∀ b o, AF = some ⟨b, o, none⟩ → b < w.heap.size := fun h b o e => by subst e; exact bs_lt hBF h
  have HLD := Lib.hid ltD
  have HLG := Lib.hid ltG
  have HLF := Lib.hid ltF
  have HBD := Lib.hid hBD
  have HBG := Lib.hid hBG
  have HSM := Lib.hid hM
  have HFM := Lib.hid hFM
  clear hd hg enF ltD ltG ltF hBD hBG hBF hM hFM
  refine calls_kw Try.func17 rfl Try.ntmps17 rfl [(0, .agg (sesV s (.slice AD nG cD) (.slice AG nG cG)).toArray), (1, .agg (frmV f (.slice AF m cF)).toArray)] rfl ?_
  refine kw_seq ?_
  refine kw_region ?_
  refine kl_boxL (Lay.start w) rfl rfl rfl rfl rfl ?_
  intro g2 w1 eg2 hb1 hL
  refine kl_boxL hL rfl rfl rfl rfl rfl ?_
  intro g3 w2 eg3 hb2 hL
  refine kl_zeroL hL rsesZero rfl rfl rfl rfl ?_
  intro g4 w3 eg4 hb3 hL
  clear eg2 eg3 eg4 hb1 hb2 hb3
  have ge4 := hL.ge 0 rfl
  have hnd : ∀ b o n' c, (Value.slice AD nG cD) = .slice (some ⟨b, o, none⟩) n' c → b ≠ g4 := fun b o n' c e => by injection e with e _ _; have := HLD.out b o e; omega
  have hng : ∀ b o n' c, (Value.slice AG nG cG) = .slice (some ⟨b, o, none⟩) n' c → b ≠ g4 := fun b o n' c e => by injection e with e _ _; have := HLG.out b o e; omega
  have hM3 := HSM.out.keep (.of_below hL.below)
  have hF3 := HFM.out.keep (.of_below hL.below)
  have HC : Hid (CkR w g2 g3 g4 s f (.slice AD nG cD) (.slice AG nG cG) (.slice AF m cF) w3) := ⟨hL, hM3, hF3, hnd, hng⟩
  have HSR : Hid (∀ cs, SesM (w3.setRow g4 cs) s (.slice AD nG cD) (.slice AG nG cG)) := fun cs => ⟨hM3.id, hM3.size, hM3.sum, hM3.data.row hnd _, hM3.got.row hng _⟩
  clear hnd hng hM3 hF3
  have a0 := hL.get (j := 0) 2 rfl (ses_0 s (.slice AD nG cD) (.slice AG nG cG))
  have a1 := hL.get (j := 1) 2 rfl (ses_1 s (.slice AD nG cD) (.slice AG nG cG))
  have p1 := hL.get (j := 1) 1 rfl (frm_1 f (.slice AF m cF))
  have p3 := hL.get (j := 3) 1 rfl (frm_3 f (.slice AF m cF))
  have p36 := hL.get (j := 36) 1 rfl (frm_36 f (.slice AF m cF) HFS.out)
  rw [hs] at a1
  by_cases h1 : f.id = s.id
  case neg =>
    have t1 : (f.id != s.id) = true := by rw [bne_iff_ne]; exact h1
    have hE : chunkE s f = 2 := if_pos h1
    have HE := Lib.hid hE
    clear h1 hE
    repeat (first | refine kw_seq ?_ | refine kw_block ?_ | refine kw_skip ?_ | refine kw_region ?_ | refine kl_nil ?_ | refine kq_then ?_ | refine kq_block ?_ | refine kw_exit ?_ | refine kq_then_exit ?_ | refine kq_block_here rfl ?_ | refine kq_block_far rfl ?_ | refine kq_again_exit ?_ | refine kw_ret ?_ | refine kq_then_ret ?_ | refine kq_block_ret ?_ | refine kq_again_ret ?_ | refine kw_ift rfl ?_ | refine kw_iff rfl ?_ | refine kl_ung rfl rfl ?_ | refine kl_skipg rfl rfl rfl rfl ?_ | refine kl_skipg0 rfl rfl rfl ?_ | refine kl_getL hL 2 rfl Try.underlying36 rfl (rinfoS s _ _ HS.out) rfl rfl rfl rfl rfl ?_ | refine kl_putL (cells := (sesV s (.slice AD nG cD) (.slice AG nG cG)).toArray) hL 0 rfl (rinfoS s _ _ HS.out) (sizeZ s _ _ HS.out) (sesV_one s _ _ rfl rfl) rfl rfl rfl rfl rfl (fun hL2 => ?_) | (first | refine kl_move rfl rfl (.inl rfl) rfl rfl ?_ | refine kl_move rfl rfl (.inr rfl) rfl rfl ?_ | refine kl_const rfl rfl (.inl rfl) rfl ?_ | refine kl_const rfl rfl (.inr rfl) rfl ?_) | ((first | refine kl_step rfl rfl rfl fun K hK => ?_ | refine kl_step0 rfl rfl rfl fun K hK => ?_); go_simp; (try go_bits); (first | refine hK _ _ ?_ | refine hK _ ?_); clear hK K))
    refine kq_retv (fun a k => results_row_tmp rfl _ _ g4 36 (sesV s (.slice AD nG cD) (.slice AG nG cG)).toArray (0, 0) _ _ (k.slot 4 rfl) (k.slot 5 rfl) (hL2.at_ 0 rfl) Try.underlying36 rfl (rinfoS s _ _ HS.out)) ?_
    exact ChunkQ_err HE.out (by decide) (HSR.out _) hL2.below
  have t1 : (f.id != s.id) = false := by rw [h1]; simp
  have X1 := Lib.hid h1
  clear h1
  have ebad : argBad s f → chunkE s f = 1 := fun h => by unfold chunkE; rw [if_neg (fun h => h X1.out), if_pos h]
  have EBAD := Lib.hid ebad
  clear ebad
  by_cases h2 : m = 0
  · subst h2
    have HE := Lib.hid (EBAD.out (.inl HM.out))
    repeat (first | refine kw_seq ?_ | refine kw_block ?_ | refine kw_skip ?_ | refine kw_region ?_ | refine kl_nil ?_ | refine kq_then ?_ | refine kq_block ?_ | refine kw_exit ?_ | refine kq_then_exit ?_ | refine kq_block_here rfl ?_ | refine kq_block_far rfl ?_ | refine kq_again_exit ?_ | refine kw_ret ?_ | refine kq_then_ret ?_ | refine kq_block_ret ?_ | refine kq_again_ret ?_ | refine kw_ift rfl ?_ | refine kw_iff rfl ?_ | refine kl_ung rfl rfl ?_ | refine kl_skipg rfl rfl rfl rfl ?_ | refine kl_skipg0 rfl rfl rfl ?_ | refine kl_getL hL 2 rfl Try.underlying36 rfl (rinfoS s _ _ HS.out) rfl rfl rfl rfl rfl ?_ | refine kl_putL (cells := (sesV s (.slice AD nG cD) (.slice AG nG cG)).toArray) hL 0 rfl (rinfoS s _ _ HS.out) (sizeZ s _ _ HS.out) (sesV_one s _ _ rfl rfl) rfl rfl rfl rfl rfl (fun hL2 => ?_) | (first | refine kl_move rfl rfl (.inl rfl) rfl rfl ?_ | refine kl_move rfl rfl (.inr rfl) rfl rfl ?_ | refine kl_const rfl rfl (.inl rfl) rfl ?_ | refine kl_const rfl rfl (.inr rfl) rfl ?_) | ((first | refine kl_step rfl rfl rfl fun K hK => ?_ | refine kl_step0 rfl rfl rfl fun K hK => ?_); go_simp; (try go_bits); (first | refine hK _ _ ?_ | refine hK _ ?_); clear hK K))
    refine kq_retv (fun a k => results_row_tmp rfl _ _ g4 36 (sesV s (.slice AD nG cD) (.slice AG nG cG)).toArray (0, 0) _ _ (k.slot 4 rfl) (k.slot 5 rfl) (hL2.at_ 0 rfl) Try.underlying36 rfl (rinfoS s _ _ HS.out)) ?_
    exact ChunkQ_err HE.out (by decide) (HSR.out _) hL2.below
  have t2 : ((m : Int) == 0) = false := by rw [beq_eq_false_iff_ne]; omega
  by_cases h3 : f.at_ < 0
  · have t3 : decide (f.at_ < 0) = true := decide_eq_true h3
    have HE := Lib.hid (EBAD.out (.inr (.inl h3)))
    clear h3
    repeat (first | refine kw_seq ?_ | refine kw_block ?_ | refine kw_skip ?_ | refine kw_region ?_ | refine kl_nil ?_ | refine kq_then ?_ | refine kq_block ?_ | refine kw_exit ?_ | refine kq_then_exit ?_ | refine kq_block_here rfl ?_ | refine kq_block_far rfl ?_ | refine kq_again_exit ?_ | refine kw_ret ?_ | refine kq_then_ret ?_ | refine kq_block_ret ?_ | refine kq_again_ret ?_ | refine kw_ift rfl ?_ | refine kw_iff rfl ?_ | refine kl_ung rfl rfl ?_ | refine kl_skipg rfl rfl rfl rfl ?_ | refine kl_skipg0 rfl rfl rfl ?_ | refine kl_getL hL 2 rfl Try.underlying36 rfl (rinfoS s _ _ HS.out) rfl rfl rfl rfl rfl ?_ | refine kl_putL (cells := (sesV s (.slice AD nG cD) (.slice AG nG cG)).toArray) hL 0 rfl (rinfoS s _ _ HS.out) (sizeZ s _ _ HS.out) (sesV_one s _ _ rfl rfl) rfl rfl rfl rfl rfl (fun hL2 => ?_) | (first | refine kl_move rfl rfl (.inl rfl) rfl rfl ?_ | refine kl_move rfl rfl (.inr rfl) rfl rfl ?_ | refine kl_const rfl rfl (.inl rfl) rfl ?_ | refine kl_const rfl rfl (.inr rfl) rfl ?_) | ((first | refine kl_step rfl rfl rfl fun K hK => ?_ | refine kl_step0 rfl rfl rfl fun K hK => ?_); go_simp; (try go_bits); (first | refine hK _ _ ?_ | refine hK _ ?_); clear hK K))
    refine kq_retv (fun a k => results_row_tmp rfl _ _ g4 36 (sesV s (.slice AD nG cD) (.slice AG nG cG)).toArray (0, 0) _ _ (k.slot 4 rfl) (k.slot 5 rfl) (hL2.at_ 0 rfl) Try.underlying36 rfl (rinfoS s _ _ HS.out)) ?_
    exact ChunkQ_err HE.out (by decide) (HSR.out _) hL2.below
  have t3 : decide (f.at_ < 0) = false := decide_eq_false h3
  obtain ⟨a, hfa⟩ : ∃ a : Nat, f.at_ = a := ⟨f.at_.toNat, by omega⟩
  have HFA := Lib.hid hfa
  rw [hfa] at t3 p3
  by_cases h4 : nG < a
  · have t4 : decide ((nG : Int) < (a : Int)) = true := by rw [decide_eq_true_eq]; omega
    have t4n : decide (nG < a) = true := decide_eq_true h4
    have HE := Lib.hid (EBAD.out (.inr (.inr (.inr (by rw [HFA.out, HM.out, hs]; omega)))))
    clear h3 h4 hfa
    repeat (first | refine kw_seq ?_ | refine kw_block ?_ | refine kw_skip ?_ | refine kw_region ?_ | refine kl_nil ?_ | refine kq_then ?_ | refine kq_block ?_ | refine kw_exit ?_ | refine kq_then_exit ?_ | refine kq_block_here rfl ?_ | refine kq_block_far rfl ?_ | refine kq_again_exit ?_ | refine kw_ret ?_ | refine kq_then_ret ?_ | refine kq_block_ret ?_ | refine kq_again_ret ?_ | refine kw_ift rfl ?_ | refine kw_iff rfl ?_ | refine kl_ung rfl rfl ?_ | refine kl_skipg rfl rfl rfl rfl ?_ | refine kl_skipg0 rfl rfl rfl ?_ | refine kl_getL hL 2 rfl Try.underlying36 rfl (rinfoS s _ _ HS.out) rfl rfl rfl rfl rfl ?_ | refine kl_putL (cells := (sesV s (.slice AD nG cD) (.slice AG nG cG)).toArray) hL 0 rfl (rinfoS s _ _ HS.out) (sizeZ s _ _ HS.out) (sesV_one s _ _ rfl rfl) rfl rfl rfl rfl rfl (fun hL2 => ?_) | (first | refine kl_move rfl rfl (.inl rfl) rfl rfl ?_ | refine kl_move rfl rfl (.inr rfl) rfl rfl ?_ | refine kl_const rfl rfl (.inl rfl) rfl ?_ | refine kl_const rfl rfl (.inr rfl) rfl ?_) | ((first | refine kl_step rfl rfl rfl fun K hK => ?_ | refine kl_step0 rfl rfl rfl fun K hK => ?_); go_simp; (try go_bits); (first | refine hK _ _ ?_ | refine hK _ ?_); clear hK K))
    refine kq_retv (fun a k => results_row_tmp rfl _ _ g4 36 (sesV s (.slice AD nG cD) (.slice AG nG cG)).toArray (0, 0) _ _ (k.slot 4 rfl) (k.slot 5 rfl) (hL2.at_ 0 rfl) Try.underlying36 rfl (rinfoS s _ _ HS.out)) ?_
    exact ChunkQ_err HE.out (by decide) (HSR.out _) hL2.below
  have t4 : decide ((nG : Int) < (a : Int)) = false := by rw [decide_eq_false_iff_not]; omega
  have t4n : decide (nG < a) = false := decide_eq_false h4
  obtain ⟨r, hr⟩ : ∃ r, nG - a = r := ⟨_, rfl⟩
  have j3 : (nG : Int) - (a : Int) = (r : Int) := by omega
  have j4 : IntKind.i64.wrap ((nG : Int) - (a : Int)) = (r : Int) := by rw [j3, IntWalk.i64_in _ (by omega)]
  by_cases h5 : r < m
  · have t5 : decide ((r : Int) < (m : Int)) = true := by rw [decide_eq_true_eq]; omega
    have t5n : decide (r < m) = true := decide_eq_true h5
    have HE := Lib.hid (EBAD.out (.inr (.inr (.inr (by rw [HFA.out, HM.out, hs]; omega)))))
    clear h3 h4 h5 hfa hr hfat
    repeat (first | refine kw_seq ?_ | refine kw_block ?_ | refine kw_skip ?_ | refine kw_region ?_ | refine kl_nil ?_ | refine kq_then ?_ | refine kq_block ?_ | refine kw_exit ?_ | refine kq_then_exit ?_ | refine kq_block_here rfl ?_ | refine kq_block_far rfl ?_ | refine kq_again_exit ?_ | refine kw_ret ?_ | refine kq_then_ret ?_ | refine kq_block_ret ?_ | refine kq_again_ret ?_ | refine kw_ift rfl ?_ | refine kw_iff rfl ?_ | refine kl_ung rfl rfl ?_ | refine kl_skipg rfl rfl rfl rfl ?_ | refine kl_skipg0 rfl rfl rfl ?_ | refine kl_getL hL 2 rfl Try.underlying36 rfl (rinfoS s _ _ HS.out) rfl rfl rfl rfl rfl ?_ | refine kl_putL (cells := (sesV s (.slice AD nG cD) (.slice AG nG cG)).toArray) hL 0 rfl (rinfoS s _ _ HS.out) (sizeZ s _ _ HS.out) (sesV_one s _ _ rfl rfl) rfl rfl rfl rfl rfl (fun hL2 => ?_) | (first | refine kl_move rfl rfl (.inl rfl) rfl rfl ?_ | refine kl_move rfl rfl (.inr rfl) rfl rfl ?_ | refine kl_const rfl rfl (.inl rfl) rfl ?_ | refine kl_const rfl rfl (.inr rfl) rfl ?_) | ((first | refine kl_step rfl rfl rfl fun K hK => ?_ | refine kl_step0 rfl rfl rfl fun K hK => ?_); go_simp; (try go_bits); (first | refine hK _ _ ?_ | refine hK _ ?_); clear hK K))
    refine kq_retv (fun a k => results_row_tmp rfl _ _ g4 36 (sesV s (.slice AD nG cD) (.slice AG nG cG)).toArray (0, 0) _ _ (k.slot 4 rfl) (k.slot 5 rfl) (hL2.at_ 0 rfl) Try.underlying36 rfl (rinfoS s _ _ HS.out)) ?_
    exact ChunkQ_err HE.out (by decide) (HSR.out _) hL2.below
  have t5 : decide ((r : Int) < (m : Int)) = false := by rw [decide_eq_false_iff_not]; omega
  have t5n : decide (r < m) = false := decide_eq_false h5
  have ham : a + m ≤ nG := by omega
  have hgood : ¬ argBad s f := by
    unfold argBad
    rw [HM.out, HFA.out, hs]
    omega
  have HGOOD := Lib.hid hgood
  clear hgood h3 h4 h5 hr hfa hfat
  repeat (first | refine kw_seq ?_ | refine kw_skip ?_ | refine kw_region ?_ | refine kl_nil ?_ | refine kq_then ?_ | refine kq_block ?_ | refine kw_exit ?_ | refine kq_then_exit ?_ | refine kq_block_here rfl ?_ | refine kq_block_far rfl ?_ | refine kq_again_exit ?_ | refine kw_ret ?_ | refine kq_then_ret ?_ | refine kq_block_ret ?_ | refine kq_again_ret ?_ | refine kw_ift rfl ?_ | refine kw_iff rfl ?_ | refine kl_ung rfl rfl ?_ | refine kl_skipg rfl rfl rfl rfl ?_ | refine kl_skipg0 rfl rfl rfl ?_ | (first | refine kl_move rfl rfl (.inl rfl) rfl rfl ?_ | refine kl_move rfl rfl (.inr rfl) rfl rfl ?_ | refine kl_const rfl rfl (.inl rfl) rfl ?_ | refine kl_const rfl rfl (.inr rfl) rfl ?_) | ((first | refine kl_step rfl rfl rfl fun K hK => ?_ | refine kl_step0 rfl rfl rfl fun K hK => ?_); go_simp; (try go_bits); (first | refine hK _ _ ?_ | refine hK _ ?_); clear hK K))
  clear t1 t2 t3 t4 t4n t5 t5n j3 j4 a0 a1 p1 p3 p36
  refine KW.less [2, 3, 4, 6] ?_
  simp only [nrm, lk, Nat.reduceBEq, cond_true, cond_false]
  refine chkR_loop1 hn ham HFA.out HD HG HM HC.out ?_ ?_
  · intro hcl wr' hL2 hM2
    have hE : chunkE s f = 10 := by unfold chunkE; rw [if_neg (fun h => h X1.out), if_neg HGOOD.out, if_pos hcl]
    have HE := Lib.hid hE
    repeat (first | refine kw_seq ?_ | refine kw_block ?_ | refine kw_skip ?_ | refine kw_region ?_ | refine kl_nil ?_ | refine kq_then ?_ | refine kq_block ?_ | refine kw_exit ?_ | refine kq_then_exit ?_ | refine kq_block_here rfl ?_ | refine kq_block_far rfl ?_ | refine kq_again_exit ?_ | refine kw_ret ?_ | refine kq_then_ret ?_ | refine kq_block_ret ?_ | refine kq_again_ret ?_ | refine kw_ift rfl ?_ | refine kw_iff rfl ?_ | refine kl_ung rfl rfl ?_ | refine kl_skipg rfl rfl rfl rfl ?_ | refine kl_skipg0 rfl rfl rfl ?_ | (first | refine kl_move rfl rfl (.inl rfl) rfl rfl ?_ | refine kl_move rfl rfl (.inr rfl) rfl rfl ?_ | refine kl_const rfl rfl (.inl rfl) rfl ?_ | refine kl_const rfl rfl (.inr rfl) rfl ?_) | ((first | refine kl_step rfl rfl rfl fun K hK => ?_ | refine kl_step0 rfl rfl rfl fun K hK => ?_); go_simp; (try go_bits); (first | refine hK _ _ ?_ | refine hK _ ?_); clear hK K))
    refine kq_retv (fun a k => results_row_tmp rfl _ _ g4 36 (sesV s (.slice AD nG cD) (.slice AG nG cG)).toArray (0, 0) _ _ (k.slot 4 rfl) (k.slot 5 rfl) (hL2.at_ 0 rfl) Try.underlying36 rfl (rinfoS s _ _ HS.out)) ?_
    exact ChunkQ_err HE.out (by decide) hM2 hL2.below
  intro hcl wr hC
  have hE : chunkE s f = 0 := by unfold chunkE; rw [if_neg (fun h => h X1.out), if_neg HGOOD.out, if_neg (by rw [hcl]; decide)]
  have hS : chunkS s f = { s with data := layK s.data a f.data m, got := layK s.got a (List.replicate m true) m } := by
    have := chunkS
    unfold chunkS
    rw [if_pos hE, HM.out, HFA.out, Int.toNat_natCast]
  have HE := Lib.hid hE
  have HCS := Lib.hid hS
  clear hE hS hcl HC HSR
  have HC := Lib.hid hC
  have hL := hC.lay
  clear hC
  refine kq_then ?_
  refine kw_seq ?_
  have q34 := hL.get (j := 34) 2 rfl (ses_34 s (.slice AD nG cD) (.slice AG nG cG) HS.out)
  have q35 := hL.get (j := 35) 2 rfl (ses_35 s (.slice AD nG cD) (.slice AG nG cG) HS.out)
  have hBD := HBD.out.keep (.of_below hL.below)
  have hBG := Vs.keep HBG.out (.of_below hL.below)
  refine kw_region_xt 9 [some (fun W v => ∃ b0, v = .slice (some ⟨b0, 0, none⟩) 0 0 ∧ W.ownsRow wr.heap.size 5 1 v 0 []), none, none, some (fun W v => ∃ g c, v = .slice (some ⟨g, 0, none⟩) nG c ∧ wr.heap.size ≤ g ∧ nG ≤ c ∧ c ≤ 9223372036854775807 ∧ W.ownsRow wr.heap.size 5 1 v nG (bv s.data)), some (fun W v => ∃ b0, v = .slice (some ⟨b0, 0, none⟩) 0 0 ∧ W.ownsRow wr.heap.size 4 1 v 0 []), none, none, some (fun W v => ∃ g c, v = .slice (some ⟨g, 0, none⟩) nG c ∧ wr.heap.size ≤ g ∧ nG ≤ c ∧ c ≤ 9223372036854775807 ∧ W.ownsRow wr.heap.size 4 1 v nG (bls s.got)), none]
    [[], [(2, none)], [(75, some 1)], [(74, some 0), (76, some 2)], [], [(2, none)], [(79, some 5)], [(78, some 4), (80, some 6)], [(2, none)]]
    [2, 3, 4] (by kernel_rfl) (by kernel_rfl) (by kernel_rfl) (by kernel_rfl) (by kernel_rfl)
    ⟨(fun W W' v hb h => by obtain ⟨b0, e, ho⟩ := h; exact ⟨b0, e, own_below ho hb⟩), (fun W W' v hb h => by obtain ⟨g, c, e, h1, h2, h3, ho⟩ := h; exact ⟨g, c, e, h1, h2, h3, own_below ho hb⟩), (fun W W' v hb h => by obtain ⟨b0, e, ho⟩ := h; exact ⟨b0, e, own_below ho hb⟩), (fun W W' v hb h => by obtain ⟨g, c, e, h1, h2, h3, ho⟩ := h; exact ⟨g, c, e, h1, h2, h3, own_below ho hb⟩), trivial⟩ ?_
  repeat (first | apply exs_none | apply exs_some)
  refine exs_nil (And.intro ?v1_vc ?v1_fin)
  case v1_vc =>
    have run1 : ∀ (A : Act) (W : World) (N : Value → World → Prop) (t : Nat) (v : Value), True := fun _ _ _ _ _ => trivial
    refine ⟨?_, ?_, ?_, ?_, ?_, ?_, ?_, ?_, ?_, trivial⟩
    · refine vk_none rfl fun A W hR h N hN => ?_
      refine vk_of N ?_
      go_simp
      (try go_bits)
      exact hN _ _ ((Below.refl _ _).alloc (Nat.le_refl _) _) ⟨_, rfl, ownsRow_base (World.ownsRow_made W #[] 0 (Nat.le_refl _) (by simp [maxLen]) rfl) hR.size⟩
    · refine vk_none rfl fun A W hR h N hN => ?_
      refine vk_of N ?_
      obtain ⟨h2, _⟩ := h
      replace h2 := h2 _ rfl
      go_simp
      (try go_bits)
      exact hN _ _ (Below.refl _ _) rfl
    · refine vk_none rfl fun A W hR h N hN => ?_
      refine vk_of N ?_
      obtain ⟨h75, _⟩ := h
      replace h75 : A.tmps[75]?.getD undef = _ := h75
      have q34 := Keeps.of_below hR _ _ q34
      go_simp
      (try go_bits)
      exact hN _ _ (Below.refl _ _) rfl
    · refine vk_append_run rfl rfl fun A W hR h => ?_
      obtain ⟨h74, h76, _⟩ := h
      obtain ⟨b0, e0, ho⟩ := h74
      replace h76 : A.tmps[76]?.getD undef = _ := h76
      rw [e0] at ho
      obtain ⟨g, c', W', hr, ho', hg1, hg2, hg3, hb'⟩ := empty_app (P := Try.prog) 22 22 5 _ 1 Try.underlying22 byteInfo rfl wr.heap.size b0 ho _ _ cD _ (hBD.keep (.of_below hR)) (bv_one _) (by omega) (by omega) (by omega) hR.size
      exact ⟨_, _, _, W', e0, h76, hr, hb', ⟨g, c', rfl, Nat.le_trans hR.size hg1, hg2, hg3, ho'⟩⟩
    · refine vk_none rfl fun A W hR h N hN => ?_
      refine vk_of N ?_
      go_simp
      (try go_bits)
      exact hN _ _ ((Below.refl _ _).alloc (Nat.le_refl _) _) ⟨_, rfl, ownsRow_base (World.ownsRow_made W #[] 0 (Nat.le_refl _) (by simp [maxLen]) rfl) hR.size⟩
    · refine vk_none rfl fun A W hR h N hN => ?_
      refine vk_of N ?_
      obtain ⟨h2, _⟩ := h
      replace h2 := h2 _ rfl
      go_simp
      (try go_bits)
      exact hN _ _ (Below.refl _ _) rfl
    · refine vk_none rfl fun A W hR h N hN => ?_
      refine vk_of N ?_
      obtain ⟨h79, _⟩ := h
      replace h79 : A.tmps[79]?.getD undef = _ := h79
      have q35 := Keeps.of_below hR _ _ q35
      go_simp
      (try go_bits)
      exact hN _ _ (Below.refl _ _) rfl
    · refine vk_append_run rfl rfl fun A W hR h => ?_
      obtain ⟨h78, h80, _⟩ := h
      obtain ⟨b0, e0, ho⟩ := h78
      replace h80 : A.tmps[80]?.getD undef = _ := h80
      rw [e0] at ho
      obtain ⟨g, c', W', hr, ho', hg1, hg2, hg3, hb'⟩ := empty_app (P := Try.prog) 30 30 4 _ 1 Try.underlying30 boolInfo' rfl wr.heap.size b0 ho _ _ cG _ (Vs.keep hBG (.of_below hR)) (bls_one _) (by omega) (by omega) (by omega) hR.size
      exact ⟨_, _, _, W', e0, h80, hr, hb', ⟨g, c', rfl, Nat.le_trans hR.size hg1, hg2, hg3, ho'⟩⟩
    · refine vk_none rfl fun A W hR h N hN => ?_
      refine vk_of N ?_
      obtain ⟨h2, _⟩ := h
      replace h2 := h2 _ rfl
      go_simp
      (try go_bits)
      exact hN _ _ (Below.refl _ _) rfl
  case v1_fin =>
    intro fa fW fk hR he
    have e3 := he.2.2.2.1
    have e7 := he.2.2.2.2.2.2.2.1
    have e8 := he.2.2.2.2.2.2.2.2.1
    clear he
    obtain ⟨gd, cd, ev3, hgd, hcd1, hcd2, hoD⟩ := e3
    obtain ⟨gg, cg, ev7, hgg, hcg1, hcg2, hoG⟩ := e7
    rw [ev3] at hoD
    rw [ev7] at hoG
    replace fk := fk.more 77 _ ev3
    replace fk := fk.more 81 _ ev7
    replace e8 : fa.tmps[82]?.getD undef = _ := e8
    replace fk := fk.more 82 _ e8
    clear e8 ev3 ev7
    have hL := hL.next hR
    have hF := HC.out.frm.keep (.of_below hR)
    have ndg := own_apart (by decide) hoD hoG
    have l2 := HC.out.lay.lt 2 rfl
    have l3 := HC.out.lay.lt 1 rfl
    have l4 := HC.out.lay.lt 0 rfl
    have hsz := HC.out.lay.below.size
    clear q34 q35 hBD hBG
    have c34 := hL.get (j := 34) 2 rfl (ses_34 s (.slice AD nG cD) (.slice AG nG cG) HS.out)
    have f34 := hL.free 2 rfl 34
    have f35 := hL.free 2 rfl 35
    have hL1 := hL.cell 2 rfl 34 (.slice (some ⟨gd, 0, none⟩) nG cd)
    rw [ses_set34 _ _ _ _ HS.out] at hL1
    have c35 := hL1.get (j := 35) 2 rfl (ses_35 s (.slice (some ⟨gd, 0, none⟩) nG cd) (.slice AG nG cG) HS.out)
    have f35' := hL1.free 2 rfl 35
    have hL2 := hL1.cell 2 rfl 35 (.slice (some ⟨gg, 0, none⟩) nG cg)
    rw [ses_set35 _ _ _ _ HS.out] at hL2
    have hD1 := own_farCell hoD (p := ⟨g2, 34, none⟩) (by show gd ≠ g2; omega) (.slice (some ⟨gd, 0, none⟩) nG cd)
    have hD2 := own_farCell hD1 (p := ⟨g2, 35, none⟩) (by show gd ≠ g2; omega) (.slice (some ⟨gg, 0, none⟩) nG cg)
    have hG1 := own_farCell hoG (p := ⟨g2, 34, none⟩) (by show gg ≠ g2; omega) (.slice (some ⟨gd, 0, none⟩) nG cd)
    have hG2 := own_farCell hG1 (p := ⟨g2, 35, none⟩) (by show gg ≠ g2; omega) (.slice (some ⟨gg, 0, none⟩) nG cg)
    have hge2 := HC.out.lay.ge 2 rfl
    have nf : ∀ b o n c, (Value.slice AF m cF) = .slice (some ⟨b, o, none⟩) n c → b < w.heap.size := fun b o n c e => by injection e with e _ _; exact HLF.out (by omega) b o e
    have hF1 : FrmM (fW.setCell ⟨g2, 34, none⟩ (.slice (some ⟨gd, 0, none⟩) nG cd)) f (.slice AF m cF) := ⟨hF.kind, hF.id, hF.size, hF.at_, hF.sum, hF.data.set (fun b o n c e => by have := nf b o n c e; show b ≠ g2; omega) _⟩
    have hF2 : FrmM ((fW.setCell ⟨g2, 34, none⟩ (.slice (some ⟨gd, 0, none⟩) nG cd)).setCell ⟨g2, 35, none⟩ (.slice (some ⟨gg, 0, none⟩) nG cg)) f (.slice AF m cF) := ⟨hF.kind, hF.id, hF.size, hF.at_, hF.sum, hF1.data.set (fun b o n c e => by have := nf b o n c e; show b ≠ g2; omega) _⟩
    have HW : Hid (CkW w wr.heap.size nG g2 g3 g4 gd gg cd cg s f (.slice AF m cF) s.data s.got ((fW.setCell ⟨g2, 34, none⟩ (.slice (some ⟨gd, 0, none⟩) nG cd)).setCell ⟨g2, 35, none⟩ (.slice (some ⟨gg, 0, none⟩) nG cg))) := ⟨hL2, hD2, hG2, hF2⟩
    have HA : Hid (CkA w wr.heap.size g2 g3 g4 gd gg (.slice AF m cF)) := ⟨ndg, hgd, hgg, l2, l3, l4, hsz, fun b o n c e => by have := nf b o n c e; omega⟩
    have H4 : Hid (g4 < wr.heap.size) := l4
    clear hL1 hL2 hD1 hD2 hG1 hG2 hF1 hF2 hoD hoG hF hL nf hge2 hR
    refine kl_of _ _ ?_ fk
    clear fk fa
    simp only [nrm, lk, Nat.reduceBEq, cond_true, cond_false, List.take_succ_cons, List.take_zero, List.drop_succ_cons, List.drop_zero]
    repeat (first | refine kw_seq ?_ | refine kw_skip ?_ | refine kw_region ?_ | refine kl_nil ?_ | refine kq_then ?_ | refine kq_block ?_ | refine kw_exit ?_ | refine kq_then_exit ?_ | refine kq_block_here rfl ?_ | refine kq_block_far rfl ?_ | refine kq_again_exit ?_ | refine kw_ret ?_ | refine kq_then_ret ?_ | refine kq_block_ret ?_ | refine kq_again_ret ?_ | refine kw_ift rfl ?_ | refine kw_iff rfl ?_ | refine kl_ung rfl rfl ?_ | refine kl_skipg rfl rfl rfl rfl ?_ | refine kl_skipg0 rfl rfl rfl ?_ | (first | refine kl_move rfl rfl (.inl rfl) rfl rfl ?_ | refine kl_move rfl rfl (.inr rfl) rfl rfl ?_ | refine kl_const rfl rfl (.inl rfl) rfl ?_ | refine kl_const rfl rfl (.inr rfl) rfl ?_) | ((first | refine kl_step rfl rfl rfl fun K hK => ?_ | refine kl_step0 rfl rfl rfl fun K hK => ?_); go_simp; (try go_bits); (first | refine hK _ _ ?_ | refine hK _ ?_); clear hK K))
    refine KW.less [2, 3, 4, 7] ?_
    simp only [nrm, lk, Nat.reduceBEq, cond_true, cond_false]
    refine chkR_loop2 HA.out hcd1 hcd2 hcg1 hcg2 hn ham HFA.out HS HD HG HM HW.out ?_
    intro wf hW
    have hL := hW.lay
    repeat (first | refine kw_seq ?_ | refine kw_block ?_ | refine kw_skip ?_ | refine kw_region ?_ | refine kl_nil ?_ | refine kq_then ?_ | refine kq_block ?_ | refine kw_exit ?_ | refine kq_then_exit ?_ | refine kq_block_here rfl ?_ | refine kq_block_far rfl ?_ | refine kq_again_exit ?_ | refine kw_ret ?_ | refine kq_then_ret ?_ | refine kq_block_ret ?_ | refine kq_again_ret ?_ | refine kw_ift rfl ?_ | refine kw_iff rfl ?_ | refine kl_ung rfl rfl ?_ | refine kl_skipg rfl rfl rfl rfl ?_ | refine kl_skipg0 rfl rfl rfl ?_ | refine kl_getL hL 2 rfl Try.underlying36 rfl (rinfoS s _ _ HS.out) rfl rfl rfl rfl rfl ?_ | refine kl_putL (cells := (sesV s (.slice (some ⟨gd, 0, none⟩) nG cd) (.slice (some ⟨gg, 0, none⟩) nG cg)).toArray) hL 0 rfl (rinfoS s _ _ HS.out) (sizeZ s _ _ HS.out) (sesV_one s _ _ rfl rfl) rfl rfl rfl rfl rfl (fun hL3 => ?_) | (first | refine kl_move rfl rfl (.inl rfl) rfl rfl ?_ | refine kl_move rfl rfl (.inr rfl) rfl rfl ?_ | refine kl_const rfl rfl (.inl rfl) rfl ?_ | refine kl_const rfl rfl (.inr rfl) rfl ?_) | ((first | refine kl_step rfl rfl rfl fun K hK => ?_ | refine kl_step0 rfl rfl rfl fun K hK => ?_); go_simp; (try go_bits); (first | refine hK _ _ ?_ | refine hK _ ?_); clear hK K))
    refine kq_retv (fun a k => results_row_tmp rfl _ _ g4 36 (sesV s (.slice (some ⟨gd, 0, none⟩) nG cd) (.slice (some ⟨gg, 0, none⟩) nG cg)).toArray (0, 0) _ _ (k.slot 4 rfl) (k.slot 5 rfl) (hL3.at_ 0 rfl) Try.underlying36 rfl (rinfoS s _ _ HS.out)) ?_
    refine ⟨.slice (some ⟨gd, 0, none⟩) nG cd, .slice (some ⟨gg, 0, none⟩) nG cg, by rw [HE.out, HCS.out]; rfl, ?_, hL3.below, .inr (Fr.new (by omega)), .inr (Fr.new (by omega))⟩
    rw [HCS.out]
    have h4 := H4.out
    obtain ⟨A5, c5, e5, o1, o2, o3, _⟩ := own_slice hW.data
    obtain ⟨A6, c6, e6, p1, p2, p3, _⟩ := own_slice hW.got
    injection e5 with e51 _ e53
    injection e6 with e61 _ e63
    subst e51; subst e53; subst e61; subst e63
    have hSD : SlB wf (layK s.data a f.data m) (.slice (some ⟨gd, 0, none⟩) nG cd) := ⟨_, _, _, rfl, o3, o1, by simpa [maxLen] using o2⟩
    have hSG : SlO wf (layK s.got a (List.replicate m true) m) (.slice (some ⟨gg, 0, none⟩) nG cg) := ⟨_, _, _, rfl, p3, p1, by simpa [maxLen] using p2⟩
    exact ⟨HSM.out.id, HSM.out.size, HS.out, hSD.row (fun b o n c e => by injection e with e _ _; injection e with e; injection e with e _; omega) _, hSG.row (fun b o n c e => by injection e with e _ _; injection e with e; injection e with e _; omega) _⟩
end Go.Proofs.Ytkgenkkcgegcbaa
