/- session.Begin. -/
import Derived.Test.YtkgenkkcgegcbaaConcat
namespace Go.Proofs.Ytkgenkkcgegcbaa
open Go.RowKit
attribute [local go_sem] ev_tmp ev_const ev_func ev_global lk_hit lk_miss uponK_value uponK_skip look_tmp look_const look_global look_func
theorem boolInfo' : (Try.prog.info? 4).map (fun i => (i.zero, i.size, i.bytes)) = some (some (.bool false), 1, 1) := by kernel_rfl
theorem makeBools (n : Nat) (hn : n ≤ 140737488355328) (W : World) :
    (Instr.makeSlice 30 (.int .i64 (n : Int)) (.int .i64 (n : Int))).run Try.prog W = .ok (.slice (some ⟨W.heap.size, 0, none⟩) n n) (W.alloc (.cells (bls (List.replicate n false)).toArray 4)) := by
  obtain ⟨i0, hi0, hz0, hz1, hz2⟩ := info_parts boolInfo'
  have hr := run_make (P := Try.prog) W 30 4 i0 (.bool false) Try.underlying30 hi0 hz0 .i64 .i64 n n (by omega) (by omega) (by rw [hz2]; omega) (by omega)
  simp only [Int.toNat_natCast, hz1, Nat.mul_one, Value.cells] at hr
  rw [hr]
  refine congrArg (fun l : Array Value => Result.ok _ (W.alloc (.cells l _))) ?_
  apply Array.toList_inj.1
  rw [toList_madeCells_one]
  simp [bls]
theorem SlO.lit {w : World} {cs : Array Value} (t : TypeId) (l : List Bool) (h : cs = (bls l).toArray) (hl : l.length ≤ 9223372036854775807) : SlO (w.alloc (.cells cs t)) l (.slice (some ⟨w.heap.size, 0, none⟩) l.length l.length) := by
  subst h
  refine ⟨_, _, _, rfl, ?_, Nat.le_refl _, hl⟩
  have := Vs.lit (w := w.alloc (.cells (bls l).toArray t)) (B := w.heap.size) (heap_alloc_new w _) (n := l.length) (by simp [bls])
  simpa using this
theorem SlB.lit {w : World} {cs : Array Value} (t : TypeId) (l : List UInt8) (h : cs = (bv l).toArray) (hl : l.length ≤ 9223372036854775807) : SlB (w.alloc (.cells cs t)) l (.slice (some ⟨w.heap.size, 0, none⟩) l.length l.length) :=
  ⟨_, _, _, rfl, Bs.lit t rfl l rfl h, Nat.le_refl _, hl⟩
def badF (f : Frm) : Prop := f.id < 0 ∨ f.size < 1 ∨ 1000 < f.size
instance (f : Frm) : Decidable (badF f) := by unfold badF; infer_instance
def beginS (f : Frm) : Ses := if badF f then zeroSes else ⟨f.id, f.size, f.sum, List.replicate f.size.toNat 0, List.replicate f.size.toNat false⟩
def beginE (f : Frm) : Int := if badF f then 1 else 0
theorem ses_built0 : Try.prog.built 32 [] = some zSes.toArray := by
  obtain ⟨fs, hu, hp⟩ := sesUnder
  rw [built_struct sesZero hu hp, fill_nil]
def BeginP (f : Frm) (w : World) (e : Ending) (w' : World) : Prop := ∃ D' G', e = .returned (.tuple #[.agg (sesV (beginS f) D' G').toArray, .int .i64 (beginE f)]) ∧ SesM w' (beginS f) D' G' ∧ Below w.heap.size w w' ∧ Fr w.heap.size D' ∧ Fr w.heap.size G'
theorem zeroSes_m (w : World) : SesM w zeroSes (.slice none 0 0) (.slice none 0 0) := ⟨by show I64 0; unfold I64; omega, by show I64 0; unfold I64; omega, z32_len, SlB.nil w, SlO.nil w⟩
set_option maxRecDepth 100000 in
set_option maxHeartbeats 1000000 in
theorem begin_any (f : Frm) (D : Value) (w : World) (hM : FrmM w f D) :
    Calls Try.prog 9 #[.agg (frmV f D).toArray] w (BeginP f w) := by
  have HS := Lib.hid hM.sum
  refine calls_kw Try.func9 rfl Try.ntmps9 rfl [(0, .agg (frmV f D).toArray)] rfl ?_
  refine kw_seq ?_
  refine kw_region ?_
  ((first | refine kl_step rfl rfl rfl fun K hK => ?_ | refine kl_step0 rfl rfl rfl fun K hK => ?_); go_simp; (try go_bits); (first | refine hK _ _ ?_ | refine hK _ ?_); clear hK K)
  obtain ⟨w1, hw1⟩ : ∃ w1, w1 = w.alloc (.cells (frmV f D).toArray 29) := ⟨_, rfl⟩
  have hbw1 : Below w.heap.size w w1 := by rw [hw1]; exact (Below.refl _ _).alloc (Nat.le_refl _) _
  have h1 : w1.heap[w.heap.size]? = some (.cells (frmV f D).toArray 29 (0, 0)) := by rw [hw1]; exact heap_alloc_new _ _
  have sw1 : w1.heap.size = w.heap.size + 1 := by rw [hw1]; simp
  rw [← hw1]
  clear hw1
  obtain ⟨g1, hg1⟩ : ∃ g, w.heap.size = g := ⟨_, rfl⟩
  have c1 := frm_cell h1 (frm_1 f D)
  have c2 := frm_cell h1 (frm_2 f D)
  rw [hg1] at h1 c1 c2
  have H1 := Lib.hid h1
  have HG1 := Lib.hid hg1
  rw [hg1]
  have l1 : g1 < w1.heap.size := by omega
  have b1 : w.heap.size ≤ g1 := by omega
  clear hg1 h1 sw1
  refine kl_alloc_row 32 sesZero rfl rfl rfl rfl ?_
  obtain ⟨w2, hw2⟩ : ∃ w2, w2 = w1.alloc (.cells zSes.toArray 32) := ⟨_, rfl⟩
  have hbw2 : Below w1.heap.size w1 w2 := by rw [hw2]; exact (Below.refl _ _).alloc (Nat.le_refl _) _
  have h2 : w2.heap[w1.heap.size]? = some (.cells zSes.toArray 32 (0, 0)) := by rw [hw2]; exact heap_alloc_new _ _
  have sw2 : w2.heap.size = w1.heap.size + 1 := by rw [hw2]; simp
  rw [← hw2]
  clear hw2
  obtain ⟨g2, hg2⟩ : ∃ g, w1.heap.size = g := ⟨_, rfl⟩
  have c1 := Keeps.of_below hbw2 _ _ c1
  have c2 := Keeps.of_below hbw2 _ _ c2
  have H1 := Lib.hid (below_atK hbw2 H1.out)
  rw [hg2] at h2 ⊢
  have hb := below_two hbw1 hbw2
  have H2 := Lib.hid h2
  have n12 : g1 ≠ g2 := by omega
  have b2 : w.heap.size ≤ g2 := by omega
  have l2 : g2 < w2.heap.size := by omega
  clear hg2 h2 sw2
  by_cases hbad : badF f
  · have hS : beginS f = zeroSes := if_pos hbad
    have hE : beginE f = 1 := if_pos hbad
    have hcase : (decide (f.id < 0) = true) ∨ (decide (f.id < 0) = false ∧ decide (f.size < 1) = true) ∨ (decide (f.id < 0) = false ∧ decide (f.size < 1) = false ∧ decide (1000 < f.size) = true) := by
      unfold badF at hbad
      simp only [decide_eq_true_eq, decide_eq_false_iff_not]
      omega
    have HSS := Lib.hid hS
    have HEE := Lib.hid hE
    clear hbad hS hE
    rcases hcase with d1 | ⟨d1, d2⟩ | ⟨d1, d2, d3⟩
    all_goals
      repeat (first | refine kw_seq ?_ | refine kw_block ?_ | refine kw_skip ?_ | refine kw_region ?_ | refine kl_nil ?_ | refine kq_then ?_ | refine kq_block ?_ | refine kw_exit ?_ | refine kq_then_exit ?_ | refine kq_block_here rfl ?_ | refine kq_block_far rfl ?_ | refine kq_again_exit ?_ | refine kw_ret ?_ | refine kq_then_ret ?_ | refine kq_block_ret ?_ | refine kq_again_ret ?_ | refine kw_ift rfl ?_ | refine kw_iff rfl ?_ | refine kl_ung rfl rfl ?_ | refine kl_skipg rfl rfl rfl rfl ?_ | refine kl_skipg0 rfl rfl rfl ?_ | (first | refine kl_move rfl rfl (.inl rfl) rfl rfl ?_ | refine kl_move rfl rfl (.inr rfl) rfl rfl ?_ | refine kl_const rfl rfl (.inl rfl) rfl ?_ | refine kl_const rfl rfl (.inr rfl) rfl ?_) | ((first | refine kl_step rfl rfl rfl fun K hK => ?_ | refine kl_step0 rfl rfl rfl fun K hK => ?_); go_simp; (try go_bits); (first | refine hK _ _ ?_ | refine hK _ ?_); clear hK K))
      refine kl_store_row 32 g2 zSes.toArray _ zSes.toArray H2.out (infoS zeroSes _ _ z32_len) rfl (sesV_one _ _ _ rfl rfl) rfl rfl rfl rfl rfl ?_
      repeat (first | refine kw_seq ?_ | refine kw_block ?_ | refine kw_skip ?_ | refine kw_region ?_ | refine kl_nil ?_ | refine kq_then ?_ | refine kq_block ?_ | refine kw_exit ?_ | refine kq_then_exit ?_ | refine kq_block_here rfl ?_ | refine kq_block_far rfl ?_ | refine kq_again_exit ?_ | refine kw_ret ?_ | refine kq_then_ret ?_ | refine kq_block_ret ?_ | refine kq_again_ret ?_ | refine kw_ift rfl ?_ | refine kw_iff rfl ?_ | refine kl_ung rfl rfl ?_ | refine kl_skipg rfl rfl rfl rfl ?_ | refine kl_skipg0 rfl rfl rfl ?_ | (first | refine kl_move rfl rfl (.inl rfl) rfl rfl ?_ | refine kl_move rfl rfl (.inr rfl) rfl rfl ?_ | refine kl_const rfl rfl (.inl rfl) rfl ?_ | refine kl_const rfl rfl (.inr rfl) rfl ?_) | ((first | refine kl_step rfl rfl rfl fun K hK => ?_ | refine kl_step0 rfl rfl rfl fun K hK => ?_); go_simp; (try go_bits); (first | refine hK _ _ ?_ | refine hK _ ?_); clear hK K))
      refine kq_retv (v := .tuple #[.agg zSes.toArray, .int .i64 1]) (fun a k => results_row_tmp rfl _ _ g2 32 zSes.toArray (0, 0) _ _ (k.slot 2 rfl) (k.slot 3 rfl) (setRow_block H2.out) Try.underlying32 rfl (infoS zeroSes _ _ z32_len)) ?_
      exact ⟨.slice none 0 0, .slice none 0 0, by rw [HSS.out, HEE.out]; rfl, by rw [HSS.out]; exact zeroSes_m _, below_setRow hb b2 _, Fr.nil _ _ _, Fr.nil _ _ _⟩
  have hS : beginS f = ⟨f.id, f.size, f.sum, List.replicate f.size.toNat 0, List.replicate f.size.toNat false⟩ := if_neg hbad
  have hE : beginE f = 0 := if_neg hbad
  have d1 : decide (f.id < 0) = false := by unfold badF at hbad; rw [decide_eq_false_iff_not]; omega
  have d2 : decide (f.size < 1) = false := by unfold badF at hbad; rw [decide_eq_false_iff_not]; omega
  have d3 : decide (1000 < f.size) = false := by unfold badF at hbad; rw [decide_eq_false_iff_not]; omega
  obtain ⟨n, hn⟩ : ∃ n : Nat, f.size = n := ⟨f.size.toNat, by unfold badF at hbad; omega⟩
  have hn1 : n ≤ 1000 := by unfold badF at hbad; omega
  have hnn : f.size.toNat = n := by omega
  rw [hnn] at hS
  rw [hn] at c2 d2 d3
  have HSS := Lib.hid hS
  have HEE := Lib.hid hE
  have HN := Lib.hid hn
  clear hbad hS hE hn hnn
  have hI := hM.id
  have hZ := hM.size
  have hF := hM.sum
  have HI := Lib.hid hI
  have HF := Lib.hid hF
  clear hI hZ hF
  repeat (first | refine kw_seq ?_ | refine kw_block ?_ | refine kw_skip ?_ | refine kw_region ?_ | refine kl_nil ?_ | refine kq_then ?_ | refine kq_block ?_ | refine kw_exit ?_ | refine kq_then_exit ?_ | refine kq_block_here rfl ?_ | refine kq_block_far rfl ?_ | refine kq_again_exit ?_ | refine kw_ret ?_ | refine kq_then_ret ?_ | refine kq_block_ret ?_ | refine kq_again_ret ?_ | refine kw_ift rfl ?_ | refine kw_iff rfl ?_ | refine kl_ung rfl rfl ?_ | refine kl_skipg rfl rfl rfl rfl ?_ | refine kl_skipg0 rfl rfl rfl ?_ | (first | refine kl_move rfl rfl (.inl rfl) rfl rfl ?_ | refine kl_move rfl rfl (.inr rfl) rfl rfl ?_ | refine kl_const rfl rfl (.inl rfl) rfl ?_ | refine kl_const rfl rfl (.inr rfl) rfl ?_) | ((first | refine kl_step rfl rfl rfl fun K hK => ?_ | refine kl_step0 rfl rfl rfl fun K hK => ?_); go_simp; (try go_bits); (first | refine hK _ _ ?_ | refine hK _ ?_); clear hK K))
  refine KW.less [1, 2] ?_
  simp only [nrm, lk, Nat.reduceBEq, cond_true, cond_false]
  have hmk1 := makeBytes n (by omega)
  have hmk2 := makeBools n (by omega)
  have H1R : Hid (w2.rangeAt g1 4 (bv f.sum)) := frm_range H1.out
  refine kw_region_xt 12 [none, none, none, none, none, none, none, none, some (fun W v => SlB W (List.replicate n 0) v ∧ Fr w2.heap.size v), none, none, some (fun W v => SlO W (List.replicate n false) v ∧ Fr w2.heap.size v)]
    [[(1, none)], [(18, some 0)], [(1, none)], [(20, some 2)], [(1, none)], [(22, some 4)], [(1, none)], [(24, some 6)], [(25, some 7)], [(1, none)], [(27, some 9)], [(28, some 10)]]
    [1, 2] (by kernel_rfl) (by kernel_rfl) (by kernel_rfl) (by kernel_rfl) (by kernel_rfl)
    ⟨(fun _ _ _ hb h => ⟨SlB.keep h.1 (.of_below hb), h.2⟩), (fun _ _ _ hb h => ⟨SlO.keep h.1 (.of_below hb), h.2⟩), trivial⟩ ?_
  repeat (first | apply exs_none | apply exs_some)
  refine exs_nil (And.intro ?v1_vc ?v1_fin)
  case v1_vc =>
    refine ⟨?_, ?_, ?_, ?_, ?_, ?_, ?_, ?_, ?_, ?_, ?_, ?_, trivial⟩
    · refine vk_none rfl fun A W hR h N hN => ?_
      refine vk_of N ?_
      obtain ⟨h1, _⟩ := h
      replace h1 := h1 _ rfl
      go_simp
      (try go_bits)
      exact hN _ _ (Below.refl _ _) rfl
    · refine vk_none rfl fun A W hR h N hN => ?_
      refine vk_of N ?_
      obtain ⟨h18, _⟩ := h
      replace h18 : A.tmps[18]?.getD undef = _ := h18
      have c1 := Keeps.of_below hR _ _ c1
      have c2 := Keeps.of_below hR _ _ c2
      go_simp
      (try go_bits)
      exact hN _ _ (Below.refl _ _) rfl
    · refine vk_none rfl fun A W hR h N hN => ?_
      refine vk_of N ?_
      obtain ⟨h1, _⟩ := h
      replace h1 := h1 _ rfl
      go_simp
      (try go_bits)
      exact hN _ _ (Below.refl _ _) rfl
    · refine vk_none rfl fun A W hR h N hN => ?_
      refine vk_of N ?_
      obtain ⟨h20, _⟩ := h
      replace h20 : A.tmps[20]?.getD undef = _ := h20
      have c1 := Keeps.of_below hR _ _ c1
      have c2 := Keeps.of_below hR _ _ c2
      go_simp
      (try go_bits)
      exact hN _ _ (Below.refl _ _) rfl
    · refine vk_none rfl fun A W hR h N hN => ?_
      refine vk_of N ?_
      obtain ⟨h1, _⟩ := h
      replace h1 := h1 _ rfl
      go_simp
      (try go_bits)
      exact hN _ _ (Below.refl _ _) rfl
    · refine vk_none rfl fun A W hR h N hN => ?_
      refine vk_of N ?_
      obtain ⟨h22, _⟩ := h
      replace h22 : A.tmps[22]?.getD undef = _ := h22
      rw [run_loadMid (b := g1) (off := 4) 26 (.tmp 22) rfl h22 (bv f.sum) _ (rangeAt_below (H1R.out) hR) hashUnder rfl (by rw [hashInfo, length_bv, HF.out])]
      exact hN _ _ (Below.refl _ _) rfl
    · refine vk_none rfl fun A W hR h N hN => ?_
      refine vk_of N ?_
      obtain ⟨h1, _⟩ := h
      replace h1 := h1 _ rfl
      go_simp
      (try go_bits)
      exact hN _ _ (Below.refl _ _) rfl
    · refine vk_none rfl fun A W hR h N hN => ?_
      refine vk_of N ?_
      obtain ⟨h24, _⟩ := h
      replace h24 : A.tmps[24]?.getD undef = _ := h24
      have c1 := Keeps.of_below hR _ _ c1
      have c2 := Keeps.of_below hR _ _ c2
      go_simp
      (try go_bits)
      exact hN _ _ (Below.refl _ _) rfl
    · refine vk_none rfl fun A W hR h N hN => ?_
      refine vk_of N ?_
      obtain ⟨h25, _⟩ := h
      replace h25 : A.tmps[25]?.getD undef = _ := h25
      go_simp
      (try go_bits)
      exact hN _ _ ((Below.refl _ _).alloc (Nat.le_refl _) _) (by have h := SlB.lit (w := W) 5 (List.replicate n (0 : UInt8)) rfl (by simp; omega); rw [List.length_replicate] at h; exact ⟨h, Fr.new hR.size⟩)
    · refine vk_none rfl fun A W hR h N hN => ?_
      refine vk_of N ?_
      obtain ⟨h1, _⟩ := h
      replace h1 := h1 _ rfl
      go_simp
      (try go_bits)
      exact hN _ _ (Below.refl _ _) rfl
    · refine vk_none rfl fun A W hR h N hN => ?_
      refine vk_of N ?_
      obtain ⟨h27, _⟩ := h
      replace h27 : A.tmps[27]?.getD undef = _ := h27
      have c1 := Keeps.of_below hR _ _ c1
      have c2 := Keeps.of_below hR _ _ c2
      go_simp
      (try go_bits)
      exact hN _ _ (Below.refl _ _) rfl
    · refine vk_none rfl fun A W hR h N hN => ?_
      refine vk_of N ?_
      obtain ⟨h28, _⟩ := h
      replace h28 : A.tmps[28]?.getD undef = _ := h28
      go_simp
      (try go_bits)
      exact hN _ _ ((Below.refl _ _).alloc (Nat.le_refl _) _) (by have h := SlO.lit (w := W) 4 (List.replicate n false) rfl (by simp; omega); rw [List.length_replicate] at h; exact ⟨h, Fr.new hR.size⟩)
  case v1_fin =>
    intro fa fW fk hR he
    have e1 := he.2.1
    have e3 := he.2.2.2.1
    have e5 := he.2.2.2.2.2.1
    have e8 := he.2.2.2.2.2.2.2.2.1
    have e11 := he.2.2.2.2.2.2.2.2.2.2.2.1
    clear he
    replace e1 : fa.tmps[19]?.getD undef = _ := e1
    replace fk := fk.more 19 _ e1
    clear e1
    replace e3 : fa.tmps[21]?.getD undef = _ := e3
    replace fk := fk.more 21 _ e3
    clear e3
    replace e5 : fa.tmps[23]?.getD undef = _ := e5
    replace fk := fk.more 23 _ e5
    clear e5
    obtain ⟨⟨A8, n8, c8, e8', hB8, r8⟩, hF8⟩ := e8
    rw [e8'] at hF8
    replace fk := fk.more 26 _ e8'
    obtain ⟨⟨A11, n11, c11, e11', hB11, r11⟩, hF11⟩ := e11
    rw [e11'] at hF11
    replace fk := fk.more 29 _ e11'
    have hD : SlB fW (List.replicate n 0) (.slice A8 n8 c8) := ⟨_, _, _, rfl, hB8, r8⟩
    have hG : SlO fW (List.replicate n false) (.slice A11 n11 c11) := ⟨_, _, _, rfl, hB11, r11⟩
    have H2 := Lib.hid (below_atK hR H2.out)
    have hb := below_then hb hR hb.size
    clear e8' e11' c1 c2
    refine kl_of _ _ ?_ fk
    clear fk fa
    simp only [nrm, lk, Nat.reduceBEq, cond_true, cond_false, List.take_succ_cons, List.take_zero, List.drop_succ_cons, List.drop_zero]
    rw [← HN.out]
    refine kl_build 32 _ (sesV ⟨f.id, f.size, f.sum, List.replicate n 0, List.replicate n false⟩ (.slice A8 n8 c8) (.slice A11 n11 c11)).toArray rfl rfl rfl (by rfl) (by rfl) (ses_built ⟨f.id, f.size, f.sum, List.replicate n 0, List.replicate n false⟩ (.slice A8 n8 c8) (.slice A11 n11 c11) HF.out rfl rfl) ?_
    refine kl_store_row 32 g2 _ _ zSes.toArray H2.out (infoS ⟨f.id, f.size, f.sum, _, _⟩ _ _ HF.out) (sizeZ ⟨f.id, f.size, f.sum, _, _⟩ _ _ HF.out) (sesV_one _ _ _ rfl rfl) rfl rfl rfl rfl rfl ?_
    repeat (first | refine kw_seq ?_ | refine kw_block ?_ | refine kw_skip ?_ | refine kw_region ?_ | refine kl_nil ?_ | refine kq_then ?_ | refine kq_block ?_ | refine kw_exit ?_ | refine kq_then_exit ?_ | refine kq_block_here rfl ?_ | refine kq_block_far rfl ?_ | refine kq_again_exit ?_ | refine kw_ret ?_ | refine kq_then_ret ?_ | refine kq_block_ret ?_ | refine kq_again_ret ?_ | refine kw_ift rfl ?_ | refine kw_iff rfl ?_ | refine kl_ung rfl rfl ?_ | refine kl_skipg rfl rfl rfl rfl ?_ | refine kl_skipg0 rfl rfl rfl ?_ | (first | refine kl_move rfl rfl (.inl rfl) rfl rfl ?_ | refine kl_move rfl rfl (.inr rfl) rfl rfl ?_ | refine kl_const rfl rfl (.inl rfl) rfl ?_ | refine kl_const rfl rfl (.inr rfl) rfl ?_) | ((first | refine kl_step rfl rfl rfl fun K hK => ?_ | refine kl_step0 rfl rfl rfl fun K hK => ?_); go_simp; (try go_bits); (first | refine hK _ _ ?_ | refine hK _ ?_); clear hK K))
    refine kq_retv (v := .tuple #[.agg (sesV ⟨f.id, f.size, f.sum, List.replicate n 0, List.replicate n false⟩ (.slice A8 n8 c8) (.slice A11 n11 c11)).toArray, .int .i64 0]) (fun a k => results_row_tmp rfl _ _ g2 32 _ (0, 0) _ _ (k.slot 2 rfl) (k.slot 3 rfl) (setRow_block H2.out) Try.underlying32 rfl (infoS ⟨f.id, f.size, f.sum, _, _⟩ _ _ HF.out)) ?_
    refine ⟨_, _, by rw [HSS.out, HEE.out], ?_, below_setRow hb b2 _, hF8.mono (by omega), hF11.mono (by omega)⟩
    rw [HSS.out]
    exact ⟨hM.id, hM.size, HF.out, hD.row (hF8.ne l2) _, hG.row (hF11.ne l2) _⟩
end Go.Proofs.Ytkgenkkcgegcbaa
