/- session.Whole. -/
import Derived.Test.YtkgenkkcgegcbaaSesCount
import Derived.Test.YtkgenkkcgegcbaaConcat
namespace Go.Proofs.Ytkgenkkcgegcbaa
open Go.RowKit
attribute [local go_sem] ev_tmp ev_const ev_func ev_global lk_hit lk_miss uponK_value uponK_skip look_tmp look_const look_global look_func
def wholeE (s : Ses) : Int := if 0 < cnt false s.got then 25 else if sha s.data = s.sum then 0 else 15
def wholeB (s : Ses) : List UInt8 := if wholeE s = 0 then s.data else []
def WholeP (s : Ses) (w : World) (e : Ending) (w' : World) : Prop := ∃ V, e = .returned (.tuple #[V, .int .i64 (wholeE s)]) ∧ SlB w' (wholeB s) V ∧ Below w.heap.size w w'
theorem wholeB_err {s : Ses} (h : wholeE s ≠ 0) : wholeB s = [] := if_neg h
set_option maxRecDepth 100000 in
set_option maxHeartbeats 1000000 in
theorem whole_any (s : Ses) (D G : Value) (w : World) (hM : SesM w s D G) (hg : s.got.length ≤ 1000000) (hd : s.data.length ≤ 1000000) :
    Calls Try.prog 21 #[.agg (sesV s D G).toArray] w (WholeP s w) := by
  obtain ⟨A, n, c, rfl, hB, hnc, hc⟩ := hM.data
  have hn : n ≤ 1000000 := by rw [← hB.len]; exact hd
  have HS := Lib.hid hM.sum
  have HDL := Lib.hid hd
  clear hd
  refine calls_kw Try.func21 rfl Try.ntmps21 rfl [(0, .agg (sesV s (.slice A n c) G).toArray)] rfl ?_
  refine kw_seq ?_
  refine kw_region ?_
  ((first | refine kl_step rfl rfl rfl fun K hK => ?_ | refine kl_step0 rfl rfl rfl fun K hK => ?_); go_simp; (try go_bits); (first | refine hK _ _ ?_ | refine hK _ ?_); clear hK K)
  obtain ⟨w1, hw1⟩ : ∃ w1, w1 = w.alloc (.cells (sesV s (.slice A n c) G).toArray 32) := ⟨_, rfl⟩
  have hbw1 : Below w.heap.size w w1 := by rw [hw1]; exact (Below.refl _ _).alloc (Nat.le_refl _) _
  have h1 : w1.heap[w.heap.size]? = some (.cells (sesV s (.slice A n c) G).toArray 32 (0, 0)) := by rw [hw1]; exact heap_alloc_new _ _
  have sw1 : w1.heap.size = w.heap.size + 1 := by rw [hw1]; simp
  rw [← hw1]
  clear hw1
  obtain ⟨g1, hg1⟩ : ∃ g, w.heap.size = g := ⟨_, rfl⟩
  rw [hg1] at h1
  have H1 := Lib.hid h1
  have b1 : w.heap.size ≤ g1 := by omega
  rw [hg1]
  clear hg1 h1 sw1
  have hM1 := hM.keep (.of_below hbw1)
  (first | refine kl_move rfl rfl (.inl rfl) rfl rfl ?_ | refine kl_move rfl rfl (.inr rfl) rfl rfl ?_ | refine kl_const rfl rfl (.inl rfl) rfl ?_ | refine kl_const rfl rfl (.inr rfl) rfl ?_)
  (first | refine kl_move rfl rfl (.inl rfl) rfl rfl ?_ | refine kl_move rfl rfl (.inr rfl) rfl rfl ?_ | refine kl_const rfl rfl (.inl rfl) rfl ?_ | refine kl_const rfl rfl (.inr rfl) rfl ?_)
  refine kl_nil ?_
  refine kq_then ?_
  refine kw_seq ?_
  refine kw_block ?_
  refine kw_seq ?_
  refine kw_region ?_
  refine kl_load_row 32 g1 _ _ _ _ H1.out Try.underlying32 rfl (infoS s _ _ HS.out) rfl rfl rfl rfl rfl ?_
  refine kl_call rfl rfl rfl Try.func19 rfl (by kernel_rfl) rfl ?_
  refine Calls.mono (left_any s _ _ _ hM1 (by omega)) ?_
  rintro e w2 ⟨rfl, hb2⟩
  refine ⟨_, rfl, ?_⟩
  have hb := below_two hbw1 hb2
  have H1 := Lib.hid (below_atK hb2 H1.out)
  clear hg hM1
  by_cases hl : 0 < cnt false s.got
  · have hE : wholeE s = 25 := if_pos hl
    have HE := Lib.hid hE
    have t1 : decide (0 < cnt false s.got) = true := by rw [decide_eq_true_eq]; exact hl
    have t2 : decide ((0 : Int) < (cnt false s.got : Int)) = true := by rw [decide_eq_true_eq]; omega
    clear hE hl
    repeat (first | refine kw_seq ?_ | refine kw_block ?_ | refine kw_skip ?_ | refine kw_region ?_ | refine kl_nil ?_ | refine kq_then ?_ | refine kq_block ?_ | refine kw_exit ?_ | refine kq_then_exit ?_ | refine kq_block_here rfl ?_ | refine kq_block_far rfl ?_ | refine kq_again_exit ?_ | refine kw_ret ?_ | refine kq_then_ret ?_ | refine kq_block_ret ?_ | refine kq_again_ret ?_ | refine kw_ift rfl ?_ | refine kw_iff rfl ?_ | refine kl_ung rfl rfl ?_ | refine kl_skipg rfl rfl rfl rfl ?_ | refine kl_skipg0 rfl rfl rfl ?_ | (first | refine kl_move rfl rfl (.inl rfl) rfl rfl ?_ | refine kl_move rfl rfl (.inr rfl) rfl rfl ?_ | refine kl_const rfl rfl (.inl rfl) rfl ?_ | refine kl_const rfl rfl (.inr rfl) rfl ?_) | ((first | refine kl_step rfl rfl rfl fun K hK => ?_ | refine kl_step0 rfl rfl rfl fun K hK => ?_); go_simp; (try go_bits); (first | refine hK _ _ ?_ | refine hK _ ?_); clear hK K))
    exact kq_ret2 rfl rfl rfl ⟨_, by rw [HE.out], by rw [wholeB_err (by rw [HE.out]; decide)]; exact SlB.nil _, hb⟩
  have t1 : decide (0 < cnt false s.got) = false := by rw [decide_eq_false_iff_not]; exact hl
  have t2 : decide ((0 : Int) < (cnt false s.got : Int)) = false := by rw [decide_eq_false_iff_not]; omega
  have HL := Lib.hid hl
  clear hl
  repeat (first | refine kw_seq ?_ | refine kw_block ?_ | refine kw_skip ?_ | refine kw_region ?_ | refine kl_nil ?_ | refine kq_then ?_ | refine kq_block ?_ | refine kw_exit ?_ | refine kq_then_exit ?_ | refine kq_block_here rfl ?_ | refine kq_block_far rfl ?_ | refine kq_again_exit ?_ | refine kw_ret ?_ | refine kq_then_ret ?_ | refine kq_block_ret ?_ | refine kq_again_ret ?_ | refine kw_ift rfl ?_ | refine kw_iff rfl ?_ | refine kl_ung rfl rfl ?_ | refine kl_skipg rfl rfl rfl rfl ?_ | refine kl_skipg0 rfl rfl rfl ?_ | (first | refine kl_move rfl rfl (.inl rfl) rfl rfl ?_ | refine kl_move rfl rfl (.inr rfl) rfl rfl ?_ | refine kl_const rfl rfl (.inl rfl) rfl ?_ | refine kl_const rfl rfl (.inr rfl) rfl ?_) | ((first | refine kl_step rfl rfl rfl fun K hK => ?_ | refine kl_step0 rfl rfl rfl fun K hK => ?_); go_simp; (try go_bits); (first | refine hK _ _ ?_ | refine hK _ ?_); clear hK K))
  clear t1 t2
  refine KW.less [1, 2, 3] ?_
  simp only [nrm, lk, Nat.reduceBEq, cond_true, cond_false]
  have c34 := ses_cell H1.out (ses_34 s _ _ HS.out)
  have HR := Lib.hid (ses_range H1.out)
  have hB2 := hB.keep (.of_below hb)
  by_cases heq : sha s.data = s.sum
  · have he : ∀ W, (Op.equalIn 10000 26 (.agg (bv (sha s.data)).toArray) (.agg (bv s.sum).toArray)).run Try.prog W = .ok true W := fun W => by rw [eqH W _ _ (length_sha _) HS.out, heq, beq_self_eq_true]
    have hE : wholeE s = 0 := by unfold wholeE; rw [if_neg HL.out, if_pos heq]
    have HE := Lib.hid hE
    clear hE heq
    refine kw_region_x [none, none, some (PsIs 1 [s.data]), none, none, none, none, none]
      [[(1, none)], [(9, some 0)], [(10, some 1)], [(11, some 2)], [(1, none)], [(13, some 4)], [(12, some 3), (14, some 5)], [(15, some 6)]]
      [1, 2, 3] (by kernel_rfl) (by kernel_rfl) (by kernel_rfl) (by kernel_rfl)
      ⟨mono_psIs _ _, trivial⟩ ?_
    repeat (first | apply exs_none | apply exs_some)
    refine exs_nil (And.intro ?v1_vc ?v1_fin)
    case v1_vc =>
      refine ⟨?_, ?_, ?_, ?_, ?_, ?_, ?_, ?_, trivial⟩
      · refine vk_none rfl fun A W hR h N hN => ?_
        refine vk_of N ?_
        obtain ⟨h1, _⟩ := h
        replace h1 := h1 _ rfl
        go_simp
        (try go_bits)
        exact hN _ _ (Below.refl _ _) rfl
      · refine vk_none rfl fun A W hR h N hN => ?_
        refine vk_of N ?_
        obtain ⟨h9, _⟩ := h
        replace h9 : A.tmps[9]?.getD undef = _ := h9
        have c34 := Keeps.of_below hR _ _ c34
        go_simp
        (try go_bits)
        exact hN _ _ (Below.refl _ _) rfl
      · refine vk_none rfl fun A W hR h N hN => ?_
        refine vk_of N ?_
        obtain ⟨h10, _⟩ := h
        replace h10 : A.tmps[10]?.getD undef = _ := h10
        go_simp
        (try go_bits)
        exact hN _ _ ((Below.refl _ _).alloc (Nat.le_refl _) _) ⟨_, rfl, Ps.lit1 _ rfl (hB2.keep (.of_below hR)) (by omega) (by omega)⟩
      · refine vk_call rfl rfl Try.func36 rfl (by kernel_rfl) fun A W hR h => ?_
        obtain ⟨h11, _⟩ := h
        obtain ⟨g, h11, hPg⟩ := h11
        show Calls _ _ #[A.tmps[11]?.getD undef] _ _
        rw [h11]
        refine Calls.mono (shaSum_any _ 1 1 [s.data] _ hPg (by omega) (by have := HDL.out; simp; omega)) ?_
        rw [show ([s.data] : List (List UInt8)).flatten = s.data by simp]
        rintro e W' ⟨rfl, hb'⟩
        exact ⟨_, rfl, hb', rfl⟩
      · refine vk_none rfl fun A W hR h N hN => ?_
        refine vk_of N ?_
        obtain ⟨h1, _⟩ := h
        replace h1 := h1 _ rfl
        go_simp
        (try go_bits)
        exact hN _ _ (Below.refl _ _) rfl
      · refine vk_none rfl fun A W hR h N hN => ?_
        refine vk_of N ?_
        obtain ⟨h13, _⟩ := h
        replace h13 : A.tmps[13]?.getD undef = _ := h13
        rw [run_loadMid (b := g1) (off := 2) 26 (.tmp 13) rfl h13 (bv s.sum) _ (rangeAt_below HR.out hR) hashUnder rfl (by rw [hashInfo, length_bv, HS.out])]
        exact hN _ _ (Below.refl _ _) rfl
      · refine vk_none rfl fun A W hR h N hN => ?_
        refine vk_of N ?_
        obtain ⟨h12, h14, _⟩ := h
        replace h12 : A.tmps[12]?.getD undef = _ := h12
        replace h14 : A.tmps[14]?.getD undef = _ := h14
        go_simp
        (try go_bits)
        exact hN _ _ (Below.refl _ _) rfl
      · exact vk_mov rfl (.inr rfl) fun A W _ h => h.1
    case v1_fin =>
      intro fa fW fk hR he
      have e7 := he.2.2.2.2.2.2.2.1
      clear he
      replace e7 : fa.tmps[8]?.getD undef = _ := e7
      replace fk := fk.more 8 _ e7
      clear e7
      have hb := below_then hb hR hb.size
      have H1 := Lib.hid (below_atK hR H1.out)
      have hB3 := hB2.keep (.of_below hR)
      clear hR c34
      refine kq_of _ _ ?_ fk
      clear fk fa
      simp only [nrm, lk, Nat.reduceBEq, cond_true, cond_false, List.take_succ_cons, List.take_zero, List.drop_succ_cons, List.drop_zero]
      have c34 := ses_cell H1.out (ses_34 s _ _ HS.out)
      repeat (first | refine kw_seq ?_ | refine kw_block ?_ | refine kw_skip ?_ | refine kw_region ?_ | refine kl_nil ?_ | refine kq_then ?_ | refine kq_block ?_ | refine kw_exit ?_ | refine kq_then_exit ?_ | refine kq_block_here rfl ?_ | refine kq_block_far rfl ?_ | refine kq_again_exit ?_ | refine kw_ret ?_ | refine kq_then_ret ?_ | refine kq_block_ret ?_ | refine kq_again_ret ?_ | refine kw_ift rfl ?_ | refine kw_iff rfl ?_ | refine kl_ung rfl rfl ?_ | refine kl_skipg rfl rfl rfl rfl ?_ | refine kl_skipg0 rfl rfl rfl ?_ | (first | refine kl_move rfl rfl (.inl rfl) rfl rfl ?_ | refine kl_move rfl rfl (.inr rfl) rfl rfl ?_ | refine kl_const rfl rfl (.inl rfl) rfl ?_ | refine kl_const rfl rfl (.inr rfl) rfl ?_) | ((first | refine kl_step rfl rfl rfl fun K hK => ?_ | refine kl_step0 rfl rfl rfl fun K hK => ?_); go_simp; (try go_bits); (first | refine hK _ _ ?_ | refine hK _ ?_); clear hK K))
      refine kl_call rfl rfl rfl Try.func37 rfl (by kernel_rfl) rfl ?_
      refine Calls.mono (clone_any _ _ _ s.data _ hB3 (by omega)) ?_
      rintro e w4 ⟨v, rfl, hown, hb4⟩
      refine ⟨_, rfl, ?_⟩
      have hb := below_then hb hb4 hb.size
      repeat (first | refine kw_seq ?_ | refine kw_block ?_ | refine kw_skip ?_ | refine kw_region ?_ | refine kl_nil ?_ | refine kq_then ?_ | refine kq_block ?_ | refine kw_exit ?_ | refine kq_then_exit ?_ | refine kq_block_here rfl ?_ | refine kq_block_far rfl ?_ | refine kq_again_exit ?_ | refine kw_ret ?_ | refine kq_then_ret ?_ | refine kq_block_ret ?_ | refine kq_again_ret ?_ | refine kw_ift rfl ?_ | refine kw_iff rfl ?_ | refine kl_ung rfl rfl ?_ | refine kl_skipg rfl rfl rfl rfl ?_ | refine kl_skipg0 rfl rfl rfl ?_ | (first | refine kl_move rfl rfl (.inl rfl) rfl rfl ?_ | refine kl_move rfl rfl (.inr rfl) rfl rfl ?_ | refine kl_const rfl rfl (.inl rfl) rfl ?_ | refine kl_const rfl rfl (.inr rfl) rfl ?_) | ((first | refine kl_step rfl rfl rfl fun K hK => ?_ | refine kl_step0 rfl rfl rfl fun K hK => ?_); go_simp; (try go_bits); (first | refine hK _ _ ?_ | refine hK _ ?_); clear hK K))
      obtain ⟨A5, c5, rfl, o1, o2, o3, _⟩ := own_slice hown
      exact kq_ret2 rfl rfl rfl ⟨_, by rw [HE.out], by unfold wholeB; rw [if_pos HE.out]; exact ⟨_, _, _, rfl, o3, o1, by simpa [maxLen] using o2⟩, hb⟩
  · have he : ∀ W, (Op.equalIn 10000 26 (.agg (bv (sha s.data)).toArray) (.agg (bv s.sum).toArray)).run Try.prog W = .ok false W := fun W => by rw [eqH W _ _ (length_sha _) HS.out, beq_eq_false_iff_ne.2 heq]
    have hE : wholeE s = 15 := by unfold wholeE; rw [if_neg HL.out, if_neg heq]
    have HE := Lib.hid hE
    clear hE heq
    refine kw_region_x [none, none, some (PsIs 1 [s.data]), none, none, none, none, none]
      [[(1, none)], [(9, some 0)], [(10, some 1)], [(11, some 2)], [(1, none)], [(13, some 4)], [(12, some 3), (14, some 5)], [(15, some 6)]]
      [1, 2, 3] (by kernel_rfl) (by kernel_rfl) (by kernel_rfl) (by kernel_rfl)
      ⟨mono_psIs _ _, trivial⟩ ?_
    repeat (first | apply exs_none | apply exs_some)
    refine exs_nil (And.intro ?v2_vc ?v2_fin)
    case v2_vc =>
      refine ⟨?_, ?_, ?_, ?_, ?_, ?_, ?_, ?_, trivial⟩
      · refine vk_none rfl fun A W hR h N hN => ?_
        refine vk_of N ?_
        obtain ⟨h1, _⟩ := h
        replace h1 := h1 _ rfl
        go_simp
        (try go_bits)
        exact hN _ _ (Below.refl _ _) rfl
      · refine vk_none rfl fun A W hR h N hN => ?_
        refine vk_of N ?_
        obtain ⟨h9, _⟩ := h
        replace h9 : A.tmps[9]?.getD undef = _ := h9
        have c34 := Keeps.of_below hR _ _ c34
        go_simp
        (try go_bits)
        exact hN _ _ (Below.refl _ _) rfl
      · refine vk_none rfl fun A W hR h N hN => ?_
        refine vk_of N ?_
        obtain ⟨h10, _⟩ := h
        replace h10 : A.tmps[10]?.getD undef = _ := h10
        go_simp
        (try go_bits)
        exact hN _ _ ((Below.refl _ _).alloc (Nat.le_refl _) _) ⟨_, rfl, Ps.lit1 _ rfl (hB2.keep (.of_below hR)) (by omega) (by omega)⟩
      · refine vk_call rfl rfl Try.func36 rfl (by kernel_rfl) fun A W hR h => ?_
        obtain ⟨h11, _⟩ := h
        obtain ⟨g, h11, hPg⟩ := h11
        show Calls _ _ #[A.tmps[11]?.getD undef] _ _
        rw [h11]
        refine Calls.mono (shaSum_any _ 1 1 [s.data] _ hPg (by omega) (by have := HDL.out; simp; omega)) ?_
        rw [show ([s.data] : List (List UInt8)).flatten = s.data by simp]
        rintro e W' ⟨rfl, hb'⟩
        exact ⟨_, rfl, hb', rfl⟩
      · refine vk_none rfl fun A W hR h N hN => ?_
        refine vk_of N ?_
        obtain ⟨h1, _⟩ := h
        replace h1 := h1 _ rfl
        go_simp
        (try go_bits)
        exact hN _ _ (Below.refl _ _) rfl
      · refine vk_none rfl fun A W hR h N hN => ?_
        refine vk_of N ?_
        obtain ⟨h13, _⟩ := h
        replace h13 : A.tmps[13]?.getD undef = _ := h13
        rw [run_loadMid (b := g1) (off := 2) 26 (.tmp 13) rfl h13 (bv s.sum) _ (rangeAt_below HR.out hR) hashUnder rfl (by rw [hashInfo, length_bv, HS.out])]
        exact hN _ _ (Below.refl _ _) rfl
      · refine vk_none rfl fun A W hR h N hN => ?_
        refine vk_of N ?_
        obtain ⟨h12, h14, _⟩ := h
        replace h12 : A.tmps[12]?.getD undef = _ := h12
        replace h14 : A.tmps[14]?.getD undef = _ := h14
        go_simp
        (try go_bits)
        exact hN _ _ (Below.refl _ _) rfl
      · exact vk_mov rfl (.inr rfl) fun A W _ h => h.1
    case v2_fin =>
      intro fa fW fk hR he
      have e7 := he.2.2.2.2.2.2.2.1
      clear he
      replace e7 : fa.tmps[8]?.getD undef = _ := e7
      replace fk := fk.more 8 _ e7
      clear e7
      have hb := below_then hb hR hb.size
      have H1 := Lib.hid (below_atK hR H1.out)
      have hB3 := hB2.keep (.of_below hR)
      clear hR c34
      refine kq_of _ _ ?_ fk
      clear fk fa
      simp only [nrm, lk, Nat.reduceBEq, cond_true, cond_false, List.take_succ_cons, List.take_zero, List.drop_succ_cons, List.drop_zero]
      repeat (first | refine kw_seq ?_ | refine kw_block ?_ | refine kw_skip ?_ | refine kw_region ?_ | refine kl_nil ?_ | refine kq_then ?_ | refine kq_block ?_ | refine kw_exit ?_ | refine kq_then_exit ?_ | refine kq_block_here rfl ?_ | refine kq_block_far rfl ?_ | refine kq_again_exit ?_ | refine kw_ret ?_ | refine kq_then_ret ?_ | refine kq_block_ret ?_ | refine kq_again_ret ?_ | refine kw_ift rfl ?_ | refine kw_iff rfl ?_ | refine kl_ung rfl rfl ?_ | refine kl_skipg rfl rfl rfl rfl ?_ | refine kl_skipg0 rfl rfl rfl ?_ | (first | refine kl_move rfl rfl (.inl rfl) rfl rfl ?_ | refine kl_move rfl rfl (.inr rfl) rfl rfl ?_ | refine kl_const rfl rfl (.inl rfl) rfl ?_ | refine kl_const rfl rfl (.inr rfl) rfl ?_) | ((first | refine kl_step rfl rfl rfl fun K hK => ?_ | refine kl_step0 rfl rfl rfl fun K hK => ?_); go_simp; (try go_bits); (first | refine hK _ _ ?_ | refine hK _ ?_); clear hK K))
      exact kq_ret2 rfl rfl rfl ⟨_, by rw [HE.out], by rw [wholeB_err (by rw [HE.out]; decide)]; exact SlB.nil _, hb⟩
end Go.Proofs.Ytkgenkkcgegcbaa
