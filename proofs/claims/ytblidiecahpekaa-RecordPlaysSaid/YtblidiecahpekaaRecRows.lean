/- RecordRows: the walk. -/
import Derived.Test.YtblidiecahpekaaRecKnown
import Derived.Test.YtblidiecahpekaaAppendB
set_option linter.unusedVariables false
set_option linter.unusedSimpArgs false
namespace Go.Proofs.Ytblidiecahpekaa
open Go.RowKit
attribute [local go_sem] ev_tmp ev_const ev_func ev_global lk_hit lk_miss uponK_value uponK_skip look_tmp look_const look_global look_func valP_value
theorem kl_makeB {Q : Exit → Act → World → Prop} {n : Nat} {L : Slots} {w : World} {ops : Array Oper} {rest : List Oper} {o : Oper} {d y k : Nat} (hd : o.dst = some d) (hg : o.guard = none) (ho : o.op = .makeSlice 32 (.tmp y) (.tmp y)) (hy : lk L y = some (.int .i64 (k : Int))) (hk : k ≤ 140737488355328) (hn : Nat.blt d n = true)
    (h : ∀ g w', Hid (g = w.heap.size) → Below w.heap.size w w' → Bs w' (some ⟨g, 0, none⟩) k (List.replicate k 0) → KL Try.prog ops Q rest n ((d, .slice (some ⟨g, 0, none⟩) k k) :: L) w') : KL Try.prog ops Q (o :: rest) n L w :=
  kl_step hd hg (by simp [ho, okop, okx, hy, hn]) fun K hK => by
    have he : ev L (.tmp y) = .int .i64 (k : Int) := by simp [ev, hy]
    have hr : (execOp (ev L) o).run Try.prog w = .ok (.value (.slice (some ⟨w.heap.size, 0, none⟩) k k)) (w.alloc (.cells (bv (List.replicate k 0)).toArray 5)) := by
      simp [execOp, ho, he, makeBytes k hk, Sem.run_bind, Result.andThen]
    rw [hr]
    exact hK _ _ (h _ _ (by show _ = _; rfl) ((Below.refl _ _).alloc (Nat.le_refl _) _) (Bs.lit _ rfl _ (by simp) rfl))
set_option maxRecDepth 100000 in
set_option maxHeartbeats 2000000 in
theorem recordRows_top (s z : Int) (w : World) (hs : -9223372036854775808 ≤ s ∧ s ≤ 9223372036854775807) (_ : -9223372036854775808 ≤ z ∧ z ≤ 9223372036854775807) : Calls Try.prog 6 #[.int .i64 s, .int .i64 z] w fun e w' => e = .returned (.bool true) ∧ Below w.heap.size w w' := by
  refine calls_kw Try.func6 rfl Try.ntmps6 rfl [(0, .int .i64 s), (1, .int .i64 z)] rfl ?_
  repeat (first | refine kw_seq ?_ | refine kw_block ?_ | refine kw_skip ?_ | refine kw_region ?_ | refine kl_nil ?_ | refine kq_then ?_ | refine kq_block ?_ | refine kw_exit ?_ | refine kq_then_exit ?_ | refine kq_block_here rfl ?_ | refine kq_block_far rfl ?_ | refine kq_again_exit ?_ | refine kw_ret ?_ | refine kq_then_ret ?_ | refine kq_block_ret ?_ | refine kq_again_ret ?_ | refine kw_ift rfl ?_ | refine kw_iff rfl ?_ | refine kl_ung rfl rfl ?_ | refine kl_skipg rfl rfl rfl rfl ?_ | refine kl_skipg0 rfl rfl rfl ?_ | (first | refine kl_move rfl rfl (.inl rfl) rfl rfl ?_ | refine kl_move rfl rfl (.inr rfl) rfl rfl ?_ | refine kl_const rfl rfl (.inl rfl) rfl ?_ | refine kl_const rfl rfl (.inr rfl) rfl ?_) | ((first | refine kl_step rfl rfl rfl fun K hK => ?_ | refine kl_step0 rfl rfl rfl fun K hK => ?_); go_simp; (try go_bits); (first | refine hK _ _ ?_ | refine hK _ ?_); clear hK K))
  refine kl_call rfl rfl rfl Try.func10 rfl (by kernel_rfl) rfl ?_
  refine Calls.mono (known5_any w) ?_
  rintro e w0 ⟨rfl, hb0⟩
  refine ⟨_, rfl, ?_⟩
  repeat (first | refine kw_seq ?_ | refine kw_block ?_ | refine kw_skip ?_ | refine kw_region ?_ | refine kl_nil ?_ | refine kq_then ?_ | refine kq_block ?_ | refine kw_exit ?_ | refine kq_then_exit ?_ | refine kq_block_here rfl ?_ | refine kq_block_far rfl ?_ | refine kq_again_exit ?_ | refine kw_ret ?_ | refine kq_then_ret ?_ | refine kq_block_ret ?_ | refine kq_again_ret ?_ | refine kw_ift rfl ?_ | refine kw_iff rfl ?_ | refine kl_ung rfl rfl ?_ | refine kl_skipg rfl rfl rfl rfl ?_ | refine kl_skipg0 rfl rfl rfl ?_ | (first | refine kl_move rfl rfl (.inl rfl) rfl rfl ?_ | refine kl_move rfl rfl (.inr rfl) rfl rfl ?_ | refine kl_const rfl rfl (.inl rfl) rfl ?_ | refine kl_const rfl rfl (.inr rfl) rfl ?_) | ((first | refine kl_step rfl rfl rfl fun K hK => ?_ | refine kl_step0 rfl rfl rfl fun K hK => ?_); go_simp; (try go_bits); (first | refine hK _ _ ?_ | refine hK _ ?_); clear hK K))
  refine kl_call rfl rfl rfl Try.func14 rfl (by kernel_rfl) rfl ?_
  refine Calls.mono (new_any w0) ?_
  rintro e w1 ⟨rfl, hf1, hb1⟩
  refine ⟨_, rfl, ?_⟩
  obtain ⟨g, hg⟩ : ∃ g, w0.heap.size = g := ⟨_, rfl⟩
  have HS0 := Lib.hid hb0.size
  have hb11 := below_then hb0 hb1 hb0.size
  rw [hg] at hf1 ⊢
  have HG : Hid (w.heap.size ≤ g) := by show _ ≤ _; have := HS0.out; omega
  have hf1 : FS NoB w1 g newF := hf1
  clear hg hb0 hb1
  repeat (first | refine kw_seq ?_ | refine kw_block ?_ | refine kw_skip ?_ | refine kw_region ?_ | refine kl_nil ?_ | refine kq_then ?_ | refine kq_block ?_ | refine kw_exit ?_ | refine kq_then_exit ?_ | refine kq_block_here rfl ?_ | refine kq_block_far rfl ?_ | refine kq_again_exit ?_ | refine kw_ret ?_ | refine kq_then_ret ?_ | refine kq_block_ret ?_ | refine kq_again_ret ?_ | refine kw_ift rfl ?_ | refine kw_iff rfl ?_ | refine kl_ung rfl rfl ?_ | refine kl_skipg rfl rfl rfl rfl ?_ | refine kl_skipg0 rfl rfl rfl ?_ | (first | refine kl_move rfl rfl (.inl rfl) rfl rfl ?_ | refine kl_move rfl rfl (.inr rfl) rfl rfl ?_ | refine kl_const rfl rfl (.inl rfl) rfl ?_ | refine kl_const rfl rfl (.inr rfl) rfl ?_) | ((first | refine kl_step rfl rfl rfl fun K hK => ?_ | refine kl_step0 rfl rfl rfl fun K hK => ?_); go_simp; (try go_bits); (first | refine hK _ _ ?_ | refine hK _ ?_); clear hK K))
  refine kl_call rfl rfl rfl Try.func11 rfl (by kernel_rfl) rfl ?_
  refine Calls.mono (within_any z 8 8 w1 rfl (by omega) (by omega)) ?_
  rintro e _ ⟨rfl, rfl⟩
  refine ⟨_, rfl, ?_⟩
  have hk := within_lt z 8 (by omega)
  obtain ⟨k, hk'⟩ : ∃ k, within z 8 = k := ⟨_, rfl⟩
  rw [hk'] at hk ⊢
  clear hk'
  obtain ⟨m, hm⟩ : ∃ m, 1015 + k = m := ⟨_, rfl⟩
  have j1 : (1015 : Int) + (k : Int) = (m : Int) := by omega
  have j2 : (0 : Int) ≤ m := by omega
  have j3 : (m : Int) ≤ 1022 := by omega
  have hm9 : m ≤ 1022 := by omega
  have HM := Lib.hid hm
  clear hm hk
  repeat (first | refine kw_seq ?_ | refine kw_region ?_ | refine kl_nil ?_ | refine kq_then ?_ | (first | refine kl_move rfl rfl (.inl rfl) rfl rfl ?_ | refine kl_move rfl rfl (.inr rfl) rfl rfl ?_ | refine kl_const rfl rfl (.inl rfl) rfl ?_ | refine kl_const rfl rfl (.inr rfl) rfl ?_) | ((first | refine kl_step rfl rfl rfl fun K hK => ?_ | refine kl_step0 rfl rfl rfl fun K hK => ?_); go_simp; (try go_bits); (first | refine hK _ _ ?_ | refine hK _ ?_); clear hK K))
  refine kl_makeB (k := m) rfl rfl rfl rfl (by omega) rfl fun gm w3 hgm hb3 hB3 => ?_
  have hf3 := hf1.below hb3
  have hb13 := below_then hb11 hb3 hb11.size
  clear hf1 hb11 hb3 hgm
  repeat (first | (first | refine kl_move rfl rfl (.inl rfl) rfl rfl ?_ | refine kl_move rfl rfl (.inr rfl) rfl rfl ?_ | refine kl_const rfl rfl (.inl rfl) rfl ?_ | refine kl_const rfl rfl (.inr rfl) rfl ?_) | ((first | refine kl_step rfl rfl rfl fun K hK => ?_ | refine kl_step0 rfl rfl rfl fun K hK => ?_); go_simp; (try go_bits); (first | refine hK _ _ ?_ | refine hK _ ?_); clear hK K))
  have hln : (List.replicate m (0 : UInt8)).length = m := List.length_replicate
  by_cases h1 : 1018 < m
  · have HE := Lib.hid (append_long newF s (List.replicate m 0) (by rw [hln]; exact h1))
    have HR : Hid ((loadR (readF newF s)).1 = []) := by
      show _ = _
      by_cases h2 : s < 0 ∨ 6 ≤ s
      · rw [loadR_none newF s h2]
      · obtain ⟨k', rfl⟩ : ∃ k' : Nat, s = k' := ⟨s.toNat, by omega⟩
        rw [(packed_new k' (by omega)).load]
    have t1 : decide ((1018 : Int) < (m : Int)) = true := by rw [decide_eq_true_eq]; omega
    have t1n : decide (1018 < m) = true := decide_eq_true h1
    clear h1 hln
    refine kl_call rfl rfl rfl Try.func15 rfl (by kernel_rfl) rfl ?_
    refine Calls.mono (append_any NoB g (noB g) newF s (some ⟨gm, 0, none⟩) m m (List.replicate m 0) w3 hf3 hs hB3 (Nat.le_refl _) (by omega)) ?_
    rintro e w4 ⟨rfl, hf4, hg4⟩
    refine ⟨_, rfl, ?_⟩
    rw [HE.out] at hf4 ⊢
    dsimp only at hf4 ⊢
    have hb14 := below_grown hb13 hg4 hb13.size (by have := HG.out; omega)
    clear hf3 hb13 hg4 hB3
    repeat (first | refine kw_seq ?_ | refine kw_block ?_ | refine kw_skip ?_ | refine kw_region ?_ | refine kl_nil ?_ | refine kq_then ?_ | refine kq_block ?_ | refine kw_exit ?_ | refine kq_then_exit ?_ | refine kq_block_here rfl ?_ | refine kq_block_far rfl ?_ | refine kq_again_exit ?_ | refine kw_ret ?_ | refine kq_then_ret ?_ | refine kq_block_ret ?_ | refine kq_again_ret ?_ | refine kw_ift rfl ?_ | refine kw_iff rfl ?_ | refine kl_ung rfl rfl ?_ | refine kl_skipg rfl rfl rfl rfl ?_ | refine kl_skipg0 rfl rfl rfl ?_ | (first | refine kl_move rfl rfl (.inl rfl) rfl rfl ?_ | refine kl_move rfl rfl (.inr rfl) rfl rfl ?_ | refine kl_const rfl rfl (.inl rfl) rfl ?_ | refine kl_const rfl rfl (.inr rfl) rfl ?_) | ((first | refine kl_step rfl rfl rfl fun K hK => ?_ | refine kl_step0 rfl rfl rfl fun K hK => ?_); go_simp; (try go_bits); (first | refine hK _ _ ?_ | refine hK _ ?_); clear hK K))
    refine kl_call rfl rfl rfl Try.func16 rfl (by kernel_rfl) rfl ?_
    refine Calls.mono (load_any NoB g newF s w4 hf4) ?_
    rintro e w5 ⟨A2, n2, c2, rfl, hp2, _, _, hb5⟩
    refine ⟨_, rfl, ?_⟩
    have hn2 := ps_len hp2
    rw [HR.out] at hn2
    have hn2 : n2 = 0 := by simpa using hn2.symm
    subst hn2
    have hb15 := below_then hb14 hb5 hb14.size
    clear hp2 hf4 hb14 hb5
    repeat (first | refine kw_seq ?_ | refine kw_block ?_ | refine kw_skip ?_ | refine kw_region ?_ | refine kl_nil ?_ | refine kq_then ?_ | refine kq_block ?_ | refine kw_exit ?_ | refine kq_then_exit ?_ | refine kq_block_here rfl ?_ | refine kq_block_far rfl ?_ | refine kq_again_exit ?_ | refine kw_ret ?_ | refine kq_then_ret ?_ | refine kq_block_ret ?_ | refine kq_again_ret ?_ | refine kw_ift rfl ?_ | refine kw_iff rfl ?_ | refine kl_ung rfl rfl ?_ | refine kl_skipg rfl rfl rfl rfl ?_ | refine kl_skipg0 rfl rfl rfl ?_ | (first | refine kl_move rfl rfl (.inl rfl) rfl rfl ?_ | refine kl_move rfl rfl (.inr rfl) rfl rfl ?_ | refine kl_const rfl rfl (.inl rfl) rfl ?_ | refine kl_const rfl rfl (.inr rfl) rfl ?_) | ((first | refine kl_step rfl rfl rfl fun K hK => ?_ | refine kl_step0 rfl rfl rfl fun K hK => ?_); go_simp; (try go_bits); (first | refine hK _ _ ?_ | refine hK _ ?_); clear hK K))
    exact kq_ret1 rfl rfl ⟨rfl, hb15⟩
  have t1 : decide ((1018 : Int) < (m : Int)) = false := by rw [decide_eq_false_iff_not]; omega
  have t1n : decide (1018 < m) = false := decide_eq_false h1
  by_cases h2 : s < 0
  · have HE := Lib.hid (append_addr newF s (List.replicate m 0) (by rw [hln]; omega) (.inl h2))
    have HR : Hid ((loadR (readF newF s)).1 = []) := by show _ = _; rw [loadR_none newF s (.inl h2)]
    have t2 : decide (s < 0) = true := decide_eq_true h2
    clear h1 h2 hln
    refine kl_call rfl rfl rfl Try.func15 rfl (by kernel_rfl) rfl ?_
    refine Calls.mono (append_any NoB g (noB g) newF s (some ⟨gm, 0, none⟩) m m (List.replicate m 0) w3 hf3 hs hB3 (Nat.le_refl _) (by omega)) ?_
    rintro e w4 ⟨rfl, hf4, hg4⟩
    refine ⟨_, rfl, ?_⟩
    rw [HE.out] at hf4 ⊢
    dsimp only at hf4 ⊢
    have hb14 := below_grown hb13 hg4 hb13.size (by have := HG.out; omega)
    clear hf3 hb13 hg4 hB3
    repeat (first | refine kw_seq ?_ | refine kw_block ?_ | refine kw_skip ?_ | refine kw_region ?_ | refine kl_nil ?_ | refine kq_then ?_ | refine kq_block ?_ | refine kw_exit ?_ | refine kq_then_exit ?_ | refine kq_block_here rfl ?_ | refine kq_block_far rfl ?_ | refine kq_again_exit ?_ | refine kw_ret ?_ | refine kq_then_ret ?_ | refine kq_block_ret ?_ | refine kq_again_ret ?_ | refine kw_ift rfl ?_ | refine kw_iff rfl ?_ | refine kl_ung rfl rfl ?_ | refine kl_skipg rfl rfl rfl rfl ?_ | refine kl_skipg0 rfl rfl rfl ?_ | (first | refine kl_move rfl rfl (.inl rfl) rfl rfl ?_ | refine kl_move rfl rfl (.inr rfl) rfl rfl ?_ | refine kl_const rfl rfl (.inl rfl) rfl ?_ | refine kl_const rfl rfl (.inr rfl) rfl ?_) | ((first | refine kl_step rfl rfl rfl fun K hK => ?_ | refine kl_step0 rfl rfl rfl fun K hK => ?_); go_simp; (try go_bits); (first | refine hK _ _ ?_ | refine hK _ ?_); clear hK K))
    refine kl_call rfl rfl rfl Try.func16 rfl (by kernel_rfl) rfl ?_
    refine Calls.mono (load_any NoB g newF s w4 hf4) ?_
    rintro e w5 ⟨A2, n2, c2, rfl, hp2, _, _, hb5⟩
    refine ⟨_, rfl, ?_⟩
    have hn2 := ps_len hp2
    rw [HR.out] at hn2
    have hn2 : n2 = 0 := by simpa using hn2.symm
    subst hn2
    have hb15 := below_then hb14 hb5 hb14.size
    clear hp2 hf4 hb14 hb5
    repeat (first | refine kw_seq ?_ | refine kw_block ?_ | refine kw_skip ?_ | refine kw_region ?_ | refine kl_nil ?_ | refine kq_then ?_ | refine kq_block ?_ | refine kw_exit ?_ | refine kq_then_exit ?_ | refine kq_block_here rfl ?_ | refine kq_block_far rfl ?_ | refine kq_again_exit ?_ | refine kw_ret ?_ | refine kq_then_ret ?_ | refine kq_block_ret ?_ | refine kq_again_ret ?_ | refine kw_ift rfl ?_ | refine kw_iff rfl ?_ | refine kl_ung rfl rfl ?_ | refine kl_skipg rfl rfl rfl rfl ?_ | refine kl_skipg0 rfl rfl rfl ?_ | (first | refine kl_move rfl rfl (.inl rfl) rfl rfl ?_ | refine kl_move rfl rfl (.inr rfl) rfl rfl ?_ | refine kl_const rfl rfl (.inl rfl) rfl ?_ | refine kl_const rfl rfl (.inr rfl) rfl ?_) | ((first | refine kl_step rfl rfl rfl fun K hK => ?_ | refine kl_step0 rfl rfl rfl fun K hK => ?_); go_simp; (try go_bits); (first | refine hK _ _ ?_ | refine hK _ ?_); clear hK K))
    exact kq_ret1 rfl rfl ⟨rfl, hb15⟩
  have t2 : decide (s < 0) = false := decide_eq_false h2
  by_cases h3 : 5 < s
  · have HE := Lib.hid (append_addr newF s (List.replicate m 0) (by rw [hln]; omega) (.inr (by omega)))
    have HR : Hid ((loadR (readF newF s)).1 = []) := by show _ = _; rw [loadR_none newF s (.inr (by omega))]
    have t3 : decide (5 < s) = true := decide_eq_true h3
    clear h1 h2 h3 hln
    refine kl_call rfl rfl rfl Try.func15 rfl (by kernel_rfl) rfl ?_
    refine Calls.mono (append_any NoB g (noB g) newF s (some ⟨gm, 0, none⟩) m m (List.replicate m 0) w3 hf3 hs hB3 (Nat.le_refl _) (by omega)) ?_
    rintro e w4 ⟨rfl, hf4, hg4⟩
    refine ⟨_, rfl, ?_⟩
    rw [HE.out] at hf4 ⊢
    dsimp only at hf4 ⊢
    have hb14 := below_grown hb13 hg4 hb13.size (by have := HG.out; omega)
    clear hf3 hb13 hg4 hB3
    repeat (first | refine kw_seq ?_ | refine kw_block ?_ | refine kw_skip ?_ | refine kw_region ?_ | refine kl_nil ?_ | refine kq_then ?_ | refine kq_block ?_ | refine kw_exit ?_ | refine kq_then_exit ?_ | refine kq_block_here rfl ?_ | refine kq_block_far rfl ?_ | refine kq_again_exit ?_ | refine kw_ret ?_ | refine kq_then_ret ?_ | refine kq_block_ret ?_ | refine kq_again_ret ?_ | refine kw_ift rfl ?_ | refine kw_iff rfl ?_ | refine kl_ung rfl rfl ?_ | refine kl_skipg rfl rfl rfl rfl ?_ | refine kl_skipg0 rfl rfl rfl ?_ | (first | refine kl_move rfl rfl (.inl rfl) rfl rfl ?_ | refine kl_move rfl rfl (.inr rfl) rfl rfl ?_ | refine kl_const rfl rfl (.inl rfl) rfl ?_ | refine kl_const rfl rfl (.inr rfl) rfl ?_) | ((first | refine kl_step rfl rfl rfl fun K hK => ?_ | refine kl_step0 rfl rfl rfl fun K hK => ?_); go_simp; (try go_bits); (first | refine hK _ _ ?_ | refine hK _ ?_); clear hK K))
    refine kl_call rfl rfl rfl Try.func16 rfl (by kernel_rfl) rfl ?_
    refine Calls.mono (load_any NoB g newF s w4 hf4) ?_
    rintro e w5 ⟨A2, n2, c2, rfl, hp2, _, _, hb5⟩
    refine ⟨_, rfl, ?_⟩
    have hn2 := ps_len hp2
    rw [HR.out] at hn2
    have hn2 : n2 = 0 := by simpa using hn2.symm
    subst hn2
    have hb15 := below_then hb14 hb5 hb14.size
    clear hp2 hf4 hb14 hb5
    repeat (first | refine kw_seq ?_ | refine kw_block ?_ | refine kw_skip ?_ | refine kw_region ?_ | refine kl_nil ?_ | refine kq_then ?_ | refine kq_block ?_ | refine kw_exit ?_ | refine kq_then_exit ?_ | refine kq_block_here rfl ?_ | refine kq_block_far rfl ?_ | refine kq_again_exit ?_ | refine kw_ret ?_ | refine kq_then_ret ?_ | refine kq_block_ret ?_ | refine kq_again_ret ?_ | refine kw_ift rfl ?_ | refine kw_iff rfl ?_ | refine kl_ung rfl rfl ?_ | refine kl_skipg rfl rfl rfl rfl ?_ | refine kl_skipg0 rfl rfl rfl ?_ | (first | refine kl_move rfl rfl (.inl rfl) rfl rfl ?_ | refine kl_move rfl rfl (.inr rfl) rfl rfl ?_ | refine kl_const rfl rfl (.inl rfl) rfl ?_ | refine kl_const rfl rfl (.inr rfl) rfl ?_) | ((first | refine kl_step rfl rfl rfl fun K hK => ?_ | refine kl_step0 rfl rfl rfl fun K hK => ?_); go_simp; (try go_bits); (first | refine hK _ _ ?_ | refine hK _ ?_); clear hK K))
    exact kq_ret1 rfl rfl ⟨rfl, hb15⟩
  have t3 : decide (5 < s) = false := decide_eq_false h3
  have hex : ∃ f1, appendP newF s (List.replicate m 0) = (0, f1) ∧ ∃ x, (loadR (readF f1 s)).1 = [x] := by
    obtain ⟨k', rfl⟩ : ∃ k' : Nat, s = k' := ⟨s.toNat, by omega⟩
    have hpg := pagesN_lt m
    obtain ⟨f1, ha, _, hP, _⟩ := append_packed newF live_new k' (by omega) [] (packed_new k' (by omega)) (List.replicate m 0) (by rw [hln]; omega) (by rw [hln]; show 0 + _ ≤ 64; omega)
    exact ⟨f1, ha, _, by rw [hP.load]; rfl⟩
  obtain ⟨f1, ha, x, hx⟩ := hex
  have HE := Lib.hid ha
  have HR := Lib.hid hx
  clear h1 h2 h3 hln ha hx
  refine kl_call rfl rfl rfl Try.func15 rfl (by kernel_rfl) rfl ?_
  refine Calls.mono (append_any NoB g (noB g) newF s (some ⟨gm, 0, none⟩) m m (List.replicate m 0) w3 hf3 hs hB3 (Nat.le_refl _) (by omega)) ?_
  rintro e w4 ⟨rfl, hf4, hg4⟩
  refine ⟨_, rfl, ?_⟩
  rw [HE.out] at hf4 ⊢
  dsimp only at hf4 ⊢
  have hb14 := below_grown hb13 hg4 hb13.size (by have := HG.out; omega)
  clear hf3 hb13 hg4 hB3
  repeat (first | refine kw_seq ?_ | refine kw_block ?_ | refine kw_skip ?_ | refine kw_region ?_ | refine kl_nil ?_ | refine kq_then ?_ | refine kq_block ?_ | refine kw_exit ?_ | refine kq_then_exit ?_ | refine kq_block_here rfl ?_ | refine kq_block_far rfl ?_ | refine kq_again_exit ?_ | refine kw_ret ?_ | refine kq_then_ret ?_ | refine kq_block_ret ?_ | refine kq_again_ret ?_ | refine kw_ift rfl ?_ | refine kw_iff rfl ?_ | refine kl_ung rfl rfl ?_ | refine kl_skipg rfl rfl rfl rfl ?_ | refine kl_skipg0 rfl rfl rfl ?_ | (first | refine kl_move rfl rfl (.inl rfl) rfl rfl ?_ | refine kl_move rfl rfl (.inr rfl) rfl rfl ?_ | refine kl_const rfl rfl (.inl rfl) rfl ?_ | refine kl_const rfl rfl (.inr rfl) rfl ?_) | ((first | refine kl_step rfl rfl rfl fun K hK => ?_ | refine kl_step0 rfl rfl rfl fun K hK => ?_); go_simp; (try go_bits); (first | refine hK _ _ ?_ | refine hK _ ?_); clear hK K))
  refine kl_call rfl rfl rfl Try.func16 rfl (by kernel_rfl) rfl ?_
  refine Calls.mono (load_any NoB g f1 s w4 hf4) ?_
  rintro e w5 ⟨A2, n2, c2, rfl, hp2, _, _, hb5⟩
  refine ⟨_, rfl, ?_⟩
  have hn2 := ps_len hp2
  rw [HR.out] at hn2
  have hn2 : n2 = 1 := by simpa using hn2.symm
  subst hn2
  have hb15 := below_then hb14 hb5 hb14.size
  clear hp2 hf4 hb14 hb5
  repeat (first | refine kw_seq ?_ | refine kw_block ?_ | refine kw_skip ?_ | refine kw_region ?_ | refine kl_nil ?_ | refine kq_then ?_ | refine kq_block ?_ | refine kw_exit ?_ | refine kq_then_exit ?_ | refine kq_block_here rfl ?_ | refine kq_block_far rfl ?_ | refine kq_again_exit ?_ | refine kw_ret ?_ | refine kq_then_ret ?_ | refine kq_block_ret ?_ | refine kq_again_ret ?_ | refine kw_ift rfl ?_ | refine kw_iff rfl ?_ | refine kl_ung rfl rfl ?_ | refine kl_skipg rfl rfl rfl rfl ?_ | refine kl_skipg0 rfl rfl rfl ?_ | (first | refine kl_move rfl rfl (.inl rfl) rfl rfl ?_ | refine kl_move rfl rfl (.inr rfl) rfl rfl ?_ | refine kl_const rfl rfl (.inl rfl) rfl ?_ | refine kl_const rfl rfl (.inr rfl) rfl ?_) | ((first | refine kl_step rfl rfl rfl fun K hK => ?_ | refine kl_step0 rfl rfl rfl fun K hK => ?_); go_simp; (try go_bits); (first | refine hK _ _ ?_ | refine hK _ ?_); clear hK K))
  exact kq_ret1 rfl rfl ⟨rfl, hb15⟩
end Go.Proofs.Ytblidiecahpekaa
