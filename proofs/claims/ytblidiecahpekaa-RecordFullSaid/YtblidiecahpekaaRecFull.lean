/- RecordFull: the walk. -/
import Derived.Test.YtblidiecahpekaaRecRows
namespace Go.Proofs.Ytblidiecahpekaa
open Go.RowKit
attribute [local go_sem] ev_tmp ev_const ev_func ev_global lk_hit lk_miss uponK_value uponK_skip look_tmp look_const look_global look_func valP_value
theorem used_rep (x : List UInt8) (G : Nat) (hG : pagesN x.length = G) : ∀ i, usedP (List.replicate i x) = i * G
  | 0 => by simp [usedP]
  | i + 1 => by rw [List.replicate_succ, usedP_cons, used_rep x G hG i, hG, Nat.add_mul]; omega
theorem rep_snoc (x : List UInt8) (i : Nat) : List.replicate i x ++ [x] = List.replicate (i + 1) x := by rw [← List.replicate_succ']
set_option maxRecDepth 100000 in
set_option maxHeartbeats 2000000 in
theorem recordFull_top (z : Int) (w : World) (_ : -9223372036854775808 ≤ z ∧ z ≤ 9223372036854775807) : Calls Try.prog 7 #[.int .i64 z] w fun e w' => e = .returned (.bool true) ∧ Below w.heap.size w w' := by
  refine calls_kw Try.func7 rfl Try.ntmps7 rfl [(0, .int .i64 z)] rfl ?_
  repeat (first | refine kw_seq ?_ | refine kw_block ?_ | refine kw_skip ?_ | refine kw_region ?_ | refine kl_nil ?_ | refine kq_then ?_ | refine kq_block ?_ | refine kw_exit ?_ | refine kq_then_exit ?_ | refine kq_block_here rfl ?_ | refine kq_block_far rfl ?_ | refine kq_again_exit ?_ | refine kw_ret ?_ | refine kq_then_ret ?_ | refine kq_block_ret ?_ | refine kq_again_ret ?_ | refine kw_ift rfl ?_ | refine kw_iff rfl ?_ | refine kl_ung rfl rfl ?_ | refine kl_skipg rfl rfl rfl rfl ?_ | refine kl_skipg0 rfl rfl rfl ?_ | (first | refine kl_move rfl rfl (.inl rfl) rfl rfl ?_ | refine kl_move rfl rfl (.inr rfl) rfl rfl ?_ | refine kl_const rfl rfl (.inl rfl) rfl ?_ | refine kl_const rfl rfl (.inr rfl) rfl ?_) | ((first | refine kl_step rfl rfl rfl fun K hK => ?_ | refine kl_step0 rfl rfl rfl fun K hK => ?_); go_simp; (try go_bits); (first | refine hK _ _ ?_ | refine hK _ ?_); clear hK K))
  refine kl_call rfl rfl rfl Try.func10 rfl (by kernel_rfl) rfl ?_
  refine Calls.mono (known5_any w) ?_
  rintro e w0 ⟨rfl, hb0⟩
  refine ⟨_, rfl, ?_⟩
  repeat (first | refine kw_seq ?_ | refine kw_block ?_ | refine kw_skip ?_ | refine kw_region ?_ | refine kl_nil ?_ | refine kq_then ?_ | refine kq_block ?_ | refine kw_exit ?_ | refine kq_then_exit ?_ | refine kq_block_here rfl ?_ | refine kq_block_far rfl ?_ | refine kq_again_exit ?_ | refine kw_ret ?_ | refine kq_then_ret ?_ | refine kq_block_ret ?_ | refine kq_again_ret ?_ | refine kw_ift rfl ?_ | refine kw_iff rfl ?_ | refine kl_ung rfl rfl ?_ | refine kl_skipg rfl rfl rfl rfl ?_ | refine kl_skipg0 rfl rfl rfl ?_ | (first | refine kl_move rfl rfl (.inl rfl) rfl rfl ?_ | refine kl_move rfl rfl (.inr rfl) rfl rfl ?_ | refine kl_const rfl rfl (.inl rfl) rfl ?_ | refine kl_const rfl rfl (.inr rfl) rfl ?_) | ((first | refine kl_step rfl rfl rfl fun K hK => ?_ | refine kl_step0 rfl rfl rfl fun K hK => ?_); go_simp; (try go_bits); (first | refine hK _ _ ?_ | refine hK _ ?_); clear hK K))
  refine kl_call rfl rfl rfl Try.func11 rfl (by kernel_rfl) rfl ?_
  refine Calls.mono (within_any z 200 200 w0 rfl (by omega) (by omega)) ?_
  rintro e _ ⟨rfl, rfl⟩
  refine ⟨_, rfl, ?_⟩
  have hk := within_lt z 200 (by omega)
  obtain ⟨m, hm⟩ : ∃ m, within z 200 = m := ⟨_, rfl⟩
  rw [hm] at hk ⊢
  clear hm
  repeat (first | refine kw_seq ?_ | refine kw_block ?_ | refine kw_skip ?_ | refine kw_region ?_ | refine kl_nil ?_ | refine kq_then ?_ | refine kq_block ?_ | refine kw_exit ?_ | refine kq_then_exit ?_ | refine kq_block_here rfl ?_ | refine kq_block_far rfl ?_ | refine kq_again_exit ?_ | refine kw_ret ?_ | refine kq_then_ret ?_ | refine kq_block_ret ?_ | refine kq_again_ret ?_ | refine kw_ift rfl ?_ | refine kw_iff rfl ?_ | refine kl_ung rfl rfl ?_ | refine kl_skipg rfl rfl rfl rfl ?_ | refine kl_skipg0 rfl rfl rfl ?_ | (first | refine kl_move rfl rfl (.inl rfl) rfl rfl ?_ | refine kl_move rfl rfl (.inr rfl) rfl rfl ?_ | refine kl_const rfl rfl (.inl rfl) rfl ?_ | refine kl_const rfl rfl (.inr rfl) rfl ?_) | ((first | refine kl_step rfl rfl rfl fun K hK => ?_ | refine kl_step0 rfl rfl rfl fun K hK => ?_); go_simp; (try go_bits); (first | refine hK _ _ ?_ | refine hK _ ?_); clear hK K))
  refine kl_call rfl rfl rfl Try.func14 rfl (by kernel_rfl) rfl ?_
  refine Calls.mono (new_any w0) ?_
  rintro e w1 ⟨rfl, hf1, hb1⟩
  refine ⟨_, rfl, ?_⟩
  obtain ⟨g, hg⟩ : ∃ g, w0.heap.size = g := ⟨_, rfl⟩
  have HS0 := Lib.hid hb0.size
  have hb11 := below_then hb0 hb1 hb0.size
  rw [hg] at hf1 ⊢
  have HG : Hid (w.heap.size ≤ g) := by show _ ≤ _; have := HS0.out; omega
  have hf1 : FS NoB w1 g newF := hf1
  clear hg hb0 hb1
  repeat (first | refine kw_seq ?_ | refine kw_block ?_ | refine kw_skip ?_ | refine kw_region ?_ | refine kl_nil ?_ | refine kq_then ?_ | refine kq_block ?_ | refine kw_exit ?_ | refine kq_then_exit ?_ | refine kq_block_here rfl ?_ | refine kq_block_far rfl ?_ | refine kq_again_exit ?_ | refine kw_ret ?_ | refine kq_then_ret ?_ | refine kq_block_ret ?_ | refine kq_again_ret ?_ | refine kw_ift rfl ?_ | refine kw_iff rfl ?_ | refine kl_ung rfl rfl ?_ | refine kl_skipg rfl rfl rfl rfl ?_ | refine kl_skipg0 rfl rfl rfl ?_ | (first | refine kl_move rfl rfl (.inl rfl) rfl rfl ?_ | refine kl_move rfl rfl (.inr rfl) rfl rfl ?_ | refine kl_const rfl rfl (.inl rfl) rfl ?_ | refine kl_const rfl rfl (.inr rfl) rfl ?_) | ((first | refine kl_step rfl rfl rfl fun K hK => ?_ | refine kl_step0 rfl rfl rfl fun K hK => ?_); go_simp; (try go_bits); (first | refine hK _ _ ?_ | refine hK _ ?_); clear hK K))
  refine kl_call rfl rfl rfl Try.func12 rfl (by kernel_rfl) rfl ?_
  refine Calls.mono (pages_all (m : Int) w1 (by omega)) ?_
  rintro e _ ⟨rfl, rfl⟩
  refine ⟨_, rfl, ?_⟩
  rw [pagesI_nat m (by omega)]
  have hln : (List.replicate m (0 : UInt8)).length = m := List.length_replicate
  have hpl := pagesN_lt m
  have hp1 := pagesN_pos m
  obtain ⟨G, hGe⟩ : ∃ G, pagesN m = G := ⟨_, rfl⟩
  obtain ⟨x, hx⟩ : ∃ x, List.replicate m (0 : UInt8) = x := ⟨_, rfl⟩
  rw [hx] at hln
  rw [hGe] at hpl hp1 ⊢
  have hpx : pagesN x.length = G := by rw [hln]; exact hGe
  have hUs := used_rep x G hpx
  obtain ⟨M, hM⟩ : ∃ M, 64 / G = M := ⟨_, rfl⟩
  have hMG : M * G ≤ 64 := by rw [← hM]; exact Nat.div_mul_le_self 64 G
  have hMG2 : 64 < M * G + G := by rw [← hM]; exact Nat.lt_div_mul_add (by omega)
  have hM64 : M ≤ 64 := by rw [← hM]; exact Nat.div_le_self 64 G
  have q1 : Int.tdiv 64 (G : Int) = (M : Int) := by rw [← hM]; rfl
  have q2 : ¬ ((G : Int) = 0) := by omega
  have q3 : (G : Int) ≠ 0 := q2
  have q5 : ¬ (G = 0) := by omega
  have q4 : ((G : Int) == 0) = false := by rw [beq_eq_false_iff_ne]; exact q3
  have b0 : (0 : Int) ≤ M := by omega
  have b1 : (M : Int) ≤ 64 := by omega
  have HX := Lib.hid (And.intro hx (And.intro hpx hln))
  have HMG := Lib.hid (And.intro hMG hMG2)
  clear hx hGe hM hMG hMG2 hln
  repeat (first | refine kw_seq ?_ | refine kw_skip ?_ | refine kw_region ?_ | refine kl_nil ?_ | refine kq_then ?_ | refine kq_block ?_ | refine kw_exit ?_ | refine kq_then_exit ?_ | refine kq_block_here rfl ?_ | refine kq_block_far rfl ?_ | refine kq_again_exit ?_ | refine kw_ret ?_ | refine kq_then_ret ?_ | refine kq_block_ret ?_ | refine kq_again_ret ?_ | refine kw_ift rfl ?_ | refine kw_iff rfl ?_ | refine kl_ung rfl rfl ?_ | refine kl_skipg rfl rfl rfl rfl ?_ | refine kl_skipg0 rfl rfl rfl ?_ | (first | refine kl_move rfl rfl (.inl rfl) rfl rfl ?_ | refine kl_move rfl rfl (.inr rfl) rfl rfl ?_ | refine kl_const rfl rfl (.inl rfl) rfl ?_ | refine kl_const rfl rfl (.inr rfl) rfl ?_) | ((first | refine kl_step rfl rfl rfl fun K hK => ?_ | refine kl_step0 rfl rfl rfl fun K hK => ?_); go_simp; (try go_bits); (first | refine hK _ _ ?_ | refine hK _ ?_); clear hK K))
  clear q1 q2 q3 q4
  refine KW.less [0, 3, 4, 5] ?_
  simp only [nrm, lk, Nat.reduceBEq, cond_true, cond_false]
  refine kw_block ?_
  refine kw_loop (fun mm L W => ∃ i f, i ≤ M ∧ mm = M - i ∧ Hid (FS NoB W g f) ∧ Hid (Live f ∧ Packed (readF f ((2 : Nat) : Int)) (List.replicate i x)) ∧ Hid (Below w.heap.size w W) ∧ L = [(0, .int .i64 (m : Int)), (3, .pointer (some ⟨g, 0, none⟩)), (4, .int .i64 (M : Int)), (5, .int .i64 (i : Int))]) ⟨0, newF, by omega, rfl, hf1, ⟨live_new, packed_new 2 (by omega)⟩, hb11, rfl⟩ ?_
  clear hf1 hb11
  rintro mm L W ⟨i, f, hi, rfl, hF, hP, hb, rfl⟩
  by_cases hlt : i < M
  case neg =>
    obtain rfl : i = M := by omega
    have t1 : decide ((i : Int) < (i : Int)) = false := by simp
    have HE := Lib.hid (append_full f 2 (by omega) _ hP.out.2 x (by rw [HX.out.2.2]; omega) (by rw [hUs, HX.out.2.1]; exact HMG.out.2))
    rw [show ((2 : Nat) : Int) = 2 from rfl] at HE
    have HL := Lib.hid hP.out.2.load
    rw [show ((2 : Nat) : Int) = 2 from rfl] at HL
    rw [hUs] at HL
    have HF0 := hF.out
    obtain ⟨U, hU⟩ : ∃ U, i * G = U := ⟨_, rfl⟩
    have HMGo := HMG.out
    rw [hU] at HL HMGo
    have u1 : (i : Int) * (G : Int) = (U : Int) := by rw [← hU]; exact (Int.natCast_mul i G).symm
    have u2 : (0 : Int) ≤ U := by omega
    have u3 : (U : Int) ≤ 64 := by omega
    have hpg := pagesI_nat m (by omega)
    have hgm : pagesN m = G := by rw [← HX.out.2.2]; exact HX.out.2.1
    rw [hgm] at hpg
    have HPG := Lib.hid hpg
    clear hlt HMGo hU hUs hpg hgm
    repeat (first | refine kw_seq ?_ | refine kw_block ?_ | refine kw_skip ?_ | refine kw_region ?_ | refine kl_nil ?_ | refine kq_then ?_ | refine kq_block ?_ | refine kw_exit ?_ | refine kq_then_exit ?_ | refine kq_block_here rfl ?_ | refine kq_block_far rfl ?_ | refine kq_again_exit ?_ | refine kw_ret ?_ | refine kq_then_ret ?_ | refine kq_block_ret ?_ | refine kq_again_ret ?_ | refine kw_ift rfl ?_ | refine kw_iff rfl ?_ | refine kl_ung rfl rfl ?_ | refine kl_skipg rfl rfl rfl rfl ?_ | refine kl_skipg0 rfl rfl rfl ?_ | (first | refine kl_move rfl rfl (.inl rfl) rfl rfl ?_ | refine kl_move rfl rfl (.inr rfl) rfl rfl ?_ | refine kl_const rfl rfl (.inl rfl) rfl ?_ | refine kl_const rfl rfl (.inr rfl) rfl ?_) | ((first | refine kl_step rfl rfl rfl fun K hK => ?_ | refine kl_step0 rfl rfl rfl fun K hK => ?_); go_simp; (try go_bits); (first | refine hK _ _ ?_ | refine hK _ ?_); clear hK K))
    refine kl_call rfl rfl rfl Try.func20 rfl (by kernel_rfl) rfl ?_
    refine Calls.mono (ops_any NoB g f W HF0) ?_
    rintro e _ ⟨rfl, rfl⟩
    refine ⟨_, rfl, ?_⟩
    repeat (first | refine kw_seq ?_ | refine kw_region ?_ | refine kl_nil ?_ | refine kq_then ?_ | (first | refine kl_move rfl rfl (.inl rfl) rfl rfl ?_ | refine kl_move rfl rfl (.inr rfl) rfl rfl ?_ | refine kl_const rfl rfl (.inl rfl) rfl ?_ | refine kl_const rfl rfl (.inr rfl) rfl ?_) | ((first | refine kl_step rfl rfl rfl fun K hK => ?_ | refine kl_step0 rfl rfl rfl fun K hK => ?_); go_simp; (try go_bits); (first | refine hK _ _ ?_ | refine hK _ ?_); clear hK K))
    refine kl_makeB (k := m) rfl rfl rfl rfl (by omega) rfl fun gm w3 hgm hb3 hB3 => ?_
    have hf3 := HF0.below hb3
    have hb13 := below_then hb.out hb3 hb.out.size
    rw [HX.out.1] at hB3
    clear hb3 hgm HF0 hF hb
    repeat (first | (first | refine kl_move rfl rfl (.inl rfl) rfl rfl ?_ | refine kl_move rfl rfl (.inr rfl) rfl rfl ?_ | refine kl_const rfl rfl (.inl rfl) rfl ?_ | refine kl_const rfl rfl (.inr rfl) rfl ?_) | ((first | refine kl_step rfl rfl rfl fun K hK => ?_ | refine kl_step0 rfl rfl rfl fun K hK => ?_); go_simp; (try go_bits); (first | refine hK _ _ ?_ | refine hK _ ?_); clear hK K))
    refine kl_call rfl rfl rfl Try.func15 rfl (by kernel_rfl) rfl ?_
    refine Calls.mono (append_any NoB g (noB g) f 2 (some ⟨gm, 0, none⟩) m m x w3 hf3 (by omega) hB3 (Nat.le_refl _) (by omega)) ?_
    rintro e w4 ⟨rfl, hf4, hg4⟩
    refine ⟨_, rfl, ?_⟩
    rw [HE.out] at hf4 ⊢
    dsimp only at hf4 ⊢
    have hb14 := below_grown hb13 hg4 hb13.size (by have := HG.out; omega)
    clear hf3 hb13 hg4 hB3
    repeat (first | refine kw_seq ?_ | refine kw_block ?_ | refine kw_skip ?_ | refine kw_region ?_ | refine kl_nil ?_ | refine kq_then ?_ | refine kq_block ?_ | refine kw_exit ?_ | refine kq_then_exit ?_ | refine kq_block_here rfl ?_ | refine kq_block_far rfl ?_ | refine kq_again_exit ?_ | refine kw_ret ?_ | refine kq_then_ret ?_ | refine kq_block_ret ?_ | refine kq_again_ret ?_ | refine kw_ift rfl ?_ | refine kw_iff rfl ?_ | refine kl_ung rfl rfl ?_ | refine kl_skipg rfl rfl rfl rfl ?_ | refine kl_skipg0 rfl rfl rfl ?_ | (first | refine kl_move rfl rfl (.inl rfl) rfl rfl ?_ | refine kl_move rfl rfl (.inr rfl) rfl rfl ?_ | refine kl_const rfl rfl (.inl rfl) rfl ?_ | refine kl_const rfl rfl (.inr rfl) rfl ?_) | ((first | refine kl_step rfl rfl rfl fun K hK => ?_ | refine kl_step0 rfl rfl rfl fun K hK => ?_); go_simp; (try go_bits); (first | refine hK _ _ ?_ | refine hK _ ?_); clear hK K))
    refine kl_call rfl rfl rfl Try.func16 rfl (by kernel_rfl) rfl ?_
    refine Calls.mono (load_any NoB g f 2 w4 hf4) ?_
    rintro e w5 ⟨A2, n2, c2, rfl, hp2, _, _, hb5⟩
    refine ⟨_, rfl, ?_⟩
    have hn2 := ps_len hp2
    rw [HL.out] at hn2 ⊢
    have hn2 : n2 = i := by simpa using hn2.symm
    subst hn2
    have hb15 := below_then hb14 hb5 hb14.size
    have hf5 := hf4.below hb5
    clear hp2 hf4 hb14 hb5
    repeat (first | refine kw_seq ?_ | refine kw_block ?_ | refine kw_skip ?_ | refine kw_region ?_ | refine kl_nil ?_ | refine kq_then ?_ | refine kq_block ?_ | refine kw_exit ?_ | refine kq_then_exit ?_ | refine kq_block_here rfl ?_ | refine kq_block_far rfl ?_ | refine kq_again_exit ?_ | refine kw_ret ?_ | refine kq_then_ret ?_ | refine kq_block_ret ?_ | refine kq_again_ret ?_ | refine kw_ift rfl ?_ | refine kw_iff rfl ?_ | refine kl_ung rfl rfl ?_ | refine kl_skipg rfl rfl rfl rfl ?_ | refine kl_skipg0 rfl rfl rfl ?_ | (first | refine kl_move rfl rfl (.inl rfl) rfl rfl ?_ | refine kl_move rfl rfl (.inr rfl) rfl rfl ?_ | refine kl_const rfl rfl (.inl rfl) rfl ?_ | refine kl_const rfl rfl (.inr rfl) rfl ?_) | ((first | refine kl_step rfl rfl rfl fun K hK => ?_ | refine kl_step0 rfl rfl rfl fun K hK => ?_); go_simp; (try go_bits); (first | refine hK _ _ ?_ | refine hK _ ?_); clear hK K))
    refine kl_call rfl rfl rfl Try.func20 rfl (by kernel_rfl) rfl ?_
    refine Calls.mono (ops_any NoB g f w5 hf5) ?_
    rintro e _ ⟨rfl, rfl⟩
    refine ⟨_, rfl, ?_⟩
    repeat (first | refine kw_seq ?_ | refine kw_block ?_ | refine kw_skip ?_ | refine kw_region ?_ | refine kl_nil ?_ | refine kq_then ?_ | refine kq_block ?_ | refine kw_exit ?_ | refine kq_then_exit ?_ | refine kq_block_here rfl ?_ | refine kq_block_far rfl ?_ | refine kq_again_exit ?_ | refine kw_ret ?_ | refine kq_then_ret ?_ | refine kq_block_ret ?_ | refine kq_again_ret ?_ | refine kw_ift rfl ?_ | refine kw_iff rfl ?_ | refine kl_ung rfl rfl ?_ | refine kl_skipg rfl rfl rfl rfl ?_ | refine kl_skipg0 rfl rfl rfl ?_ | (first | refine kl_move rfl rfl (.inl rfl) rfl rfl ?_ | refine kl_move rfl rfl (.inr rfl) rfl rfl ?_ | refine kl_const rfl rfl (.inl rfl) rfl ?_ | refine kl_const rfl rfl (.inr rfl) rfl ?_) | ((first | refine kl_step rfl rfl rfl fun K hK => ?_ | refine kl_step0 rfl rfl rfl fun K hK => ?_); go_simp; (try go_bits); (first | refine hK _ _ ?_ | refine hK _ ?_); clear hK K))
    refine kl_call rfl rfl rfl Try.func12 rfl (by kernel_rfl) rfl ?_
    refine Calls.mono (pages_all (m : Int) w5 (by omega)) ?_
    rintro e _ ⟨rfl, rfl⟩
    refine ⟨_, rfl, ?_⟩
    rw [HPG.out]
    repeat (first | refine kw_seq ?_ | refine kw_block ?_ | refine kw_skip ?_ | refine kw_region ?_ | refine kl_nil ?_ | refine kq_then ?_ | refine kq_block ?_ | refine kw_exit ?_ | refine kq_then_exit ?_ | refine kq_block_here rfl ?_ | refine kq_block_far rfl ?_ | refine kq_again_exit ?_ | refine kw_ret ?_ | refine kq_then_ret ?_ | refine kq_block_ret ?_ | refine kq_again_ret ?_ | refine kw_ift rfl ?_ | refine kw_iff rfl ?_ | refine kl_ung rfl rfl ?_ | refine kl_skipg rfl rfl rfl rfl ?_ | refine kl_skipg0 rfl rfl rfl ?_ | (first | refine kl_move rfl rfl (.inl rfl) rfl rfl ?_ | refine kl_move rfl rfl (.inr rfl) rfl rfl ?_ | refine kl_const rfl rfl (.inl rfl) rfl ?_ | refine kl_const rfl rfl (.inr rfl) rfl ?_) | ((first | refine kl_step rfl rfl rfl fun K hK => ?_ | refine kl_step0 rfl rfl rfl fun K hK => ?_); go_simp; (try go_bits); (first | refine hK _ _ ?_ | refine hK _ ?_); clear hK K))
    exact kq_ret1 rfl rfl ⟨rfl, hb15⟩
  have t1 : decide ((i : Int) < (M : Int)) = true := by rw [decide_eq_true_eq]; omega
  have t1n : decide (i < M) = true := decide_eq_true hlt
  have hiG : i * G + G ≤ 64 := by
    have h1 : (i + 1) * G ≤ M * G := Nat.mul_le_mul_right G hlt
    rw [Nat.add_mul] at h1
    have := HMG.out
    omega
  have hex := append_packed f hP.out.1 2 (by omega) _ hP.out.2 x (by rw [HX.out.2.2]; omega) (by rw [hUs, HX.out.2.1]; exact hiG)
  obtain ⟨f2, ha, hL2, hP2, _⟩ := hex
  rw [rep_snoc] at hP2
  rw [show ((2 : Nat) : Int) = 2 from rfl] at ha
  have HE := Lib.hid ha
  have HP2 := Lib.hid (And.intro hL2 hP2)
  have HF0 := hF.out
  obtain ⟨i1, hi1⟩ : ∃ i1, i + 1 = i1 := ⟨_, rfl⟩
  have k1 : (i : Int) + 1 = (i1 : Int) := by omega
  have k2 : (0 : Int) ≤ i1 := by omega
  have k3 : (i1 : Int) ≤ 64 := by omega
  have HI := Lib.hid (And.intro hi1 hlt)
  rw [hi1] at HP2
  clear hlt hiG ha hL2 hP2 hi1 hUs hi
  repeat (first | refine kw_seq ?_ | refine kw_block ?_ | refine kw_region ?_ | refine kl_nil ?_ | refine kq_then ?_ | refine kw_ift rfl ?_ | refine kw_skip ?_ | (first | refine kl_move rfl rfl (.inl rfl) rfl rfl ?_ | refine kl_move rfl rfl (.inr rfl) rfl rfl ?_ | refine kl_const rfl rfl (.inl rfl) rfl ?_ | refine kl_const rfl rfl (.inr rfl) rfl ?_) | ((first | refine kl_step rfl rfl rfl fun K hK => ?_ | refine kl_step0 rfl rfl rfl fun K hK => ?_); go_simp; (try go_bits); (first | refine hK _ _ ?_ | refine hK _ ?_); clear hK K))
  refine kl_makeB (k := m) rfl rfl rfl rfl (by omega) rfl fun gm w3 hgm hb3 hB3 => ?_
  have hf3 := HF0.below hb3
  have hb13 := below_then hb.out hb3 hb.out.size
  rw [HX.out.1] at hB3
  clear hb3 hgm HF0 hF hb
  repeat (first | (first | refine kl_move rfl rfl (.inl rfl) rfl rfl ?_ | refine kl_move rfl rfl (.inr rfl) rfl rfl ?_ | refine kl_const rfl rfl (.inl rfl) rfl ?_ | refine kl_const rfl rfl (.inr rfl) rfl ?_) | ((first | refine kl_step rfl rfl rfl fun K hK => ?_ | refine kl_step0 rfl rfl rfl fun K hK => ?_); go_simp; (try go_bits); (first | refine hK _ _ ?_ | refine hK _ ?_); clear hK K))
  refine kl_call rfl rfl rfl Try.func15 rfl (by kernel_rfl) rfl ?_
  refine Calls.mono (append_any NoB g (noB g) f 2 (some ⟨gm, 0, none⟩) m m x w3 hf3 (by omega) hB3 (Nat.le_refl _) (by omega)) ?_
  rintro e w4 ⟨rfl, hf4, hg4⟩
  refine ⟨_, rfl, ?_⟩
  rw [HE.out] at hf4 ⊢
  dsimp only at hf4 ⊢
  have hb14 := below_grown hb13 hg4 hb13.size (by have := HG.out; omega)
  clear hf3 hb13 hg4 hB3
  repeat (first | refine kw_seq ?_ | refine kw_block ?_ | refine kw_region ?_ | refine kl_nil ?_ | refine kq_then ?_ | refine kq_block ?_ | refine kw_iff rfl ?_ | refine kw_skip ?_ | (first | refine kl_move rfl rfl (.inl rfl) rfl rfl ?_ | refine kl_move rfl rfl (.inr rfl) rfl rfl ?_ | refine kl_const rfl rfl (.inl rfl) rfl ?_ | refine kl_const rfl rfl (.inr rfl) rfl ?_) | ((first | refine kl_step rfl rfl rfl fun K hK => ?_ | refine kl_step0 rfl rfl rfl fun K hK => ?_); go_simp; (try go_bits); (first | refine hK _ _ ?_ | refine hK _ ?_); clear hK K))
  refine kq_again (M - i1) [0, 3, 4, 5] (by have := HI.out; omega) ?_
  exact ⟨i1, f2, by have := HI.out; omega, rfl, hf4, HP2, hb14, rfl⟩
end Go.Proofs.Ytblidiecahpekaa
