/- SlotsRows: the walk. -/
import Derived.Test.YtkncomkncfcecaaSlotKnown
import Derived.Test.YtkncomkncfcecaaKnM
import Derived.Test.YtkncomkncfcecaaCrcSum
set_option linter.unusedVariables false
set_option linter.unusedSimpArgs false
namespace Go.Proofs.Ytkncomkncfcecaa
open Go.RowKit
attribute [local go_sem] ev_tmp ev_const ev_func ev_global lk_hit lk_miss uponK_value uponK_skip look_tmp look_const look_global look_func valP_value
theorem wrapS (x : Int) (h : 0 ≤ x ∧ x < 4611686018427387904) : wrap64 (x + 1) = x + 1 := by unfold wrap64; omega
theorem progF_done (f : FlashSt) (s p : Int) (b : List UInt8) (h : 0 ≤ f.done ∧ f.done < 4611686018427387904) : f.done ≤ (progF f s p b).2.done ∧ (progF f s p b).2.done ≤ f.done + 1 := by
  have hsp : (spendF f).done = f.done + 1 := by
    unfold spendF
    split <;> exact wrapS _ h
  unfold progF
  split
  · dsimp only; omega
  · split
    · dsimp only; omega
    · split
      · dsimp only; omega
      · split
        · dsimp only; omega
        · dsimp only; rw [hsp]; omega
theorem progs_done (s : Int) (p : Nat) (x : List UInt8) : ∀ (n i : Nat) (f : FlashSt), 0 ≤ f.done ∧ f.done + n < 4611686018427387904 → f.done ≤ (progs s p x n i f).2.done
  | 0, _, _, _ => Int.le_refl _
  | n + 1, i, f, h => by
    have h1 := progF_done f s ((p + i : Nat) : Int) ((x.drop (16 * i)).take 16) (by omega)
    simp only [progs]
    split
    · have h2 := progs_done s p x n (i + 1) (progF f s ((p + i : Nat) : Int) ((x.drop (16 * i)).take 16)).2 (by omega)
      omega
    · exact h1.1
theorem append_done (f : FlashSt) (s : Int) (b : List UInt8) (hb : b.length ≤ 1018) (h : f.done = 1) : 1 ≤ (appendP f s b).2.done := by
  have hp := pagesN_lt b.length
  unfold appendP
  split
  · omega
  · split
    · show 1 ≤ f.done; omega
    · split
      · show 1 ≤ f.done; omega
      · have := progs_done s (loadR (readF f s)).2 (sealed b) (pagesN b.length) 0 f (by omega)
        omega
theorem rows_store (j : Nat) (hj : j < 2) (x : List UInt8) (hx : x.length ≤ 1000) : ∃ f1, storeP newF j x = (0, f1) ∧ 0 < f1.done ∧ Live f1 ∧ Marks f1 0 [] := by
  obtain ⟨f1, e1, L1, P1, r1⟩ := store_ok newF live_new j hj x hx
  refine ⟨f1, e1, ?_, L1, marks_new.other fun i hi => r1 i (by omega) (by omega)⟩
  have hd : (storeP newF j x).2.done = f1.done := by rw [e1]
  obtain ⟨f0, he, hL0, hd0, _, _⟩ := erase_live newF live_new (2 + j) (by omega)
  have hc : ((2 + j : Nat) : Int) = 2 + (j : Int) := by omega
  rw [hc] at he
  have h0 : f0.done = 1 := by rw [hd0]; show wrap64 (0 + 1) = 1; simp [wrap64]
  have hap : storeP newF j x = appendP f0 (2 + (j : Int)) x := by
    unfold storeP
    rw [if_neg (by omega), if_neg (by omega), he, if_neg (by simp)]
  have := append_done f0 (2 + (j : Int)) x (by omega) h0
  rw [← hap, hd] at this
  omega
theorem marks_ok {f : FlashSt} (hL : Live f) (hM : Marks f 0 []) (slot : Int) (hs : 0 ≤ slot ∧ slot ≤ 2) (sum : List UInt8) (h : sum.length = 32) : ∃ f1, markP f slot sum = (0, f1) := by
  obtain ⟨f1, _, h1, _⟩ := hM.mark hL (by omega) slot hs sum h
  exact ⟨f1, h1⟩
set_option maxRecDepth 100000 in
set_option maxHeartbeats 4000000 in
theorem slotsRows_top (z y : Int) (w : World) (hz : -9223372036854775808 ≤ z ∧ z ≤ 9223372036854775807) (_ : -9223372036854775808 ≤ y ∧ y ≤ 9223372036854775807) :
    Calls Try.prog 7 #[.int .i64 z, .int .i64 y] w fun e w' => e = .returned (.bool true) ∧ Below w.heap.size w w' := by
  have HZ : Hid (I64 z) := by show I64 z; unfold I64; omega
  refine calls_kw Try.func7 rfl Try.ntmps7 rfl [(0, .int .i64 z), (1, .int .i64 y)] rfl ?_
  repeat (first | refine kw_seq ?_ | refine kw_region ?_ | refine kl_nil ?_ | refine kq_then ?_ | refine kw_iff rfl ?_ | refine kw_skip ?_ | refine kw_block ?_ | refine kl_ung rfl rfl ?_ | refine kl_skipg rfl rfl rfl rfl ?_ | (first | refine kl_move rfl rfl (.inl rfl) rfl rfl ?_ | refine kl_move rfl rfl (.inr rfl) rfl rfl ?_ | refine kl_const rfl rfl (.inl rfl) rfl ?_ | refine kl_const rfl rfl (.inr rfl) rfl ?_) | ((first | refine kl_step rfl rfl rfl fun K hK => ?_ | refine kl_step0 rfl rfl rfl fun K hK => ?_); go_simp; (try go_bits); (first | refine hK _ _ ?_ | refine hK _ ?_); clear hK K))
  refine kl_call rfl rfl rfl Try.func10 rfl (by kernel_rfl) rfl ?_
  refine Calls.mono (known6_any w) ?_
  rintro e w0 ⟨rfl, hb0⟩
  refine ⟨_, rfl, ?_⟩
  have HS0 := Lib.hid hb0.size
  repeat (first | refine kw_seq ?_ | refine kw_region ?_ | refine kl_nil ?_ | refine kq_then ?_ | refine kw_iff rfl ?_ | refine kw_skip ?_ | refine kw_block ?_ | refine kl_ung rfl rfl ?_ | refine kl_skipg rfl rfl rfl rfl ?_ | (first | refine kl_move rfl rfl (.inl rfl) rfl rfl ?_ | refine kl_move rfl rfl (.inr rfl) rfl rfl ?_ | refine kl_const rfl rfl (.inl rfl) rfl ?_ | refine kl_const rfl rfl (.inr rfl) rfl ?_) | ((first | refine kl_step rfl rfl rfl fun K hK => ?_ | refine kl_step0 rfl rfl rfl fun K hK => ?_); go_simp; (try go_bits); (first | refine hK _ _ ?_ | refine hK _ ?_); clear hK K))
  refine kl_call rfl rfl rfl Try.func12 rfl (by kernel_rfl) rfl ?_
  refine Calls.mono (new_any w0) ?_
  rintro e w1 ⟨rfl, hf1, hb1⟩
  refine ⟨_, rfl, ?_⟩
  obtain ⟨g, hg⟩ : ∃ g, w0.heap.size = g := ⟨_, rfl⟩
  have hbb1 := below_then hb0 hb1 hb0.size
  rw [hg] at hf1 ⊢
  have HG : Hid (w.heap.size ≤ g) := by show _ ≤ _; have := HS0.out; omega
  have hf1 : FS NoB w1 g newF := hf1
  clear hg hb1 hb0
  repeat (first | refine kw_seq ?_ | refine kw_region ?_ | refine kl_nil ?_ | refine kq_then ?_ | refine kw_iff rfl ?_ | refine kw_skip ?_ | refine kw_block ?_ | refine kl_ung rfl rfl ?_ | refine kl_skipg rfl rfl rfl rfl ?_ | (first | refine kl_move rfl rfl (.inl rfl) rfl rfl ?_ | refine kl_move rfl rfl (.inr rfl) rfl rfl ?_ | refine kl_const rfl rfl (.inl rfl) rfl ?_ | refine kl_const rfl rfl (.inr rfl) rfl ?_) | ((first | refine kl_step rfl rfl rfl fun K hK => ?_ | refine kl_step0 rfl rfl rfl fun K hK => ?_); go_simp; (try go_bits); (first | refine hK _ _ ?_ | refine hK _ ?_); clear hK K))
  refine kl_call rfl rfl rfl Try.func11 rfl (by kernel_rfl) rfl ?_
  refine Calls.mono (within6_any y 10 10 w1 rfl (by omega) (by omega)) ?_
  rintro e _ ⟨rfl, rfl⟩
  refine ⟨_, rfl, ?_⟩
  have hk := within_lt y 10 (by omega)
  obtain ⟨k, hk'⟩ : ∃ k, within y 10 = k := ⟨_, rfl⟩
  rw [hk'] at hk ⊢
  clear hk'
  obtain ⟨m, hm⟩ : ∃ m, 995 + k = m := ⟨_, rfl⟩
  have j1 : (995 : Int) + (k : Int) = (m : Int) := by omega
  have j2 : (0 : Int) ≤ m := by omega
  have j3 : (m : Int) ≤ 1004 := by omega
  have hm9 : m ≤ 1004 := by omega
  clear hm hk
  repeat (first | refine kw_seq ?_ | refine kw_region ?_ | refine kl_nil ?_ | refine kq_then ?_ | refine kw_iff rfl ?_ | refine kw_skip ?_ | refine kl_ung rfl rfl ?_ | refine kl_skipg rfl rfl rfl rfl ?_ | (first | refine kl_move rfl rfl (.inl rfl) rfl rfl ?_ | refine kl_move rfl rfl (.inr rfl) rfl rfl ?_ | refine kl_const rfl rfl (.inl rfl) rfl ?_ | refine kl_const rfl rfl (.inr rfl) rfl ?_) | ((first | refine kl_step rfl rfl rfl fun K hK => ?_ | refine kl_step0 rfl rfl rfl fun K hK => ?_); go_simp; (try go_bits); (first | refine hK _ _ ?_ | refine hK _ ?_); clear hK K))
  refine kl_makeB (k := m) rfl rfl rfl rfl (by omega) rfl fun gm w3 hgm hb3 hB3 => ?_
  have hf3 := hf1.below hb3
  have HB13 := Lib.hid (below_then hbb1 hb3 hbb1.size)
  have HM : Hid (0 < m → Away g (some ⟨gm, 0, none⟩)) := fun _ x hx => by
    injection hx with hx
    subst hx
    have := hgm.out
    have := hf1.lt
    show gm ≠ g
    omega
  have HM9 := Lib.hid hm9
  have HBM := Lib.hid hB3
  have hln : (List.replicate m (0 : UInt8)).length = m := List.length_replicate
  clear hf1 hbb1 hb3 hgm hB3 hm9
  repeat (first | (first | refine kl_move rfl rfl (.inl rfl) rfl rfl ?_ | refine kl_move rfl rfl (.inr rfl) rfl rfl ?_ | refine kl_const rfl rfl (.inl rfl) rfl ?_ | refine kl_const rfl rfl (.inr rfl) rfl ?_) | ((first | refine kl_step rfl rfl rfl fun K hK => ?_ | refine kl_step0 rfl rfl rfl fun K hK => ?_); go_simp; (try go_bits); (first | refine hK _ _ ?_ | refine hK _ ?_); clear hK K))
  by_cases d1 : z < 0
  · have t1 : decide (z < 0) = true := decide_eq_true d1
    have t4 : decide (0 ≤ z) = false := decide_eq_false (by omega)
    have E := Lib.hid (store_arg (f := newF) (b := List.replicate m 0) (.inl d1))
    have M := Lib.hid (mark_arg (f := newF) (sum := z32) (.inl d1))
    have OD : Hid (newF.done = 0) := by show _ = _; rfl
    have OD2 := OD
    clear d1 hln
    refine kl_call rfl rfl rfl Try.func17 rfl (by kernel_rfl) rfl ?_
    refine Calls.mono (store_any NoB g (noB g) newF z (some ⟨gm, 0, none⟩) m m (List.replicate m 0) w3 hf3 HZ.out HBM.out HM.out (Nat.le_refl _) (by have := HM9.out; omega)) ?_
    rintro e w4 ⟨rfl, hf4, hg4⟩
    refine ⟨_, rfl, ?_⟩
    rw [E.out] at hf4 ⊢
    dsimp only at hf4 ⊢
    have HB14 := Lib.hid (below_grown HB13.out hg4 HB13.out.size HG.out)
    clear hf3 HBM hg4 HB13
    repeat (first | refine kw_seq ?_ | refine kw_block ?_ | refine kw_skip ?_ | refine kw_region ?_ | refine kl_nil ?_ | refine kq_then ?_ | refine kq_block ?_ | refine kw_exit ?_ | refine kq_then_exit ?_ | refine kq_block_here rfl ?_ | refine kq_block_far rfl ?_ | refine kq_again_exit ?_ | refine kw_ret ?_ | refine kq_then_ret ?_ | refine kq_block_ret ?_ | refine kq_again_ret ?_ | refine kw_ift rfl ?_ | refine kw_iff rfl ?_ | refine kl_ung rfl rfl ?_ | refine kl_skipg rfl rfl rfl rfl ?_ | refine kl_skipg0 rfl rfl rfl ?_ | (first | refine kl_move rfl rfl (.inl rfl) rfl rfl ?_ | refine kl_move rfl rfl (.inr rfl) rfl rfl ?_ | refine kl_const rfl rfl (.inl rfl) rfl ?_ | refine kl_const rfl rfl (.inr rfl) rfl ?_) | ((first | refine kl_step rfl rfl rfl fun K hK => ?_ | refine kl_step0 rfl rfl rfl fun K hK => ?_); go_simp; (try go_bits); (first | refine hK _ _ ?_ | refine hK _ ?_); clear hK K))
    refine kl_call rfl rfl rfl Try.func19 rfl (by kernel_rfl) rfl ?_
    refine Calls.mono (ops_any _ g newF _ hf4) ?_
    rintro e _ ⟨rfl, rfl⟩
    refine ⟨_, rfl, ?_⟩
    rw [OD.out]
    repeat (first | refine kw_seq ?_ | refine kw_block ?_ | refine kw_skip ?_ | refine kw_region ?_ | refine kl_nil ?_ | refine kq_then ?_ | refine kq_block ?_ | refine kw_exit ?_ | refine kq_then_exit ?_ | refine kq_block_here rfl ?_ | refine kq_block_far rfl ?_ | refine kq_again_exit ?_ | refine kw_ret ?_ | refine kq_then_ret ?_ | refine kq_block_ret ?_ | refine kq_again_ret ?_ | refine kw_ift rfl ?_ | refine kw_iff rfl ?_ | refine kl_ung rfl rfl ?_ | refine kl_skipg rfl rfl rfl rfl ?_ | refine kl_skipg0 rfl rfl rfl ?_ | refine kl_build 29 _ (bv z32).toArray rfl rfl rfl (by rfl) (by rfl) hashBuilt0 ?_ | (first | refine kl_move rfl rfl (.inl rfl) rfl rfl ?_ | refine kl_move rfl rfl (.inr rfl) rfl rfl ?_ | refine kl_const rfl rfl (.inl rfl) rfl ?_ | refine kl_const rfl rfl (.inr rfl) rfl ?_) | ((first | refine kl_step rfl rfl rfl fun K hK => ?_ | refine kl_step0 rfl rfl rfl fun K hK => ?_); go_simp; (try go_bits); (first | refine hK _ _ ?_ | refine hK _ ?_); clear hK K))
    refine kl_call rfl rfl rfl Try.func13 rfl (by kernel_rfl) rfl ?_
    refine Calls.mono (mark_any NoB g (noB g) newF z z32 w4 hf4 z32_len HZ.out) ?_
    rintro e w5 ⟨rfl, hf5, hg5⟩
    refine ⟨_, rfl, ?_⟩
    rw [M.out] at hf5 ⊢
    dsimp only at hf5 ⊢
    have HB15 := Lib.hid (below_grown HB14.out hg5 HB14.out.size HG.out)
    clear hf4 hg5 HB14
    repeat (first | refine kw_seq ?_ | refine kw_block ?_ | refine kw_skip ?_ | refine kw_region ?_ | refine kl_nil ?_ | refine kq_then ?_ | refine kq_block ?_ | refine kw_exit ?_ | refine kq_then_exit ?_ | refine kq_block_here rfl ?_ | refine kq_block_far rfl ?_ | refine kq_again_exit ?_ | refine kw_ret ?_ | refine kq_then_ret ?_ | refine kq_block_ret ?_ | refine kq_again_ret ?_ | refine kw_ift rfl ?_ | refine kw_iff rfl ?_ | refine kl_ung rfl rfl ?_ | refine kl_skipg rfl rfl rfl rfl ?_ | refine kl_skipg0 rfl rfl rfl ?_ | (first | refine kl_move rfl rfl (.inl rfl) rfl rfl ?_ | refine kl_move rfl rfl (.inr rfl) rfl rfl ?_ | refine kl_const rfl rfl (.inl rfl) rfl ?_ | refine kl_const rfl rfl (.inr rfl) rfl ?_) | ((first | refine kl_step rfl rfl rfl fun K hK => ?_ | refine kl_step0 rfl rfl rfl fun K hK => ?_); go_simp; (try go_bits); (first | refine hK _ _ ?_ | refine hK _ ?_); clear hK K))
    refine kl_call rfl rfl rfl Try.func19 rfl (by kernel_rfl) rfl ?_
    refine Calls.mono (ops_any _ g newF _ hf5) ?_
    rintro e _ ⟨rfl, rfl⟩
    refine ⟨_, rfl, ?_⟩
    rw [OD2.out]
    repeat (first | refine kw_seq ?_ | refine kw_block ?_ | refine kw_skip ?_ | refine kw_region ?_ | refine kl_nil ?_ | refine kq_then ?_ | refine kq_block ?_ | refine kw_exit ?_ | refine kq_then_exit ?_ | refine kq_block_here rfl ?_ | refine kq_block_far rfl ?_ | refine kq_again_exit ?_ | refine kw_ret ?_ | refine kq_then_ret ?_ | refine kq_block_ret ?_ | refine kq_again_ret ?_ | refine kw_ift rfl ?_ | refine kw_iff rfl ?_ | refine kl_ung rfl rfl ?_ | refine kl_skipg rfl rfl rfl rfl ?_ | refine kl_skipg0 rfl rfl rfl ?_ | (first | refine kl_move rfl rfl (.inl rfl) rfl rfl ?_ | refine kl_move rfl rfl (.inr rfl) rfl rfl ?_ | refine kl_const rfl rfl (.inl rfl) rfl ?_ | refine kl_const rfl rfl (.inr rfl) rfl ?_) | ((first | refine kl_step rfl rfl rfl fun K hK => ?_ | refine kl_step0 rfl rfl rfl fun K hK => ?_); go_simp; (try go_bits); (first | refine hK _ _ ?_ | refine hK _ ?_); clear hK K))
    exact kq_ret1 rfl rfl ⟨rfl, HB15.out⟩
  have t1 : decide (z < 0) = false := decide_eq_false d1
  have t4 : decide (0 ≤ z) = true := decide_eq_true (by omega)
  by_cases d2 : z = 2
  · subst d2
    have hm2 := marks_ok live_new marks_new 2 (by omega) z32 z32_len
    obtain ⟨f2, hm2⟩ := hm2
    have E := Lib.hid (store_arg (f := newF) (slot := 2) (b := List.replicate m 0) (.inr (by omega)))
    have M := Lib.hid hm2
    have OD : Hid (newF.done = 0) := by show _ = _; rfl
    clear hm2 d1 hln t1 t4
    refine kl_call rfl rfl rfl Try.func17 rfl (by kernel_rfl) rfl ?_
    refine Calls.mono (store_any NoB g (noB g) newF 2 (some ⟨gm, 0, none⟩) m m (List.replicate m 0) w3 hf3 HZ.out HBM.out HM.out (Nat.le_refl _) (by have := HM9.out; omega)) ?_
    rintro e w4 ⟨rfl, hf4, hg4⟩
    refine ⟨_, rfl, ?_⟩
    rw [E.out] at hf4 ⊢
    dsimp only at hf4 ⊢
    have HB14 := Lib.hid (below_grown HB13.out hg4 HB13.out.size HG.out)
    clear hf3 HBM hg4 HB13
    repeat (first | refine kw_seq ?_ | refine kw_block ?_ | refine kw_skip ?_ | refine kw_region ?_ | refine kl_nil ?_ | refine kq_then ?_ | refine kq_block ?_ | refine kw_exit ?_ | refine kq_then_exit ?_ | refine kq_block_here rfl ?_ | refine kq_block_far rfl ?_ | refine kq_again_exit ?_ | refine kw_ret ?_ | refine kq_then_ret ?_ | refine kq_block_ret ?_ | refine kq_again_ret ?_ | refine kw_ift rfl ?_ | refine kw_iff rfl ?_ | refine kl_ung rfl rfl ?_ | refine kl_skipg rfl rfl rfl rfl ?_ | refine kl_skipg0 rfl rfl rfl ?_ | (first | refine kl_move rfl rfl (.inl rfl) rfl rfl ?_ | refine kl_move rfl rfl (.inr rfl) rfl rfl ?_ | refine kl_const rfl rfl (.inl rfl) rfl ?_ | refine kl_const rfl rfl (.inr rfl) rfl ?_) | ((first | refine kl_step rfl rfl rfl fun K hK => ?_ | refine kl_step0 rfl rfl rfl fun K hK => ?_); go_simp; (try go_bits); (first | refine hK _ _ ?_ | refine hK _ ?_); clear hK K))
    refine kl_call rfl rfl rfl Try.func19 rfl (by kernel_rfl) rfl ?_
    refine Calls.mono (ops_any _ g newF _ hf4) ?_
    rintro e _ ⟨rfl, rfl⟩
    refine ⟨_, rfl, ?_⟩
    rw [OD.out]
    repeat (first | refine kw_seq ?_ | refine kw_block ?_ | refine kw_skip ?_ | refine kw_region ?_ | refine kl_nil ?_ | refine kq_then ?_ | refine kq_block ?_ | refine kw_exit ?_ | refine kq_then_exit ?_ | refine kq_block_here rfl ?_ | refine kq_block_far rfl ?_ | refine kq_again_exit ?_ | refine kw_ret ?_ | refine kq_then_ret ?_ | refine kq_block_ret ?_ | refine kq_again_ret ?_ | refine kw_ift rfl ?_ | refine kw_iff rfl ?_ | refine kl_ung rfl rfl ?_ | refine kl_skipg rfl rfl rfl rfl ?_ | refine kl_skipg0 rfl rfl rfl ?_ | refine kl_build 29 _ (bv z32).toArray rfl rfl rfl (by rfl) (by rfl) hashBuilt0 ?_ | (first | refine kl_move rfl rfl (.inl rfl) rfl rfl ?_ | refine kl_move rfl rfl (.inr rfl) rfl rfl ?_ | refine kl_const rfl rfl (.inl rfl) rfl ?_ | refine kl_const rfl rfl (.inr rfl) rfl ?_) | ((first | refine kl_step rfl rfl rfl fun K hK => ?_ | refine kl_step0 rfl rfl rfl fun K hK => ?_); go_simp; (try go_bits); (first | refine hK _ _ ?_ | refine hK _ ?_); clear hK K))
    refine kl_call rfl rfl rfl Try.func13 rfl (by kernel_rfl) rfl ?_
    refine Calls.mono (mark_any NoB g (noB g) newF 2 z32 w4 hf4 z32_len HZ.out) ?_
    rintro e w5 ⟨rfl, hf5, hg5⟩
    refine ⟨_, rfl, ?_⟩
    rw [M.out] at hf5 ⊢
    dsimp only at hf5 ⊢
    have HB15 := Lib.hid (below_grown HB14.out hg5 HB14.out.size HG.out)
    clear hf4 hg5 HB14
    repeat (first | refine kw_seq ?_ | refine kw_block ?_ | refine kw_skip ?_ | refine kw_region ?_ | refine kl_nil ?_ | refine kq_then ?_ | refine kq_block ?_ | refine kw_exit ?_ | refine kq_then_exit ?_ | refine kq_block_here rfl ?_ | refine kq_block_far rfl ?_ | refine kq_again_exit ?_ | refine kw_ret ?_ | refine kq_then_ret ?_ | refine kq_block_ret ?_ | refine kq_again_ret ?_ | refine kw_ift rfl ?_ | refine kw_iff rfl ?_ | refine kl_ung rfl rfl ?_ | refine kl_skipg rfl rfl rfl rfl ?_ | refine kl_skipg0 rfl rfl rfl ?_ | (first | refine kl_move rfl rfl (.inl rfl) rfl rfl ?_ | refine kl_move rfl rfl (.inr rfl) rfl rfl ?_ | refine kl_const rfl rfl (.inl rfl) rfl ?_ | refine kl_const rfl rfl (.inr rfl) rfl ?_) | ((first | refine kl_step rfl rfl rfl fun K hK => ?_ | refine kl_step0 rfl rfl rfl fun K hK => ?_); go_simp; (try go_bits); (first | refine hK _ _ ?_ | refine hK _ ?_); clear hK K))
    exact kq_ret1 rfl rfl ⟨rfl, HB15.out⟩
  by_cases d3 : 2 < z
  · have t2 : decide (1 < z) = true := decide_eq_true (by omega)
    have t5 : decide (z ≤ 2) = false := decide_eq_false (by omega)
    have E := Lib.hid (store_arg (f := newF) (slot := z) (b := List.replicate m 0) (.inr (by omega)))
    have M := Lib.hid (mark_arg (f := newF) (sum := z32) (.inr d3))
    have OD : Hid (newF.done = 0) := by show _ = _; rfl
    have OD2 := OD
    clear d1 d2 d3 hln
    refine kl_call rfl rfl rfl Try.func17 rfl (by kernel_rfl) rfl ?_
    refine Calls.mono (store_any NoB g (noB g) newF z (some ⟨gm, 0, none⟩) m m (List.replicate m 0) w3 hf3 HZ.out HBM.out HM.out (Nat.le_refl _) (by have := HM9.out; omega)) ?_
    rintro e w4 ⟨rfl, hf4, hg4⟩
    refine ⟨_, rfl, ?_⟩
    rw [E.out] at hf4 ⊢
    dsimp only at hf4 ⊢
    have HB14 := Lib.hid (below_grown HB13.out hg4 HB13.out.size HG.out)
    clear hf3 HBM hg4 HB13
    repeat (first | refine kw_seq ?_ | refine kw_block ?_ | refine kw_skip ?_ | refine kw_region ?_ | refine kl_nil ?_ | refine kq_then ?_ | refine kq_block ?_ | refine kw_exit ?_ | refine kq_then_exit ?_ | refine kq_block_here rfl ?_ | refine kq_block_far rfl ?_ | refine kq_again_exit ?_ | refine kw_ret ?_ | refine kq_then_ret ?_ | refine kq_block_ret ?_ | refine kq_again_ret ?_ | refine kw_ift rfl ?_ | refine kw_iff rfl ?_ | refine kl_ung rfl rfl ?_ | refine kl_skipg rfl rfl rfl rfl ?_ | refine kl_skipg0 rfl rfl rfl ?_ | (first | refine kl_move rfl rfl (.inl rfl) rfl rfl ?_ | refine kl_move rfl rfl (.inr rfl) rfl rfl ?_ | refine kl_const rfl rfl (.inl rfl) rfl ?_ | refine kl_const rfl rfl (.inr rfl) rfl ?_) | ((first | refine kl_step rfl rfl rfl fun K hK => ?_ | refine kl_step0 rfl rfl rfl fun K hK => ?_); go_simp; (try go_bits); (first | refine hK _ _ ?_ | refine hK _ ?_); clear hK K))
    refine kl_call rfl rfl rfl Try.func19 rfl (by kernel_rfl) rfl ?_
    refine Calls.mono (ops_any _ g newF _ hf4) ?_
    rintro e _ ⟨rfl, rfl⟩
    refine ⟨_, rfl, ?_⟩
    rw [OD.out]
    repeat (first | refine kw_seq ?_ | refine kw_block ?_ | refine kw_skip ?_ | refine kw_region ?_ | refine kl_nil ?_ | refine kq_then ?_ | refine kq_block ?_ | refine kw_exit ?_ | refine kq_then_exit ?_ | refine kq_block_here rfl ?_ | refine kq_block_far rfl ?_ | refine kq_again_exit ?_ | refine kw_ret ?_ | refine kq_then_ret ?_ | refine kq_block_ret ?_ | refine kq_again_ret ?_ | refine kw_ift rfl ?_ | refine kw_iff rfl ?_ | refine kl_ung rfl rfl ?_ | refine kl_skipg rfl rfl rfl rfl ?_ | refine kl_skipg0 rfl rfl rfl ?_ | refine kl_build 29 _ (bv z32).toArray rfl rfl rfl (by rfl) (by rfl) hashBuilt0 ?_ | (first | refine kl_move rfl rfl (.inl rfl) rfl rfl ?_ | refine kl_move rfl rfl (.inr rfl) rfl rfl ?_ | refine kl_const rfl rfl (.inl rfl) rfl ?_ | refine kl_const rfl rfl (.inr rfl) rfl ?_) | ((first | refine kl_step rfl rfl rfl fun K hK => ?_ | refine kl_step0 rfl rfl rfl fun K hK => ?_); go_simp; (try go_bits); (first | refine hK _ _ ?_ | refine hK _ ?_); clear hK K))
    refine kl_call rfl rfl rfl Try.func13 rfl (by kernel_rfl) rfl ?_
    refine Calls.mono (mark_any NoB g (noB g) newF z z32 w4 hf4 z32_len HZ.out) ?_
    rintro e w5 ⟨rfl, hf5, hg5⟩
    refine ⟨_, rfl, ?_⟩
    rw [M.out] at hf5 ⊢
    dsimp only at hf5 ⊢
    have HB15 := Lib.hid (below_grown HB14.out hg5 HB14.out.size HG.out)
    clear hf4 hg5 HB14
    repeat (first | refine kw_seq ?_ | refine kw_block ?_ | refine kw_skip ?_ | refine kw_region ?_ | refine kl_nil ?_ | refine kq_then ?_ | refine kq_block ?_ | refine kw_exit ?_ | refine kq_then_exit ?_ | refine kq_block_here rfl ?_ | refine kq_block_far rfl ?_ | refine kq_again_exit ?_ | refine kw_ret ?_ | refine kq_then_ret ?_ | refine kq_block_ret ?_ | refine kq_again_ret ?_ | refine kw_ift rfl ?_ | refine kw_iff rfl ?_ | refine kl_ung rfl rfl ?_ | refine kl_skipg rfl rfl rfl rfl ?_ | refine kl_skipg0 rfl rfl rfl ?_ | (first | refine kl_move rfl rfl (.inl rfl) rfl rfl ?_ | refine kl_move rfl rfl (.inr rfl) rfl rfl ?_ | refine kl_const rfl rfl (.inl rfl) rfl ?_ | refine kl_const rfl rfl (.inr rfl) rfl ?_) | ((first | refine kl_step rfl rfl rfl fun K hK => ?_ | refine kl_step0 rfl rfl rfl fun K hK => ?_); go_simp; (try go_bits); (first | refine hK _ _ ?_ | refine hK _ ?_); clear hK K))
    refine kl_call rfl rfl rfl Try.func19 rfl (by kernel_rfl) rfl ?_
    refine Calls.mono (ops_any _ g newF _ hf5) ?_
    rintro e _ ⟨rfl, rfl⟩
    refine ⟨_, rfl, ?_⟩
    rw [OD2.out]
    repeat (first | refine kw_seq ?_ | refine kw_block ?_ | refine kw_skip ?_ | refine kw_region ?_ | refine kl_nil ?_ | refine kq_then ?_ | refine kq_block ?_ | refine kw_exit ?_ | refine kq_then_exit ?_ | refine kq_block_here rfl ?_ | refine kq_block_far rfl ?_ | refine kq_again_exit ?_ | refine kw_ret ?_ | refine kq_then_ret ?_ | refine kq_block_ret ?_ | refine kq_again_ret ?_ | refine kw_ift rfl ?_ | refine kw_iff rfl ?_ | refine kl_ung rfl rfl ?_ | refine kl_skipg rfl rfl rfl rfl ?_ | refine kl_skipg0 rfl rfl rfl ?_ | (first | refine kl_move rfl rfl (.inl rfl) rfl rfl ?_ | refine kl_move rfl rfl (.inr rfl) rfl rfl ?_ | refine kl_const rfl rfl (.inl rfl) rfl ?_ | refine kl_const rfl rfl (.inr rfl) rfl ?_) | ((first | refine kl_step rfl rfl rfl fun K hK => ?_ | refine kl_step0 rfl rfl rfl fun K hK => ?_); go_simp; (try go_bits); (first | refine hK _ _ ?_ | refine hK _ ?_); clear hK K))
    exact kq_ret1 rfl rfl ⟨rfl, HB15.out⟩
  have t2 : decide (1 < z) = false := decide_eq_false (by omega)
  have t5 : decide (z ≤ 2) = true := decide_eq_true (by omega)
  by_cases d4 : 1000 < m
  · have t3 : decide ((1000 : Int) < (m : Int)) = true := decide_eq_true (by omega)
    have t3n : decide (1000 < m) = true := decide_eq_true d4
    have hm2 := marks_ok live_new marks_new z (by omega) z32 z32_len
    obtain ⟨f2, hm2⟩ := hm2
    have E := Lib.hid (store_long (f := newF) (slot := z) (b := List.replicate m 0) (by omega) (by omega))
    have M := Lib.hid hm2
    have OD : Hid (newF.done = 0) := by show _ = _; rfl
    clear hm2 d1 d2 d3 d4 hln
    refine kl_call rfl rfl rfl Try.func17 rfl (by kernel_rfl) rfl ?_
    refine Calls.mono (store_any NoB g (noB g) newF z (some ⟨gm, 0, none⟩) m m (List.replicate m 0) w3 hf3 HZ.out HBM.out HM.out (Nat.le_refl _) (by have := HM9.out; omega)) ?_
    rintro e w4 ⟨rfl, hf4, hg4⟩
    refine ⟨_, rfl, ?_⟩
    rw [E.out] at hf4 ⊢
    dsimp only at hf4 ⊢
    have HB14 := Lib.hid (below_grown HB13.out hg4 HB13.out.size HG.out)
    clear hf3 HBM hg4 HB13
    repeat (first | refine kw_seq ?_ | refine kw_block ?_ | refine kw_skip ?_ | refine kw_region ?_ | refine kl_nil ?_ | refine kq_then ?_ | refine kq_block ?_ | refine kw_exit ?_ | refine kq_then_exit ?_ | refine kq_block_here rfl ?_ | refine kq_block_far rfl ?_ | refine kq_again_exit ?_ | refine kw_ret ?_ | refine kq_then_ret ?_ | refine kq_block_ret ?_ | refine kq_again_ret ?_ | refine kw_ift rfl ?_ | refine kw_iff rfl ?_ | refine kl_ung rfl rfl ?_ | refine kl_skipg rfl rfl rfl rfl ?_ | refine kl_skipg0 rfl rfl rfl ?_ | (first | refine kl_move rfl rfl (.inl rfl) rfl rfl ?_ | refine kl_move rfl rfl (.inr rfl) rfl rfl ?_ | refine kl_const rfl rfl (.inl rfl) rfl ?_ | refine kl_const rfl rfl (.inr rfl) rfl ?_) | ((first | refine kl_step rfl rfl rfl fun K hK => ?_ | refine kl_step0 rfl rfl rfl fun K hK => ?_); go_simp; (try go_bits); (first | refine hK _ _ ?_ | refine hK _ ?_); clear hK K))
    refine kl_call rfl rfl rfl Try.func19 rfl (by kernel_rfl) rfl ?_
    refine Calls.mono (ops_any _ g newF _ hf4) ?_
    rintro e _ ⟨rfl, rfl⟩
    refine ⟨_, rfl, ?_⟩
    rw [OD.out]
    repeat (first | refine kw_seq ?_ | refine kw_block ?_ | refine kw_skip ?_ | refine kw_region ?_ | refine kl_nil ?_ | refine kq_then ?_ | refine kq_block ?_ | refine kw_exit ?_ | refine kq_then_exit ?_ | refine kq_block_here rfl ?_ | refine kq_block_far rfl ?_ | refine kq_again_exit ?_ | refine kw_ret ?_ | refine kq_then_ret ?_ | refine kq_block_ret ?_ | refine kq_again_ret ?_ | refine kw_ift rfl ?_ | refine kw_iff rfl ?_ | refine kl_ung rfl rfl ?_ | refine kl_skipg rfl rfl rfl rfl ?_ | refine kl_skipg0 rfl rfl rfl ?_ | refine kl_build 29 _ (bv z32).toArray rfl rfl rfl (by rfl) (by rfl) hashBuilt0 ?_ | (first | refine kl_move rfl rfl (.inl rfl) rfl rfl ?_ | refine kl_move rfl rfl (.inr rfl) rfl rfl ?_ | refine kl_const rfl rfl (.inl rfl) rfl ?_ | refine kl_const rfl rfl (.inr rfl) rfl ?_) | ((first | refine kl_step rfl rfl rfl fun K hK => ?_ | refine kl_step0 rfl rfl rfl fun K hK => ?_); go_simp; (try go_bits); (first | refine hK _ _ ?_ | refine hK _ ?_); clear hK K))
    refine kl_call rfl rfl rfl Try.func13 rfl (by kernel_rfl) rfl ?_
    refine Calls.mono (mark_any NoB g (noB g) newF z z32 w4 hf4 z32_len HZ.out) ?_
    rintro e w5 ⟨rfl, hf5, hg5⟩
    refine ⟨_, rfl, ?_⟩
    rw [M.out] at hf5 ⊢
    dsimp only at hf5 ⊢
    have HB15 := Lib.hid (below_grown HB14.out hg5 HB14.out.size HG.out)
    clear hf4 hg5 HB14
    repeat (first | refine kw_seq ?_ | refine kw_block ?_ | refine kw_skip ?_ | refine kw_region ?_ | refine kl_nil ?_ | refine kq_then ?_ | refine kq_block ?_ | refine kw_exit ?_ | refine kq_then_exit ?_ | refine kq_block_here rfl ?_ | refine kq_block_far rfl ?_ | refine kq_again_exit ?_ | refine kw_ret ?_ | refine kq_then_ret ?_ | refine kq_block_ret ?_ | refine kq_again_ret ?_ | refine kw_ift rfl ?_ | refine kw_iff rfl ?_ | refine kl_ung rfl rfl ?_ | refine kl_skipg rfl rfl rfl rfl ?_ | refine kl_skipg0 rfl rfl rfl ?_ | (first | refine kl_move rfl rfl (.inl rfl) rfl rfl ?_ | refine kl_move rfl rfl (.inr rfl) rfl rfl ?_ | refine kl_const rfl rfl (.inl rfl) rfl ?_ | refine kl_const rfl rfl (.inr rfl) rfl ?_) | ((first | refine kl_step rfl rfl rfl fun K hK => ?_ | refine kl_step0 rfl rfl rfl fun K hK => ?_); go_simp; (try go_bits); (first | refine hK _ _ ?_ | refine hK _ ?_); clear hK K))
    exact kq_ret1 rfl rfl ⟨rfl, HB15.out⟩
  have t3 : decide ((1000 : Int) < (m : Int)) = false := decide_eq_false (by omega)
  have t3n : decide (1000 < m) = false := decide_eq_false d4
  obtain ⟨j, hj⟩ : ∃ j : Nat, z = j := ⟨z.toNat, by omega⟩
  obtain ⟨f1, e1, hd, L1, M1⟩ := rows_store j (by omega) (List.replicate m 0) (by omega)
  rw [← hj] at e1
  obtain ⟨f2, hm2⟩ := marks_ok L1 M1 z (by omega) z32 z32_len
  obtain ⟨D, hD⟩ : ∃ D, f1.done = D := ⟨_, rfl⟩
  rw [hD] at hd
  have t6 : decide (0 < D) = true := decide_eq_true hd
  have E := Lib.hid e1
  have M := Lib.hid hm2
  have OD := Lib.hid hD
  clear hm2 d1 d2 d3 d4 hln hj e1 hd L1 M1 hD
  refine kl_call rfl rfl rfl Try.func17 rfl (by kernel_rfl) rfl ?_
  refine Calls.mono (store_any NoB g (noB g) newF z (some ⟨gm, 0, none⟩) m m (List.replicate m 0) w3 hf3 HZ.out HBM.out HM.out (Nat.le_refl _) (by have := HM9.out; omega)) ?_
  rintro e w4 ⟨rfl, hf4, hg4⟩
  refine ⟨_, rfl, ?_⟩
  rw [E.out] at hf4 ⊢
  dsimp only at hf4 ⊢
  have HB14 := Lib.hid (below_grown HB13.out hg4 HB13.out.size HG.out)
  clear hf3 HBM hg4 HB13
  repeat (first | refine kw_seq ?_ | refine kw_block ?_ | refine kw_skip ?_ | refine kw_region ?_ | refine kl_nil ?_ | refine kq_then ?_ | refine kq_block ?_ | refine kw_exit ?_ | refine kq_then_exit ?_ | refine kq_block_here rfl ?_ | refine kq_block_far rfl ?_ | refine kq_again_exit ?_ | refine kw_ret ?_ | refine kq_then_ret ?_ | refine kq_block_ret ?_ | refine kq_again_ret ?_ | refine kw_ift rfl ?_ | refine kw_iff rfl ?_ | refine kl_ung rfl rfl ?_ | refine kl_skipg rfl rfl rfl rfl ?_ | refine kl_skipg0 rfl rfl rfl ?_ | (first | refine kl_move rfl rfl (.inl rfl) rfl rfl ?_ | refine kl_move rfl rfl (.inr rfl) rfl rfl ?_ | refine kl_const rfl rfl (.inl rfl) rfl ?_ | refine kl_const rfl rfl (.inr rfl) rfl ?_) | ((first | refine kl_step rfl rfl rfl fun K hK => ?_ | refine kl_step0 rfl rfl rfl fun K hK => ?_); go_simp; (try go_bits); (first | refine hK _ _ ?_ | refine hK _ ?_); clear hK K))
  refine kl_call rfl rfl rfl Try.func19 rfl (by kernel_rfl) rfl ?_
  refine Calls.mono (ops_any _ g f1 _ hf4) ?_
  rintro e _ ⟨rfl, rfl⟩
  refine ⟨_, rfl, ?_⟩
  rw [OD.out]
  repeat (first | refine kw_seq ?_ | refine kw_block ?_ | refine kw_skip ?_ | refine kw_region ?_ | refine kl_nil ?_ | refine kq_then ?_ | refine kq_block ?_ | refine kw_exit ?_ | refine kq_then_exit ?_ | refine kq_block_here rfl ?_ | refine kq_block_far rfl ?_ | refine kq_again_exit ?_ | refine kw_ret ?_ | refine kq_then_ret ?_ | refine kq_block_ret ?_ | refine kq_again_ret ?_ | refine kw_ift rfl ?_ | refine kw_iff rfl ?_ | refine kl_ung rfl rfl ?_ | refine kl_skipg rfl rfl rfl rfl ?_ | refine kl_skipg0 rfl rfl rfl ?_ | refine kl_build 29 _ (bv z32).toArray rfl rfl rfl (by rfl) (by rfl) hashBuilt0 ?_ | (first | refine kl_move rfl rfl (.inl rfl) rfl rfl ?_ | refine kl_move rfl rfl (.inr rfl) rfl rfl ?_ | refine kl_const rfl rfl (.inl rfl) rfl ?_ | refine kl_const rfl rfl (.inr rfl) rfl ?_) | ((first | refine kl_step rfl rfl rfl fun K hK => ?_ | refine kl_step0 rfl rfl rfl fun K hK => ?_); go_simp; (try go_bits); (first | refine hK _ _ ?_ | refine hK _ ?_); clear hK K))
  refine kl_call rfl rfl rfl Try.func13 rfl (by kernel_rfl) rfl ?_
  refine Calls.mono (mark_any NoB g (noB g) f1 z z32 w4 hf4 z32_len HZ.out) ?_
  rintro e w5 ⟨rfl, hf5, hg5⟩
  refine ⟨_, rfl, ?_⟩
  rw [M.out] at hf5 ⊢
  dsimp only at hf5 ⊢
  have HB15 := Lib.hid (below_grown HB14.out hg5 HB14.out.size HG.out)
  clear hf4 hg5 HB14
  repeat (first | refine kw_seq ?_ | refine kw_block ?_ | refine kw_skip ?_ | refine kw_region ?_ | refine kl_nil ?_ | refine kq_then ?_ | refine kq_block ?_ | refine kw_exit ?_ | refine kq_then_exit ?_ | refine kq_block_here rfl ?_ | refine kq_block_far rfl ?_ | refine kq_again_exit ?_ | refine kw_ret ?_ | refine kq_then_ret ?_ | refine kq_block_ret ?_ | refine kq_again_ret ?_ | refine kw_ift rfl ?_ | refine kw_iff rfl ?_ | refine kl_ung rfl rfl ?_ | refine kl_skipg rfl rfl rfl rfl ?_ | refine kl_skipg0 rfl rfl rfl ?_ | (first | refine kl_move rfl rfl (.inl rfl) rfl rfl ?_ | refine kl_move rfl rfl (.inr rfl) rfl rfl ?_ | refine kl_const rfl rfl (.inl rfl) rfl ?_ | refine kl_const rfl rfl (.inr rfl) rfl ?_) | ((first | refine kl_step rfl rfl rfl fun K hK => ?_ | refine kl_step0 rfl rfl rfl fun K hK => ?_); go_simp; (try go_bits); (first | refine hK _ _ ?_ | refine hK _ ?_); clear hK K))
  exact kq_ret1 rfl rfl ⟨rfl, HB15.out⟩
end Go.Proofs.Ytkncomkncfcecaa
