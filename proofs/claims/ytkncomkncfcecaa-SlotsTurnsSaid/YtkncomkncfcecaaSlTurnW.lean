/- SlotsTurns: the walk. -/
import Derived.Test.YtkncomkncfcecaaSlTurnB
set_option linter.unusedVariables false
set_option linter.unusedSimpArgs false
namespace Go.Proofs.Ytkncomkncfcecaa
open Go.RowKit
attribute [local go_sem] ev_tmp ev_const ev_func ev_global lk_hit lk_miss uponK_value uponK_skip look_tmp look_const look_global look_func valP_value
set_option maxRecDepth 100000 in
set_option maxHeartbeats 4000000 in
theorem slotsTurns_top (z : Int) (w : World) (_ : -9223372036854775808 ≤ z ∧ z ≤ 9223372036854775807) :
    Calls Try.prog 3 #[.int .i64 z] w fun e w' => e = .returned (.bool true) ∧ Below w.heap.size w w' := by
  refine calls_kw Try.func3 rfl Try.ntmps3 rfl [(0, .int .i64 z)] rfl ?_
  repeat (first | refine kw_seq ?_ | refine kw_region ?_ | refine kl_nil ?_ | refine kq_then ?_ | refine kw_iff rfl ?_ | refine kw_skip ?_ | refine kw_block ?_ | refine kl_ung rfl rfl ?_ | refine kl_skipg rfl rfl rfl rfl ?_ | (first | refine kl_move rfl rfl (.inl rfl) rfl rfl ?_ | refine kl_move rfl rfl (.inr rfl) rfl rfl ?_ | refine kl_const rfl rfl (.inl rfl) rfl ?_ | refine kl_const rfl rfl (.inr rfl) rfl ?_) | ((first | refine kl_step rfl rfl rfl fun K hK => ?_ | refine kl_step0 rfl rfl rfl fun K hK => ?_); go_simp; (try go_bits); (first | refine hK _ _ ?_ | refine hK _ ?_); clear hK K))
  refine kl_call rfl rfl rfl Try.func10 rfl (by kernel_rfl) rfl ?_
  refine Calls.mono (known6_any w) ?_
  rintro e w0 ⟨rfl, hb0⟩
  refine ⟨_, rfl, ?_⟩
  have HS0 := Lib.hid hb0.size
  repeat (first | refine kw_seq ?_ | refine kw_region ?_ | refine kl_nil ?_ | refine kq_then ?_ | refine kw_iff rfl ?_ | refine kw_skip ?_ | refine kw_block ?_ | refine kl_ung rfl rfl ?_ | refine kl_skipg rfl rfl rfl rfl ?_ | (first | refine kl_move rfl rfl (.inl rfl) rfl rfl ?_ | refine kl_move rfl rfl (.inr rfl) rfl rfl ?_ | refine kl_const rfl rfl (.inl rfl) rfl ?_ | refine kl_const rfl rfl (.inr rfl) rfl ?_) | ((first | refine kl_step rfl rfl rfl fun K hK => ?_ | refine kl_step0 rfl rfl rfl fun K hK => ?_); go_simp; (try go_bits); (first | refine hK _ _ ?_ | refine hK _ ?_); clear hK K))
  refine kl_call rfl rfl rfl Try.func11 rfl (by kernel_rfl) rfl ?_
  refine Calls.mono (within6_any z 70 70 w0 rfl (by omega) (by omega)) ?_
  rintro e _ ⟨rfl, rfl⟩
  refine ⟨_, rfl, ?_⟩
  have hn := within_lt z 70 (by omega)
  obtain ⟨n, hn'⟩ : ∃ n, within z 70 = n := ⟨_, rfl⟩
  rw [hn'] at hn ⊢
  have HN := Lib.hid hn
  clear hn' hn
  repeat (first | refine kw_seq ?_ | refine kw_region ?_ | refine kl_nil ?_ | refine kq_then ?_ | refine kw_iff rfl ?_ | refine kw_skip ?_ | refine kw_block ?_ | refine kl_ung rfl rfl ?_ | refine kl_skipg rfl rfl rfl rfl ?_ | (first | refine kl_move rfl rfl (.inl rfl) rfl rfl ?_ | refine kl_move rfl rfl (.inr rfl) rfl rfl ?_ | refine kl_const rfl rfl (.inl rfl) rfl ?_ | refine kl_const rfl rfl (.inr rfl) rfl ?_) | ((first | refine kl_step rfl rfl rfl fun K hK => ?_ | refine kl_step0 rfl rfl rfl fun K hK => ?_); go_simp; (try go_bits); (first | refine hK _ _ ?_ | refine hK _ ?_); clear hK K))
  refine kl_call rfl rfl rfl Try.func12 rfl (by kernel_rfl) rfl ?_
  refine Calls.mono (new_any w0) ?_
  rintro e w1 ⟨rfl, hf1, hb1⟩
  refine ⟨_, rfl, ?_⟩
  obtain ⟨g, hg⟩ : ∃ g, w0.heap.size = g := ⟨_, rfl⟩
  have hL1 : Lay w w1 [] := ((Lay.start w).next hb0).next (by exact hb1)
  have HL1 := Lib.hid hL1
  rw [hg] at hf1 ⊢
  have HG : Hid (w.heap.size ≤ g) := by show _ ≤ _; have := HS0.out; omega
  have hf1 : FS NoB w1 g newF := hf1
  have I0 : Hid (TInv 0 newF) := turns_start
  clear hg hb1 hb0 hL1
  repeat (first | refine kw_seq ?_ | refine kw_region ?_ | refine kl_nil ?_ | refine kq_then ?_ | refine kw_iff rfl ?_ | refine kw_skip ?_ | refine kl_ung rfl rfl ?_ | refine kl_skipg rfl rfl rfl rfl ?_ | (first | refine kl_move rfl rfl (.inl rfl) rfl rfl ?_ | refine kl_move rfl rfl (.inr rfl) rfl rfl ?_ | refine kl_const rfl rfl (.inl rfl) rfl ?_ | refine kl_const rfl rfl (.inr rfl) rfl ?_) | ((first | refine kl_step rfl rfl rfl fun K hK => ?_ | refine kl_step0 rfl rfl rfl fun K hK => ?_); go_simp; (try go_bits); (first | refine hK _ _ ?_ | refine hK _ ?_); clear hK K))
  refine KW.less [0, 3, 4] ?_
  simp only [nrm, lk, Nat.reduceBEq, cond_true, cond_false]
  refine kw_block ?_
  refine kw_loop (fun mm L W => ∃ (i k : Nat) (f : FlashSt), i ≤ n ∧ mm = n - i ∧ i + 1 = k ∧ Hid (TInv i f) ∧ Hid (Lay w W []) ∧ FS NoB W g f ∧ L = [(0, .int .i64 (n : Int)), (3, .pointer (some ⟨g, 0, none⟩)), (4, .int .i64 (k : Int))]) ⟨0, 1, newF, by omega, rfl, rfl, I0, HL1, hf1, rfl⟩ ?_
  clear I0 HL1 hf1
  rintro mm L W ⟨i, k, f, hi, rfl, hik, I, HL2, hf2, rfl⟩
  by_cases hin : i < n
  case pos =>
    have t1 : decide ((k : Int) ≤ (n : Int)) = true := by rw [decide_eq_true_eq]; omega
    have t1n : decide (k ≤ n) = true := by rw [decide_eq_true_eq]; omega
    obtain ⟨k1, hk1⟩ : ∃ k1, k + 1 = k1 := ⟨_, rfl⟩
    have i3 : (k : Int) + 1 = (k1 : Int) := by omega
    have i4 : (0 : Int) ≤ k1 := by omega
    have i5 : (k1 : Int) ≤ 71 := by have := HN.out; omega
    have i6 : (0 : Int) ≤ k := by omega
    have i7 : (k : Int) ≤ 70 := by have := HN.out; omega
    have HU : Hid ((k : Int) = ((UInt8.ofNat k).toNat : Int)) := by show _ = _; rw [UInt8.toNat_ofNat']; omega
    obtain ⟨f3, s1, s2, s3⟩ := I.out.step (by have := HN.out; omega) (UInt8.ofNat k)
    rw [hik] at s2 s3
    obtain ⟨u, hu⟩ : ∃ u, UInt8.ofNat k = u := ⟨_, rfl⟩
    rw [hu] at s1 s3 HU
    have E3 : Hid (markP f 2 (hashB u) = (0, f3)) := s1
    have I3 := Lib.hid s2
    have BE : Hid (bootP f3 = (⟨(k : Int), 2, hashB u⟩, [])) := s3
    have HI := Lib.hid (And.intro hik (And.intro hk1 hin))
    have he : ∀ W, (Op.equalIn 10000 29 (.agg (bv (hashB u)).toArray) (.agg (bv (hashB u)).toArray)).run Try.prog W = .ok true W := fun W => by rw [eqH W _ _ (hashB_len u) (hashB_len u), beq_self_eq_true]
    have h2 := hf2
    clear s1 s2 s3 I hik hk1 hin hi hu hf2
    repeat (first | refine kw_seq ?_ | refine kw_block ?_ | refine kw_region ?_ | refine kl_nil ?_ | refine kq_then ?_ | refine kq_block ?_ | refine kw_ift rfl ?_ | refine kw_skip ?_ | refine kl_build 29 _ (bv (hashB u)).toArray rfl rfl rfl (by rfl) (by rfl) (hashBuiltB u (k : Int) HU.out) ?_ | (first | refine kl_move rfl rfl (.inl rfl) rfl rfl ?_ | refine kl_move rfl rfl (.inr rfl) rfl rfl ?_ | refine kl_const rfl rfl (.inl rfl) rfl ?_ | refine kl_const rfl rfl (.inr rfl) rfl ?_) | ((first | refine kl_step rfl rfl rfl fun K hK => ?_ | refine kl_step0 rfl rfl rfl fun K hK => ?_); go_simp; (try go_bits); (first | refine hK _ _ ?_ | refine hK _ ?_); clear hK K))
    refine kl_call rfl rfl rfl Try.func13 rfl (by kernel_rfl) rfl ?_
    refine Calls.mono (mark_any NoB g (noB g) f 2 (hashB u) W h2 (hashB_len u) (by unfold I64; omega)) ?_
    rintro e w3 ⟨rfl, hf3, hg3⟩
    refine ⟨_, rfl, ?_⟩
    rw [E3.out] at hf3 ⊢
    dsimp only at hf3 ⊢
    have hL3 := HL2.out.grown hg3 HG.out (fun p hp => by simp at hp)
    clear hg3 h2 HL2
    repeat (first | refine kw_seq ?_ | refine kw_region ?_ | refine kl_nil ?_ | refine kq_then ?_ | refine kw_iff rfl ?_ | refine kw_skip ?_ | refine kw_block ?_ | refine kl_ung rfl rfl ?_ | refine kl_skipg rfl rfl rfl rfl ?_ | (first | refine kl_move rfl rfl (.inl rfl) rfl rfl ?_ | refine kl_move rfl rfl (.inr rfl) rfl rfl ?_ | refine kl_const rfl rfl (.inl rfl) rfl ?_ | refine kl_const rfl rfl (.inr rfl) rfl ?_) | ((first | refine kl_step rfl rfl rfl fun K hK => ?_ | refine kl_step0 rfl rfl rfl fun K hK => ?_); go_simp; (try go_bits); (first | refine hK _ _ ?_ | refine hK _ ?_); clear hK K))
    refine kl_call rfl rfl rfl Try.func14 rfl (by kernel_rfl) rfl ?_
    refine Calls.mono (boot_any NoB g f3 w3 hf3) ?_
    rintro e wb4 ⟨A4, n4, c4, rfl, hB4, hT4, hn4, hc4, hb4⟩
    refine ⟨_, rfl, ?_⟩
    rw [BE.out] at hB4 ⊢
    dsimp only at hB4 ⊢
    have hf4 := hf3.below hb4
    have hL4 := hL3.next hb4
    have hNB4 := hB4.len
    have HAW4 := Lib.hid (boot_away hf4 hB4 hT4)
    clear hT4
    clear hb4
    repeat (first | (first | refine kl_move rfl rfl (.inl rfl) rfl rfl ?_ | refine kl_move rfl rfl (.inr rfl) rfl rfl ?_ | refine kl_const rfl rfl (.inl rfl) rfl ?_ | refine kl_const rfl rfl (.inr rfl) rfl ?_) | ((first | refine kl_step rfl rfl rfl fun K hK => ?_ | refine kl_step0 rfl rfl rfl fun K hK => ?_); go_simp; (try go_bits); (first | refine hK _ _ ?_ | refine hK _ ?_); clear hK K))
    refine kl_varL (z := (entC entZ).toArray) (cells := (entC ⟨(k : Int), 2, hashB u⟩).toArray) hL4 entZero (entInfo ⟨(k : Int), 2, hashB u⟩ (hashB_len u)) (by rw [List.size_toArray, List.size_toArray, entC_len entZ z32_len, entC_len ⟨(k : Int), 2, hashB u⟩ (hashB_len u)]) (ent_one ⟨(k : Int), 2, hashB u⟩) rfl rfl rfl rfl rfl rfl rfl rfl rfl ?_
    intro ge4 wv4 hge4 hbv4 hL4'
    have hf4' := hf4.below hbv4
    have hB4' := hB4.keep (.of_below hbv4)
    have HNE4 : Hid (ge4 ≠ g) := by show _ ≠ _; have := hf4.lt; omega
    clear hge4 hbv4 hf4 hL4 hB4
    have q3 := row_seq (hL4'.at_ 0 rfl)
    have q4 := row_sum (hL4'.at_ 0 rfl)
    dsimp only at q3 q4
    have HL4 : Hid (Lay w wv4 []) := ⟨hL4'.below, trivial⟩
    clear hL4' hL3 hf3 hNB4 hB4' HAW4
    repeat (first | refine kw_seq ?_ | refine kw_block ?_ | refine kw_region ?_ | refine kl_nil ?_ | refine kq_then ?_ | refine kq_block ?_ | refine kw_iff rfl ?_ | refine kw_skip ?_ | refine kl_ung rfl rfl ?_ | refine kl_build 29 _ (bv (hashB u)).toArray rfl rfl rfl (by rfl) (by rfl) (hashBuiltB u (k : Int) HU.out) ?_ | refine kl_load_mid 29 ge4 2 _ _ q4 Try.underlying29 rfl (hashSize _ (hashB_len u)) rfl rfl rfl rfl rfl ?_ | (first | refine kl_move rfl rfl (.inl rfl) rfl rfl ?_ | refine kl_move rfl rfl (.inr rfl) rfl rfl ?_ | refine kl_const rfl rfl (.inl rfl) rfl ?_ | refine kl_const rfl rfl (.inr rfl) rfl ?_) | ((first | refine kl_step rfl rfl rfl fun K hK => ?_ | refine kl_step0 rfl rfl rfl fun K hK => ?_); go_simp; (try go_bits); (first | refine hK _ _ ?_ | refine hK _ ?_); clear hK K))
    refine kq_again (n - k) [0, 3, 4] (by have := HI.out; omega) ?_
    exact ⟨k, k1, f3, by have := HI.out; omega, rfl, by have := HI.out; omega, I3, HL4, hf4', rfl⟩
  obtain rfl : i = n := by omega
  have t1 : decide ((k : Int) ≤ (i : Int)) = false := by rw [decide_eq_false_iff_not]; omega
  have t1n : decide (k ≤ i) = false := by rw [decide_eq_false_iff_not]; omega
  obtain ⟨x, y, hx, hy, hlx, hly, c1, c2, c3⟩ := I.out.ends (by have := HN.out; omega)
  have HX := Lib.hid hx
  have HY := Lib.hid hy
  have HE := Lib.hid (And.intro c1 (And.intro c2 c3))
  have h2 := hf2
  clear hx hy c1 c2 c3 hin hik hi I hf2
  repeat (first | refine kw_seq ?_ | refine kw_region ?_ | refine kl_nil ?_ | refine kq_then ?_ | refine kq_block ?_ | refine kw_iff rfl ?_ | refine kw_exit ?_ | refine kq_then_exit ?_ | refine kq_block_here rfl ?_ | refine kw_skip ?_ | (first | refine kl_move rfl rfl (.inl rfl) rfl rfl ?_ | refine kl_move rfl rfl (.inr rfl) rfl rfl ?_ | refine kl_const rfl rfl (.inl rfl) rfl ?_ | refine kl_const rfl rfl (.inr rfl) rfl ?_) | ((first | refine kl_step rfl rfl rfl fun K hK => ?_ | refine kl_step0 rfl rfl rfl fun K hK => ?_); go_simp; (try go_bits); (first | refine hK _ _ ?_ | refine hK _ ?_); clear hK K))
  refine kl_call rfl rfl rfl Try.func16 rfl (by kernel_rfl) rfl ?_
  refine Calls.mono (read_any NoB g f 0 W h2) ?_
  rintro e w4 ⟨A4, n4, c4, rfl, hB4, hn4, hc4, hb4⟩
  refine ⟨_, rfl, ?_⟩
  obtain rfl : n4 = 1024 := by have := hB4.len; omega
  have h4 := h2.below hb4
  have HL4 := Lib.hid (HL2.out.next hb4)
  clear h2 HL2 hb4 hc4 hlx
  repeat (first | refine kw_seq ?_ | refine kw_region ?_ | refine kl_nil ?_ | refine kq_then ?_ | refine kw_iff rfl ?_ | refine kw_skip ?_ | refine kw_block ?_ | refine kl_ung rfl rfl ?_ | refine kl_skipg rfl rfl rfl rfl ?_ | (first | refine kl_move rfl rfl (.inl rfl) rfl rfl ?_ | refine kl_move rfl rfl (.inr rfl) rfl rfl ?_ | refine kl_const rfl rfl (.inl rfl) rfl ?_ | refine kl_const rfl rfl (.inr rfl) rfl ?_) | ((first | refine kl_step rfl rfl rfl fun K hK => ?_ | refine kl_step0 rfl rfl rfl fun K hK => ?_); go_simp; (try go_bits); (first | refine hK _ _ ?_ | refine hK _ ?_); clear hK K))
  refine kl_call rfl rfl rfl Try.func15 rfl (by kernel_rfl) rfl ?_
  refine Calls.mono (blanks_any A4 c4 (readF f 0) w4 hB4 hn4) ?_
  rintro e _ ⟨rfl, rfl⟩
  refine ⟨_, rfl, ?_⟩
  rw [HX.out]
  clear hB4 hn4
  repeat (first | refine kw_seq ?_ | refine kw_region ?_ | refine kl_nil ?_ | refine kq_then ?_ | refine kw_iff rfl ?_ | refine kw_skip ?_ | refine kw_block ?_ | refine kl_ung rfl rfl ?_ | refine kl_skipg rfl rfl rfl rfl ?_ | (first | refine kl_move rfl rfl (.inl rfl) rfl rfl ?_ | refine kl_move rfl rfl (.inr rfl) rfl rfl ?_ | refine kl_const rfl rfl (.inl rfl) rfl ?_ | refine kl_const rfl rfl (.inr rfl) rfl ?_) | ((first | refine kl_step rfl rfl rfl fun K hK => ?_ | refine kl_step0 rfl rfl rfl fun K hK => ?_); go_simp; (try go_bits); (first | refine hK _ _ ?_ | refine hK _ ?_); clear hK K))
  refine kl_call rfl rfl rfl Try.func16 rfl (by kernel_rfl) rfl ?_
  refine Calls.mono (read_any NoB g f 1 w4 h4) ?_
  rintro e w5 ⟨A5, n5, c5, rfl, hB5, hn5, hc5, hb5⟩
  refine ⟨_, rfl, ?_⟩
  obtain rfl : n5 = 1024 := by have := hB5.len; omega
  have HL5 := Lib.hid (HL4.out.next hb5)
  clear h4 HL4 hb5 hc5 hly
  repeat (first | refine kw_seq ?_ | refine kw_region ?_ | refine kl_nil ?_ | refine kq_then ?_ | refine kw_iff rfl ?_ | refine kw_skip ?_ | refine kw_block ?_ | refine kl_ung rfl rfl ?_ | refine kl_skipg rfl rfl rfl rfl ?_ | (first | refine kl_move rfl rfl (.inl rfl) rfl rfl ?_ | refine kl_move rfl rfl (.inr rfl) rfl rfl ?_ | refine kl_const rfl rfl (.inl rfl) rfl ?_ | refine kl_const rfl rfl (.inr rfl) rfl ?_) | ((first | refine kl_step rfl rfl rfl fun K hK => ?_ | refine kl_step0 rfl rfl rfl fun K hK => ?_); go_simp; (try go_bits); (first | refine hK _ _ ?_ | refine hK _ ?_); clear hK K))
  refine kl_call rfl rfl rfl Try.func15 rfl (by kernel_rfl) rfl ?_
  refine Calls.mono (blanks_any A5 c5 (readF f 1) w5 hB5 hn5) ?_
  rintro e _ ⟨rfl, rfl⟩
  refine ⟨_, rfl, ?_⟩
  rw [HY.out]
  clear hB5 hn5 HX HY t1 t1n
  have a0 : (0 : Int) ≤ i := by omega
  have a1 : (i : Int) < 70 := by have := HN.out; omega
  by_cases d1 : i ≤ 16
  · have t2 : decide ((i : Int) ≤ 16) = true := by rw [decide_eq_true_eq]; omega
    have t2n : decide (i ≤ 16) = true := decide_eq_true d1
    have hx := HE.out.1 d1
    obtain ⟨v, hv⟩ : ∃ v, 4 * i = v := ⟨_, rfl⟩
    have b1 : (4 : Int) * (i : Int) = (v : Int) := by omega
    have b2 : (0 : Int) ≤ v := by omega
    have b3 : (v : Int) ≤ 64 := by omega
    have b4 : (64 : Int) - (v : Int) = (x : Int) := by omega
    obtain ⟨_, rfl⟩ := hx
    clear hv d1
    repeat (first | refine kw_seq ?_ | refine kw_block ?_ | refine kw_skip ?_ | refine kw_region ?_ | refine kl_nil ?_ | refine kq_then ?_ | refine kq_block ?_ | refine kw_exit ?_ | refine kq_then_exit ?_ | refine kq_block_here rfl ?_ | refine kq_block_far rfl ?_ | refine kq_again_exit ?_ | refine kw_ret ?_ | refine kq_then_ret ?_ | refine kq_block_ret ?_ | refine kq_again_ret ?_ | refine kw_ift rfl ?_ | refine kw_iff rfl ?_ | refine kl_ung rfl rfl ?_ | refine kl_skipg rfl rfl rfl rfl ?_ | refine kl_skipg0 rfl rfl rfl ?_ | (first | refine kl_move rfl rfl (.inl rfl) rfl rfl ?_ | refine kl_move rfl rfl (.inr rfl) rfl rfl ?_ | refine kl_const rfl rfl (.inl rfl) rfl ?_ | refine kl_const rfl rfl (.inr rfl) rfl ?_) | ((first | refine kl_step rfl rfl rfl fun K hK => ?_ | refine kl_step0 rfl rfl rfl fun K hK => ?_); go_simp; (try go_bits); (first | refine hK _ _ ?_ | refine hK _ ?_); clear hK K))
    exact kq_ret1 rfl rfl ⟨by first | rfl | simp, HL5.out.below⟩
  have t2 : decide ((i : Int) ≤ 16) = false := by rw [decide_eq_false_iff_not]; omega
  have t2n : decide (i ≤ 16) = false := decide_eq_false d1
  obtain ⟨m, hm⟩ : ∃ m : Nat, i = m + 17 := ⟨i - 17, by omega⟩
  have hm2 : i - 17 = m := by omega
  rw [hm2] at HE
  obtain ⟨q, hq⟩ : ∃ q, m / 16 = q := ⟨_, rfl⟩
  obtain ⟨r, hr⟩ : ∃ r, m % 16 = r := ⟨_, rfl⟩
  rw [hq, hr] at HE
  have b1 : (i : Int) - 17 = (m : Int) := by omega
  have b2 : Int.tmod (m : Int) 16 = (r : Int) := by rw [← hr]; rfl
  have b3 : Int.tdiv (m : Int) 16 = (q : Int) := by rw [← hq]; rfl
  have b4 : (0 : Int) ≤ m := by omega
  have b10 : wrap64 (q : Int) = (q : Int) := by unfold wrap64; omega
  have b11 : (0 : Int) ≤ q := by omega
  have b12 : (q : Int) ≤ 4 := by omega
  have b5 : (m : Int) ≤ 52 := by omega
  have b6 : (0 : Int) ≤ r := by omega
  have b7 : (r : Int) ≤ 15 := by omega
  obtain ⟨v, hv⟩ : ∃ v, r + 1 = v := ⟨_, rfl⟩
  have b8 : (r : Int) + 1 = (v : Int) := by omega
  obtain ⟨u, hu⟩ : ∃ u, 4 * v = u := ⟨_, rfl⟩
  have b9 : (4 : Int) * (v : Int) = (u : Int) := by omega
  have c0 : (0 : Int) ≤ v := by omega
  have c1 : (v : Int) ≤ 16 := by omega
  have c2 : (0 : Int) ≤ u := by omega
  have c3 : (u : Int) ≤ 64 := by omega
  rw [hv, hu] at HE
  by_cases d2 : q % 2 = 0
  · have e1 : Int.tmod (q : Int) 2 = 0 := by have : Int.tmod (q : Int) 2 = ((q % 2 : Nat) : Int) := rfl; rw [this, d2]; rfl
    obtain ⟨rfl, hy⟩ := HE.out.2.1 (by omega) d2
    have e2 : (64 : Int) - (u : Int) = (y : Int) := by omega
    clear d1 d2 hm hm2 hq hr hv hu hy
    repeat (first | refine kw_seq ?_ | refine kw_block ?_ | refine kw_skip ?_ | refine kw_region ?_ | refine kl_nil ?_ | refine kq_then ?_ | refine kq_block ?_ | refine kw_exit ?_ | refine kq_then_exit ?_ | refine kq_block_here rfl ?_ | refine kq_block_far rfl ?_ | refine kq_again_exit ?_ | refine kw_ret ?_ | refine kq_then_ret ?_ | refine kq_block_ret ?_ | refine kq_again_ret ?_ | refine kw_ift rfl ?_ | refine kw_iff rfl ?_ | refine kl_ung rfl rfl ?_ | refine kl_skipg rfl rfl rfl rfl ?_ | refine kl_skipg0 rfl rfl rfl ?_ | (first | refine kl_move rfl rfl (.inl rfl) rfl rfl ?_ | refine kl_move rfl rfl (.inr rfl) rfl rfl ?_ | refine kl_const rfl rfl (.inl rfl) rfl ?_ | refine kl_const rfl rfl (.inr rfl) rfl ?_) | ((first | refine kl_step rfl rfl rfl fun K hK => ?_ | refine kl_step0 rfl rfl rfl fun K hK => ?_); go_simp; (try go_bits); (first | refine hK _ _ ?_ | refine hK _ ?_); clear hK K))
    exact kq_ret1 rfl rfl ⟨by first | rfl | simp, HL5.out.below⟩
  · have e1 : Int.tmod (q : Int) 2 = 1 := by have : Int.tmod (q : Int) 2 = ((q % 2 : Nat) : Int) := rfl; rw [this, show q % 2 = 1 by omega]; rfl
    obtain ⟨rfl, hy⟩ := HE.out.2.2 (by omega) (by omega)
    have e2 : (64 : Int) - (u : Int) = (x : Int) := by omega
    clear d1 d2 hm hm2 hq hr hv hu hy
    repeat (first | refine kw_seq ?_ | refine kw_block ?_ | refine kw_skip ?_ | refine kw_region ?_ | refine kl_nil ?_ | refine kq_then ?_ | refine kq_block ?_ | refine kw_exit ?_ | refine kq_then_exit ?_ | refine kq_block_here rfl ?_ | refine kq_block_far rfl ?_ | refine kq_again_exit ?_ | refine kw_ret ?_ | refine kq_then_ret ?_ | refine kq_block_ret ?_ | refine kq_again_ret ?_ | refine kw_ift rfl ?_ | refine kw_iff rfl ?_ | refine kl_ung rfl rfl ?_ | refine kl_skipg rfl rfl rfl rfl ?_ | refine kl_skipg0 rfl rfl rfl ?_ | (first | refine kl_move rfl rfl (.inl rfl) rfl rfl ?_ | refine kl_move rfl rfl (.inr rfl) rfl rfl ?_ | refine kl_const rfl rfl (.inl rfl) rfl ?_ | refine kl_const rfl rfl (.inr rfl) rfl ?_) | ((first | refine kl_step rfl rfl rfl fun K hK => ?_ | refine kl_step0 rfl rfl rfl fun K hK => ?_); go_simp; (try go_bits); (first | refine hK _ _ ?_ | refine hK _ ?_); clear hK K))
    exact kq_ret1 rfl rfl ⟨by first | rfl | simp, HL5.out.below⟩
end Go.Proofs.Ytkncomkncfcecaa
