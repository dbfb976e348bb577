/- The document's Parse of a checkpoint. -/
import Derived.Test.YtcpifcdndhhmgaaRetRd
import Derived.Test.YtcpifcdndhhmgaaRetSmall
set_option linter.unusedVariables false
set_option linter.unusedSimpArgs false
namespace Go.Proofs.Ytcpifcdndhhmgaa
open Go.RowKit
attribute [local go_sem] ev_tmp ev_const ev_func ev_global lk_hit lk_miss uponK_value uponK_skip look_tmp look_const look_global look_func valP_value
structure PRInv (b : List UInt8) (seq : Int) (n : Nat) (l : List UInt8) (e : Int) (i : Nat) (ks : List KepS) (rl : List UInt8) (re : Int) : Prop where
  fin : (i = n ∨ re ≠ 0) → parseK b = finK seq ks (ended rl re)
  go : i < n → re = 0 → n ≤ 24 ∧ kepN i ([], l, e) = (ks, rl, re)
  len : ks.length = i
  le : i ≤ 24
theorem finK_ended (seq : Int) (ks : List KepS) (rl : List UInt8) (re : Int) (h : re ≠ 0) : finK seq ks (ended rl re) = (0, [], re) := by rw [ended_bad _ _ h, finK_err _ _ _ h]
theorem pr_few {b : List UInt8} {seq : Int} {n : Nat} {l : List UInt8} {e : Int} (hb : parseK b = bodyK seq n l e) (hn : n ≤ 24) : PRInv b seq n l e 0 [] l e := by
  refine ⟨fun h => ?_, fun _ _ => ⟨hn, rfl⟩, rfl, by omega⟩
  by_cases he : e ≠ 0
  · rw [finK_ended _ _ _ _ he, hb, bodyK_stick seq n 0 l e hn (by omega) he]; rfl
  · rcases h with rfl | h
    · rw [hb, bodyK_few _ _ _ _ (by omega)]; rfl
    · exact absurd h he
theorem pr_many {b : List UInt8} {seq : Int} {n : Nat} {l : List UInt8} {e : Int} (hb : parseK b = bodyK seq n l e) (hn : 24 < n) : PRInv b seq n l (if e = 0 then 4 else e) 0 [] l (if e = 0 then 4 else e) := by
  have he : (if e = 0 then 4 else e) ≠ 0 := by split <;> omega
  refine ⟨fun _ => ?_, fun _ h => absurd h he, rfl, by omega⟩
  rw [hb, bodyK_many _ _ _ _ hn]
  rfl
theorem PRInv.step {b : List UInt8} {seq : Int} {n : Nat} {l : List UInt8} {e : Int} {i : Nat} {ks : List KepS} {rl : List UInt8} (h : PRInv b seq n l e i ks rl 0) (hi : i < n) (hb : parseK b = bodyK seq n l e) :
    PRInv b seq n l e (i + 1) (stepK (ks, rl, 0)).1 (stepK (ks, rl, 0)).2.1 (stepK (ks, rl, 0)).2.2 := by
  obtain ⟨hn, hk⟩ := h.go hi rfl
  have hk1 : kepN (i + 1) ([], l, e) = stepK (ks, rl, 0) := by rw [kepN, hk]
  refine ⟨fun hh => ?_, fun _ _ => ⟨hn, hk1⟩, by have := h.len; simp [stepK, this], by omega⟩
  by_cases he : (stepK (ks, rl, 0)).2.2 ≠ 0
  · rw [finK_ended _ _ _ _ he, hb, bodyK_stick seq n (i + 1) l e hn (by omega) (by rw [hk1]; exact he), hk1]
  · rcases hh with hh | hh
    · rw [hb, bodyK_few _ _ _ _ (by omega), ← hh, hk1]
    · exact absurd hh he
theorem PRInv.hb {b : List UInt8} {seq : Int} {n : Nat} {l : List UInt8} {e : Int} {i : Nat} {ks : List KepS} {rl : List UInt8} (h : PRInv b seq n l e i ks rl 0) (hi : i < n) : n ≤ 24 := (h.go hi rfl).1
theorem value7R_any (k : Int) (w : World) : Calls Try.prog 73 #[.int .i64 k] w fun e w' => e = .returned (.bool (decide (1 ≤ k) && decide (k ≤ 6))) ∧ w = w' := by
  refine calls_kw Try.func73 rfl Try.ntmps73 rfl [(0, .int .i64 k)] rfl ?_
  by_cases d1 : 1 ≤ k
  case neg =>
    have t1 : decide (1 ≤ k) = false := decide_eq_false d1
    rw [t1]
    clear d1
    repeat (first | refine kw_seq ?_ | refine kw_block ?_ | refine kw_skip ?_ | refine kw_region ?_ | refine kl_nil ?_ | refine kq_then ?_ | refine kq_block ?_ | refine kw_exit ?_ | refine kq_then_exit ?_ | refine kq_block_here rfl ?_ | refine kq_block_far rfl ?_ | refine kq_again_exit ?_ | refine kw_ret ?_ | refine kq_then_ret ?_ | refine kq_block_ret ?_ | refine kq_again_ret ?_ | refine kw_ift rfl ?_ | refine kw_iff rfl ?_ | refine kl_ung rfl rfl ?_ | refine kl_skipg rfl rfl rfl rfl ?_ | refine kl_skipg0 rfl rfl rfl ?_ | (first | refine kl_move rfl rfl (.inl rfl) rfl rfl ?_ | refine kl_move rfl rfl (.inr rfl) rfl rfl ?_ | refine kl_const rfl rfl (.inl rfl) rfl ?_ | refine kl_const rfl rfl (.inr rfl) rfl ?_) | ((first | refine kl_step rfl rfl rfl fun K hK => ?_ | refine kl_step0 rfl rfl rfl fun K hK => ?_); go_simp; (try go_bits); (first | refine hK _ _ ?_ | refine hK _ ?_); clear hK K))
    exact kq_ret1 rfl rfl ⟨rfl, rfl⟩
  have t1 : decide (1 ≤ k) = true := decide_eq_true d1
  by_cases d2 : k ≤ 6
  case neg =>
    have t2 : decide (k ≤ 6) = false := decide_eq_false d2
    rw [t1, t2]
    clear d1 d2
    repeat (first | refine kw_seq ?_ | refine kw_block ?_ | refine kw_skip ?_ | refine kw_region ?_ | refine kl_nil ?_ | refine kq_then ?_ | refine kq_block ?_ | refine kw_exit ?_ | refine kq_then_exit ?_ | refine kq_block_here rfl ?_ | refine kq_block_far rfl ?_ | refine kq_again_exit ?_ | refine kw_ret ?_ | refine kq_then_ret ?_ | refine kq_block_ret ?_ | refine kq_again_ret ?_ | refine kw_ift rfl ?_ | refine kw_iff rfl ?_ | refine kl_ung rfl rfl ?_ | refine kl_skipg rfl rfl rfl rfl ?_ | refine kl_skipg0 rfl rfl rfl ?_ | (first | refine kl_move rfl rfl (.inl rfl) rfl rfl ?_ | refine kl_move rfl rfl (.inr rfl) rfl rfl ?_ | refine kl_const rfl rfl (.inl rfl) rfl ?_ | refine kl_const rfl rfl (.inr rfl) rfl ?_) | ((first | refine kl_step rfl rfl rfl fun K hK => ?_ | refine kl_step0 rfl rfl rfl fun K hK => ?_); go_simp; (try go_bits); (first | refine hK _ _ ?_ | refine hK _ ?_); clear hK K))
    exact kq_ret1 rfl rfl ⟨rfl, rfl⟩
  have t2 : decide (k ≤ 6) = true := decide_eq_true d2
  rw [t1, t2]
  clear d1 d2
  repeat (first | refine kw_seq ?_ | refine kw_block ?_ | refine kw_skip ?_ | refine kw_region ?_ | refine kl_nil ?_ | refine kq_then ?_ | refine kq_block ?_ | refine kw_exit ?_ | refine kq_then_exit ?_ | refine kq_block_here rfl ?_ | refine kq_block_far rfl ?_ | refine kq_again_exit ?_ | refine kw_ret ?_ | refine kq_then_ret ?_ | refine kq_block_ret ?_ | refine kq_again_ret ?_ | refine kw_ift rfl ?_ | refine kw_iff rfl ?_ | refine kl_ung rfl rfl ?_ | refine kl_skipg rfl rfl rfl rfl ?_ | refine kl_skipg0 rfl rfl rfl ?_ | (first | refine kl_move rfl rfl (.inl rfl) rfl rfl ?_ | refine kl_move rfl rfl (.inr rfl) rfl rfl ?_ | refine kl_const rfl rfl (.inl rfl) rfl ?_ | refine kl_const rfl rfl (.inr rfl) rfl ?_) | ((first | refine kl_step rfl rfl rfl fun K hK => ?_ | refine kl_step0 rfl rfl rfl fun K hK => ?_); go_simp; (try go_bits); (first | refine hK _ _ ?_ | refine hK _ ?_); clear hK K))
  exact kq_ret1 rfl rfl ⟨rfl, rfl⟩
set_option maxRecDepth 100000 in
set_option maxHeartbeats 8000000 in
theorem parseKR_any (A : Option Addr) (N c : Nat) (b : List UInt8) (w : World) (hA : Bs w A N b) (hN : N ≤ 1099511627776) (hNc : N ≤ c) (hc : c ≤ 9223372036854775807) : Calls Try.prog 65 #[.slice A N c] w (ParseKP b w) := by
  refine calls_kw Try.func65 rfl Try.ntmps65 rfl [(0, .slice A N c)] rfl ?_
  repeat (first | refine kw_seq ?_ | refine kw_region ?_ | refine kl_nil ?_ | refine kq_then ?_ | (first | refine kl_move rfl rfl (.inl rfl) rfl rfl ?_ | refine kl_move rfl rfl (.inr rfl) rfl rfl ?_ | refine kl_const rfl rfl (.inl rfl) rfl ?_ | refine kl_const rfl rfl (.inr rfl) rfl ?_))
  refine kl_call rfl rfl rfl Try.func96 rfl (by kernel_rfl) rfl ?_
  refine Calls.mono (rrNew A N c b (Lay.start w) hA hN hNc hc) ?_
  rintro e w1 ⟨g, rfl, hg, hR⟩
  refine ⟨_, rfl, ?_⟩
  have HG := Lib.hid hg
  have HP0 : Hid (parseK b = numK (tkN (taken b 0 8)) (taken b 0 8).2.1 (taken b 0 8).2.2) := rfl
  clear hg
  repeat (first | refine kw_seq ?_ | refine kw_region ?_ | refine kl_nil ?_ | refine kq_then ?_ | (first | refine kl_move rfl rfl (.inl rfl) rfl rfl ?_ | refine kl_move rfl rfl (.inr rfl) rfl rfl ?_ | refine kl_const rfl rfl (.inl rfl) rfl ?_ | refine kl_const rfl rfl (.inr rfl) rfl ?_) | ((first | refine kl_step rfl rfl rfl fun K hK => ?_ | refine kl_step0 rfl rfl rfl fun K hK => ?_); go_simp; (try go_bits); (first | refine hK _ _ ?_ | refine hK _ ?_); clear hK K))
  refine kl_call rfl rfl rfl Try.func97 rfl (by kernel_rfl) rfl ?_
  refine Calls.mono (rrInt hR) ?_
  rintro e w2 ⟨rfl, hR2⟩
  refine ⟨_, rfl, ?_⟩
  have hi := tkN_i64 (taken b 0 8)
  obtain ⟨seq, hseq⟩ : ∃ seq, tkN (taken b 0 8) = seq := ⟨_, rfl⟩
  obtain ⟨l1, e1, hle⟩ : ∃ l1 e1, (taken b 0 8).2 = (l1, e1) := ⟨_, _, rfl⟩
  rw [hle] at hR2
  rw [hseq, hle] at HP0
  rw [hseq] at hi ⊢
  have HSI := Lib.hid hi
  dsimp only at hR2 HP0
  clear hR hseq hle hi
  repeat (first | refine kw_seq ?_ | refine kw_region ?_ | refine kl_nil ?_ | refine kq_then ?_ | (first | refine kl_move rfl rfl (.inl rfl) rfl rfl ?_ | refine kl_move rfl rfl (.inr rfl) rfl rfl ?_ | refine kl_const rfl rfl (.inl rfl) rfl ?_ | refine kl_const rfl rfl (.inr rfl) rfl ?_) | ((first | refine kl_step rfl rfl rfl fun K hK => ?_ | refine kl_step0 rfl rfl rfl fun K hK => ?_); go_simp; (try go_bits); (first | refine hK _ _ ?_ | refine hK _ ?_); clear hK K))
  refine kl_call rfl rfl rfl Try.func98 rfl (by kernel_rfl) rfl ?_
  refine Calls.mono (rrByte hR2) ?_
  rintro e w3 ⟨rfl, hR3⟩
  refine ⟨_, rfl, ?_⟩
  have HP1 : Hid (parseK b = bodyK seq ((taken l1 e1 1).1.headD 0).toNat (taken l1 e1 1).2.1 (taken l1 e1 1).2.2) := HP0
  obtain ⟨u, hu⟩ : ∃ u, (taken l1 e1 1).1.headD 0 = u := ⟨_, rfl⟩
  obtain ⟨l2, e2, hle⟩ : ∃ l2 e2, (taken l1 e1 1).2 = (l2, e2) := ⟨_, _, rfl⟩
  rw [hle] at hR3
  rw [hu, hle] at HP1
  rw [hu]
  dsimp only at hR3 HP1
  have hub := byte_lt u
  obtain ⟨n, hn⟩ : ∃ n, u.toNat = n := ⟨_, rfl⟩
  rw [hn] at hub HP1 ⊢
  clear HP0 hR2 hu hle hn
  repeat (first | (first | refine kl_move rfl rfl (.inl rfl) rfl rfl ?_ | refine kl_move rfl rfl (.inr rfl) rfl rfl ?_ | refine kl_const rfl rfl (.inl rfl) rfl ?_ | refine kl_const rfl rfl (.inr rfl) rfl ?_) | refine kl_nil ?_)
  refine kq_then ?_
  refine kw_seq ?_
  have n0 : (0 : Int) ≤ n := by omega
  have n1 : (n : Int) ≤ 255 := by omega
  refine kw_cutq (fun L W => ∃ l e, Hid (PRInv b seq n l e 0 [] l e) ∧ Hid (0 < n → e = 0 → parseK b = bodyK seq n l e) ∧ Hid (Rd false w W [] g l e) ∧ L = [(5, .pointer (some ⟨g, 0, none⟩)), (6, .int .i64 seq), (7, .int .i64 (n : Int))]) ?_ ?_
  · by_cases h24 : 24 < n
    · have t1 : decide ((24 : Int) < (n : Int)) = true := by rw [decide_eq_true_eq]; omega
      have t1n : decide (24 < n) = true := decide_eq_true h24
      have HP2 := Lib.hid (pr_many HP1.out h24)
      have HP3 : Hid (0 < n → (if e2 = 0 then 4 else e2) = 0 → parseK b = bodyK seq n l2 (if e2 = 0 then 4 else e2)) := fun _ h => by split at h <;> omega
      clear h24 HP1
      repeat (first | refine kw_seq ?_ | refine kw_region ?_ | refine kl_nil ?_ | refine kq_then ?_ | refine kw_ift rfl ?_ | refine kw_iff rfl ?_ | refine kw_skip ?_ | refine kl_ung rfl rfl ?_ | refine kl_skipg rfl rfl rfl rfl ?_ | (first | refine kl_move rfl rfl (.inl rfl) rfl rfl ?_ | refine kl_move rfl rfl (.inr rfl) rfl rfl ?_ | refine kl_const rfl rfl (.inl rfl) rfl ?_ | refine kl_const rfl rfl (.inr rfl) rfl ?_) | ((first | refine kl_step rfl rfl rfl fun K hK => ?_ | refine kl_step0 rfl rfl rfl fun K hK => ?_); go_simp; (try go_bits); (first | refine hK _ _ ?_ | refine hK _ ?_); clear hK K))
      refine kl_call rfl rfl rfl Try.func99 rfl (by kernel_rfl) rfl ?_
      refine Calls.mono (rrFail 4 hR3) ?_
      rintro e w4 ⟨rfl, hR4⟩
      refine ⟨_, rfl, ?_⟩
      repeat (first | refine kw_seq ?_ | refine kw_region ?_ | refine kl_nil ?_ | refine kq_then ?_ | refine kw_ift rfl ?_ | refine kw_iff rfl ?_ | refine kw_skip ?_ | refine kl_ung rfl rfl ?_ | refine kl_skipg rfl rfl rfl rfl ?_ | (first | refine kl_move rfl rfl (.inl rfl) rfl rfl ?_ | refine kl_move rfl rfl (.inr rfl) rfl rfl ?_ | refine kl_const rfl rfl (.inl rfl) rfl ?_ | refine kl_const rfl rfl (.inr rfl) rfl ?_) | ((first | refine kl_step rfl rfl rfl fun K hK => ?_ | refine kl_step0 rfl rfl rfl fun K hK => ?_); go_simp; (try go_bits); (first | refine hK _ _ ?_ | refine hK _ ?_); clear hK K))
      refine kq_cut [5, 6, 7] ?_
      exact ⟨l2, _, HP2, HP3, hR4, rfl⟩
    · have t1 : decide ((24 : Int) < (n : Int)) = false := by rw [decide_eq_false_iff_not]; omega
      have t1n : decide (24 < n) = false := decide_eq_false h24
      have HP2 := Lib.hid (pr_few HP1.out (by omega))
      have HP3 : Hid (0 < n → e2 = 0 → parseK b = bodyK seq n l2 e2) := fun _ _ => HP1.out
      clear h24 HP1
      repeat (first | refine kw_seq ?_ | refine kw_region ?_ | refine kl_nil ?_ | refine kq_then ?_ | refine kw_ift rfl ?_ | refine kw_iff rfl ?_ | refine kw_skip ?_ | refine kl_ung rfl rfl ?_ | refine kl_skipg rfl rfl rfl rfl ?_ | (first | refine kl_move rfl rfl (.inl rfl) rfl rfl ?_ | refine kl_move rfl rfl (.inr rfl) rfl rfl ?_ | refine kl_const rfl rfl (.inl rfl) rfl ?_ | refine kl_const rfl rfl (.inr rfl) rfl ?_) | ((first | refine kl_step rfl rfl rfl fun K hK => ?_ | refine kl_step0 rfl rfl rfl fun K hK => ?_); go_simp; (try go_bits); (first | refine hK _ _ ?_ | refine hK _ ?_); clear hK K))
      refine kq_cut [5, 6, 7] ?_
      exact ⟨l2, e2, HP2, HP3, hR3, rfl⟩
  clear HP1 hR3
  rintro L W ⟨l, e, HI0, HPB, hR, rfl⟩
  have HRK : Hid (RdK false w W g W.heap.size l e (.slice none 0 0) 0 []) := ⟨hR.out.rd, World.ownsRow_nil _ _ _ _, hR.out.rd.lt, Nat.le_refl _, HG.out, (hR.out.lay HG.out).below⟩
  obtain ⟨B, hB⟩ : ∃ B, W.heap.size = B := ⟨_, rfl⟩
  rw [hB] at HRK
  clear hR hB
  repeat (first | refine kw_seq ?_ | refine kw_region ?_ | refine kl_nil ?_ | (first | refine kl_move rfl rfl (.inl rfl) rfl rfl ?_ | refine kl_move rfl rfl (.inr rfl) rfl rfl ?_ | refine kl_const rfl rfl (.inl rfl) rfl ?_ | refine kl_const rfl rfl (.inr rfl) rfl ?_))
  refine kq_then ?_
  refine kw_cut (fun L W => ∃ i v ks rl re, Hid (parseK b = finK seq ks (ended rl re)) ∧ Hid (ks.length = i ∧ i ≤ 24) ∧ Hid (RdK false w W g B rl re v i ks) ∧ L = [(5, .pointer (some ⟨g, 0, none⟩)), (6, .int .i64 seq), (8, v)]) ?_ ?_
  · repeat (first | refine kw_seq ?_ | refine kw_region ?_ | refine kl_nil ?_ | refine kq_then ?_ | (first | refine kl_move rfl rfl (.inl rfl) rfl rfl ?_ | refine kl_move rfl rfl (.inr rfl) rfl rfl ?_ | refine kl_const rfl rfl (.inl rfl) rfl ?_ | refine kl_const rfl rfl (.inr rfl) rfl ?_))
    refine KW.less [5, 6, 7, 8, 9] ?_
    simp only [nrm, lk, Nat.reduceBEq, cond_true, cond_false]
    refine kw_block ?_
    refine kw_loop (fun mm L W => ∃ i v ks rl re, i ≤ n ∧ mm = n - i ∧ Hid (PRInv b seq n l e i ks rl re) ∧ Hid (RdK false w W g B rl re v i ks) ∧ L = [(5, .pointer (some ⟨g, 0, none⟩)), (6, .int .i64 seq), (7, .int .i64 (n : Int)), (8, v), (9, .int .i64 (i : Int))]) ⟨0, .slice none 0 0, [], l, e, by omega, rfl, HI0, HRK, rfl⟩ ?_
    clear HRK HI0
    rintro mm L W ⟨i, v, ks, rl, re, hi, rfl, hI, hK, rfl⟩
    have hce : W.cell? ⟨g, 2, none⟩ = some (.int .i64 re) := Rd.err (Rd.start hK.out.rd)
    by_cases hlt : i < n
    case neg =>
      obtain rfl : i = n := by omega
      have t1 : decide ((i : Int) < (i : Int)) = false := by simp
      have t1n : decide (i < i) = false := by simp
      have HF := Lib.hid (hI.out.fin (.inl rfl))
      have HLE := Lib.hid (And.intro hI.out.len hI.out.le)
      clear hlt hi hI HPB
      repeat (first | refine kw_seq ?_ | refine kw_region ?_ | refine kl_nil ?_ | refine kq_then ?_ | refine kq_block ?_ | refine kw_ift rfl ?_ | refine kw_iff rfl ?_ | refine kw_exit ?_ | refine kq_then_exit ?_ | refine kq_again_exit ?_ | refine kq_block_here rfl ?_ | refine kw_skip ?_ | refine kl_ung rfl rfl ?_ | refine kl_skipg rfl rfl rfl rfl ?_ | (first | refine kl_move rfl rfl (.inl rfl) rfl rfl ?_ | refine kl_move rfl rfl (.inr rfl) rfl rfl ?_ | refine kl_const rfl rfl (.inl rfl) rfl ?_ | refine kl_const rfl rfl (.inr rfl) rfl ?_) | ((first | refine kl_step rfl rfl rfl fun K hK => ?_ | refine kl_step0 rfl rfl rfl fun K hK => ?_); go_simp; (try go_bits); (first | refine hK _ _ ?_ | refine hK _ ?_); clear hK K))
      refine kq_cut [5, 6, 8] ?_
      exact ⟨i, v, ks, rl, re, HF, HLE, hK, rfl⟩
    have t1 : decide ((i : Int) < (n : Int)) = true := by rw [decide_eq_true_eq]; omega
    have t1n : decide (i < n) = true := decide_eq_true hlt
    by_cases he0 : re = 0
    case neg =>
      have t2 : (re == 0) = false := by rw [beq_eq_false_iff_ne]; exact he0
      have HF := Lib.hid (hI.out.fin (.inr he0))
      have HLE := Lib.hid (And.intro hI.out.len hI.out.le)
      clear hlt hi hI HPB he0
      repeat (first | refine kw_seq ?_ | refine kw_region ?_ | refine kl_nil ?_ | refine kq_then ?_ | refine kq_block ?_ | refine kw_ift rfl ?_ | refine kw_iff rfl ?_ | refine kw_exit ?_ | refine kq_then_exit ?_ | refine kq_again_exit ?_ | refine kq_block_here rfl ?_ | refine kw_skip ?_ | refine kl_ung rfl rfl ?_ | refine kl_skipg rfl rfl rfl rfl ?_ | (first | refine kl_move rfl rfl (.inl rfl) rfl rfl ?_ | refine kl_move rfl rfl (.inr rfl) rfl rfl ?_ | refine kl_const rfl rfl (.inl rfl) rfl ?_ | refine kl_const rfl rfl (.inr rfl) rfl ?_) | ((first | refine kl_step rfl rfl rfl fun K hK => ?_ | refine kl_step0 rfl rfl rfl fun K hK => ?_); go_simp; (try go_bits); (first | refine hK _ _ ?_ | refine hK _ ?_); clear hK K))
      refine kq_cut [5, 6, 8] ?_
      exact ⟨i, v, ks, rl, re, HF, HLE, hK, rfl⟩
    subst he0
    have t2 : ((0 : Int) == 0) = true := rfl
    obtain ⟨i1, hi1⟩ : ∃ i1, i + 1 = i1 := ⟨_, rfl⟩
    have i3 : (i : Int) + 1 = (i1 : Int) := by omega
    have i4 : (0 : Int) ≤ i1 := by omega
    have i5 : (i1 : Int) ≤ 255 := by omega
    have i6 : (0 : Int) ≤ i := by omega
    have hn24 := hI.out.hb hlt
    have HB0 : Hid (parseK b = bodyK seq n l e) := by
      obtain ⟨_, hk⟩ := hI.out.go hlt rfl
      refine HPB.out (by omega) ?_
      by_cases h0 : e = 0
      · exact h0
      · have := kepN_stick ([], l, e) 0 h0 i
        rw [Nat.zero_add, hk] at this
        have h2 := congrArg Prod.snd this
        exact h2.symm
    have HST := Lib.hid (hI.out.step hlt HB0.out)
    rw [hi1] at HST
    have HI := Lib.hid (And.intro hi1 (And.intro hlt (And.intro hn24 hI.out.len)))
    clear hi1 hlt hi hI HB0 hn24
    repeat (first | refine kw_seq ?_ | refine kw_block ?_ | refine kw_region ?_ | refine kl_nil ?_ | refine kq_then ?_ | refine kw_ift rfl ?_ | refine kw_skip ?_ | refine kl_ung rfl rfl ?_ | (first | refine kl_move rfl rfl (.inl rfl) rfl rfl ?_ | refine kl_move rfl rfl (.inr rfl) rfl rfl ?_ | refine kl_const rfl rfl (.inl rfl) rfl ?_ | refine kl_const rfl rfl (.inr rfl) rfl ?_) | ((first | refine kl_step rfl rfl rfl fun K hK => ?_ | refine kl_step0 rfl rfl rfl fun K hK => ?_); go_simp; (try go_bits); (first | refine hK _ _ ?_ | refine hK _ ?_); clear hK K))
    refine kl_call rfl rfl rfl Try.func100 rfl (by kernel_rfl) rfl ?_
    refine Calls.mono (rrText (Rd.start hK.out.rd)) ?_
    rintro e w4 ⟨rfl, hR4⟩
    refine ⟨_, rfl, ?_⟩
    clear hce
    have hK4 := Lib.hid (hK.out.read hR4)
    have HST2 : Hid (stepK (ks, rl, 0) = (ks ++ [⟨(textOf rl 0).1, (((taken (textOf rl 0).2.1 (textOf rl 0).2.2 1).1.headD 0).toNat : Int), tkN (taken (taken (textOf rl 0).2.1 (textOf rl 0).2.2 1).2.1 (taken (textOf rl 0).2.1 (textOf rl 0).2.2 1).2.2 8)⟩], (taken (taken (textOf rl 0).2.1 (textOf rl 0).2.2 1).2.1 (taken (textOf rl 0).2.1 (textOf rl 0).2.2 1).2.2 8).2)) := rfl
    obtain ⟨pth, hpth⟩ : ∃ x, (textOf rl 0).1 = x := ⟨_, rfl⟩
    obtain ⟨l4, e4, hle4⟩ : ∃ a b, (textOf rl 0).2 = (a, b) := ⟨_, _, rfl⟩
    rw [hle4] at hK4
    rw [hpth, hle4] at HST2
    rw [hpth]
    dsimp only at hK4 HST2
    clear hK hR4 hpth hle4
    refine kl_build 29 _ (kepC ⟨pth, 0, 0⟩).toArray rfl rfl rfl (by rfl) (by rfl) (kepBuilt1 pth) ?_
    refine kl_varL (z := (kepC kepZ).toArray) (cells := (kepC ⟨pth, 0, 0⟩).toArray) (Lay.start w4) kepZero (kepInfo _) rfl (kepC_one _) rfl rfl rfl rfl rfl rfl rfl rfl rfl ?_
    intro g8 w5 hg8 hb5 hL5
    have hK5 := Lib.hid (hK4.out.below hb5)
    have hx5 := hL5.at_ 0 rfl
    have hgt : Hid (g < g8) := by show _ < _; have := hK4.out.rd.lt; omega
    have hnv : Hid (v.ownBlock ≠ some g8) := by show _ ≠ _; rw [hg8]; exact hK4.out.fresh
    clear hK4 hb5 hL5 hg8
    repeat (first | refine kw_seq ?_ | refine kw_region ?_ | refine kl_nil ?_ | refine kq_then ?_ | (first | refine kl_move rfl rfl (.inl rfl) rfl rfl ?_ | refine kl_move rfl rfl (.inr rfl) rfl rfl ?_ | refine kl_const rfl rfl (.inl rfl) rfl ?_ | refine kl_const rfl rfl (.inr rfl) rfl ?_) | ((first | refine kl_step rfl rfl rfl fun K hK => ?_ | refine kl_step0 rfl rfl rfl fun K hK => ?_); go_simp; (try go_bits); (first | refine hK _ _ ?_ | refine hK _ ?_); clear hK K))
    refine kl_call rfl rfl rfl Try.func98 rfl (by kernel_rfl) rfl ?_
    refine Calls.mono (rrByte (Rd.start hK5.out.rd)) ?_
    rintro e w6 ⟨rfl, hR6⟩
    refine ⟨_, rfl, ?_⟩
    have hK6 := Lib.hid (hK5.out.read hR6)
    have hx6 : w6.heap[g8]? = some (.cells (kepC ⟨pth, 0, 0⟩).toArray 29 (0, 0)) := by
      rw [hR6.grown.block g8 (Array.getElem?_eq_some_iff.1 hx5).1 (fun hh => by injection hh with hh; have := hgt.out; omega)]; exact hx5
    obtain ⟨u, hu⟩ : ∃ u, (taken l4 e4 1).1.headD 0 = u := ⟨_, rfl⟩
    obtain ⟨l5, e5, hle5⟩ : ∃ a b, (taken l4 e4 1).2 = (a, b) := ⟨_, _, rfl⟩
    rw [hle5] at hK6
    rw [hu, hle5] at HST2
    rw [hu]
    dsimp only at hK6 HST2
    clear hK5 hR6 hu hle5 hx5
    have hcx := cell_of_block (i := 1) (u := .int .i64 0) hx6 rfl
    have hfx := free_of_block (i := 1) hx6
    have hx7 := block_setCell (i := 1) (.int .i64 (u.toNat : Int)) hx6
    have hK7 := Lib.hid (hK6.out.other (grown_set w6 g8 1 (.int .i64 (u.toNat : Int))) hgt.out hnv.out)
    have HX7 : Hid ((w6.setCell ⟨g8, 1, none⟩ (.int .i64 (u.toNat : Int))).heap[g8]? = some (.cells (kepC ⟨pth, (u.toNat : Int), 0⟩).toArray 29 (0, 0))) := hx7
    clear hK6 hx6 hx7
    repeat (first | (first | refine kl_move rfl rfl (.inl rfl) rfl rfl ?_ | refine kl_move rfl rfl (.inr rfl) rfl rfl ?_ | refine kl_const rfl rfl (.inl rfl) rfl ?_ | refine kl_const rfl rfl (.inr rfl) rfl ?_) | ((first | refine kl_step rfl rfl rfl fun K hK => ?_ | refine kl_step0 rfl rfl rfl fun K hK => ?_); go_simp; (try go_bits); (first | refine hK _ _ ?_ | refine hK _ ?_); clear hK K))
    refine kl_nil ?_
    refine kq_then ?_
    change KW _ _ _ _ _ (w6.setCell ⟨g8, 1, none⟩ (.int .i64 (u.toNat : Int)))
    generalize w6.setCell ⟨g8, 1, none⟩ (.int .i64 (u.toNat : Int)) = w7 at hK7 HX7 ⊢
    clear hcx hfx
    repeat (first | refine kw_seq ?_ | refine kw_region ?_ | refine kl_nil ?_ | refine kq_then ?_ | (first | refine kl_move rfl rfl (.inl rfl) rfl rfl ?_ | refine kl_move rfl rfl (.inr rfl) rfl rfl ?_ | refine kl_const rfl rfl (.inl rfl) rfl ?_ | refine kl_const rfl rfl (.inr rfl) rfl ?_) | ((first | refine kl_step rfl rfl rfl fun K hK => ?_ | refine kl_step0 rfl rfl rfl fun K hK => ?_); go_simp; (try go_bits); (first | refine hK _ _ ?_ | refine hK _ ?_); clear hK K))
    refine kl_call rfl rfl rfl Try.func97 rfl (by kernel_rfl) rfl ?_
    refine Calls.mono (rrInt (Rd.start hK7.out.rd)) ?_
    rintro e w8 ⟨rfl, hR8⟩
    refine ⟨_, rfl, ?_⟩
    have hK8 := Lib.hid (hK7.out.read hR8)
    have hx8 : w8.heap[g8]? = some (.cells (kepC ⟨pth, (u.toNat : Int), 0⟩).toArray 29 (0, 0)) := by
      rw [hR8.grown.block g8 (Array.getElem?_eq_some_iff.1 HX7.out).1 (fun hh => by injection hh with hh; have := hgt.out; omega)]; exact HX7.out
    obtain ⟨z, hz⟩ : ∃ z, tkN (taken l5 e5 8) = z := ⟨_, rfl⟩
    obtain ⟨l7, e7, hle7⟩ : ∃ a b, (taken l5 e5 8).2 = (a, b) := ⟨_, _, rfl⟩
    rw [hle7] at hK8
    rw [hz, hle7] at HST2
    rw [hz]
    dsimp only at hK8 HST2
    have hcx := cell_of_block (i := 2) (u := .int .i64 0) hx8 rfl
    have hfx := free_of_block (i := 2) hx8
    have hx9 := block_setCell (i := 2) (.int .i64 z) hx8
    have hK9 := Lib.hid (hK8.out.other (grown_set w8 g8 2 (.int .i64 z)) hgt.out hnv.out)
    have HX9 : Hid ((w8.setCell ⟨g8, 2, none⟩ (.int .i64 z)).heap[g8]? = some (.cells (kepC ⟨pth, (u.toNat : Int), z⟩).toArray 29 (0, 0))) := hx9
    clear hK7 hK8 hR8 hx8 hx9 hz hle7 HX7
    repeat (first | (first | refine kl_move rfl rfl (.inl rfl) rfl rfl ?_ | refine kl_move rfl rfl (.inr rfl) rfl rfl ?_ | refine kl_const rfl rfl (.inl rfl) rfl ?_ | refine kl_const rfl rfl (.inr rfl) rfl ?_) | ((first | refine kl_step rfl rfl rfl fun K hK => ?_ | refine kl_step0 rfl rfl rfl fun K hK => ?_); go_simp; (try go_bits); (first | refine hK _ _ ?_ | refine hK _ ?_); clear hK K))
    refine kl_nil ?_
    refine kq_then ?_
    change KW _ _ _ _ _ (w8.setCell ⟨g8, 2, none⟩ (.int .i64 z))
    generalize w8.setCell ⟨g8, 2, none⟩ (.int .i64 z) = w9 at hK9 HX9 ⊢
    clear hcx hfx
    repeat (first | refine kw_seq ?_ | refine kw_region ?_ | refine kl_load_row 29 g8 29 (kepC ⟨pth, (u.toNat : Int), z⟩).toArray (0, 0) _ HX9.out Try.underlying29 rfl (kepInfo _) rfl rfl rfl rfl rfl ?_ | (first | refine kl_move rfl rfl (.inl rfl) rfl rfl ?_ | refine kl_move rfl rfl (.inr rfl) rfl rfl ?_ | refine kl_const rfl rfl (.inl rfl) rfl ?_ | refine kl_const rfl rfl (.inr rfl) rfl ?_))
    refine kl_buildSlice_row (z := kepC kepZ) (cs := kepC ⟨pth, (u.toNat : Int), z⟩) Try.underlying26 kepZero kepSize rfl (by omega) (by omega) rfl rfl rfl rfl rfl ?_
    have hr9 := rangeAt_new w9 (kepC ⟨pth, (u.toNat : Int), z⟩).toArray 29 w9.heap.size rfl
    have hb9 : Below w9.heap.size w9 (w9.alloc (.cells (kepC ⟨pth, (u.toNat : Int), z⟩).toArray 29)) := (Below.refl _ _).alloc (Nat.le_refl _) _
    have hK10 := Lib.hid (hK9.out.below hb9)
    have HR9 : Hid ((w9.alloc (.cells (kepC ⟨pth, (u.toNat : Int), z⟩).toArray 29)).rangeAt w9.heap.size 0 (kepC ⟨pth, (u.toNat : Int), z⟩)) := hr9
    clear hr9 hb9 hK9 HX9
    generalize w9.alloc (.cells (kepC ⟨pth, (u.toNat : Int), z⟩).toArray 29) = w10 at hK10 HR9 ⊢
    generalize w9.heap.size = g9 at HR9 ⊢
    refine kl_appK B v i ks ⟨pth, (u.toNat : Int), z⟩ hK10.out.own g9 1 HR9.out (by have := HI.out; omega) hK10.out.BW rfl rfl rfl rfl rfl rfl ?_
    intro v' w11 ho11 hg11 _
    have hK11 := Lib.hid (hK10.out.app ho11 hg11)
    clear hK10 ho11 hg11 HR9 hgt hnv
    repeat (first | refine kw_seq ?_ | refine kw_region ?_ | refine kl_nil ?_ | refine kq_then ?_ | refine kq_block ?_ | (first | refine kl_move rfl rfl (.inl rfl) rfl rfl ?_ | refine kl_move rfl rfl (.inr rfl) rfl rfl ?_ | refine kl_const rfl rfl (.inl rfl) rfl ?_ | refine kl_const rfl rfl (.inr rfl) rfl ?_) | ((first | refine kl_step rfl rfl rfl fun K hK => ?_ | refine kl_step0 rfl rfl rfl fun K hK => ?_); go_simp; (try go_bits); (first | refine hK _ _ ?_ | refine hK _ ?_); clear hK K))
    have HIo := HI.out
    rw [HST2.out] at HST
    have hK12 : Hid (RdK false w w11 g B l7 e7 v' i1 (ks ++ [⟨pth, (u.toNat : Int), z⟩])) := by
      show RdK _ _ _ _ _ _ _ _ _ _
      rw [← HI.out.1]; exact hK11.out
    refine kq_again (n - i1) [5, 6, 7, 8, 9] (by omega) ?_
    exact ⟨i1, v', _, l7, e7, by omega, rfl, HST, hK12, rfl⟩
  clear HRK HI0 HPB hub n0 n1
  rintro L W ⟨i, v, ks, rl, re, HP, HLE, hK, rfl⟩
  clear n l e
  repeat (first | refine kw_seq ?_ | refine kw_region ?_ | refine kl_nil ?_ | refine kq_then ?_ | (first | refine kl_move rfl rfl (.inl rfl) rfl rfl ?_ | refine kl_move rfl rfl (.inr rfl) rfl rfl ?_ | refine kl_const rfl rfl (.inl rfl) rfl ?_ | refine kl_const rfl rfl (.inr rfl) rfl ?_) | ((first | refine kl_step rfl rfl rfl fun K hK => ?_ | refine kl_step0 rfl rfl rfl fun K hK => ?_); go_simp; (try go_bits); (first | refine hK _ _ ?_ | refine hK _ ?_); clear hK K))
  refine kl_call rfl rfl rfl Try.func101 rfl (by kernel_rfl) rfl ?_
  refine Calls.mono (rrEnd (Rd.start hK.out.rd)) ?_
  rintro e w5 ⟨rfl, hRx, hb5⟩
  refine ⟨_, rfl, ?_⟩
  have hK5 := Lib.hid (hK.out.below hb5)
  clear hK hb5 hRx
  obtain ⟨E, hE⟩ : ∃ E, ended rl re = E := ⟨_, rfl⟩
  rw [hE] at HP ⊢
  clear hE
  obtain ⟨A5, c5, rfl, hkes, htyk, hkc, hkc9, _⟩ := own_kes hK5.out.own HLE.out.1
  have HBE := Lib.hid hK5.out.bel
  have HKE := Lib.hid (And.intro hkes (And.intro htyk (And.intro hkc hkc9)))
  clear hK5 hkes htyk hkc hkc9 B rl re
  repeat (first | (first | refine kl_move rfl rfl (.inl rfl) rfl rfl ?_ | refine kl_move rfl rfl (.inr rfl) rfl rfl ?_ | refine kl_const rfl rfl (.inl rfl) rfl ?_ | refine kl_const rfl rfl (.inr rfl) rfl ?_) | refine kl_nil ?_)
  refine kq_then ?_
  refine kw_seq ?_
  refine kw_cutq (fun L W => ∃ x, W = w5 ∧ Hid (x ≠ 0 → parseK b = (0, [], x)) ∧ Hid (x = 0 → parseK b = finK seq ks 0 ∧ ¬ seq < 1 ∧ ¬ 1073741824 < seq) ∧ L = [(6, .int .i64 seq), (8, .slice A5 i c5), (11, .int .i64 x)]) ?_ ?_
  · by_cases e0 : E = 0
    case neg =>
      have q1 : (E == 0) = false := by rw [beq_eq_false_iff_ne]; exact e0
      have HF := Lib.hid (HP.out.trans (finK_err seq ks E e0))
      have HE0 := Lib.hid e0
      clear e0
      repeat (first | refine kw_seq ?_ | refine kw_region ?_ | refine kl_nil ?_ | refine kq_then ?_ | refine kw_ift rfl ?_ | refine kw_iff rfl ?_ | refine kw_skip ?_ | refine kl_ung rfl rfl ?_ | refine kl_skipg rfl rfl rfl rfl ?_ | (first | refine kl_move rfl rfl (.inl rfl) rfl rfl ?_ | refine kl_move rfl rfl (.inr rfl) rfl rfl ?_ | refine kl_const rfl rfl (.inl rfl) rfl ?_ | refine kl_const rfl rfl (.inr rfl) rfl ?_) | ((first | refine kl_step rfl rfl rfl fun K hK => ?_ | refine kl_step0 rfl rfl rfl fun K hK => ?_); go_simp; (try go_bits); (first | refine hK _ _ ?_ | refine hK _ ?_); clear hK K))
      refine kq_cut [6, 8, 11] ?_
      exact ⟨E, rfl, fun _ => HF.out, fun h => absurd h HE0.out, rfl⟩
    subst e0
    have q1 : ((0 : Int) == 0) = true := rfl
    by_cases d1 : seq < 1
    case pos =>
      have q3 : decide (seq < 1) = true := decide_eq_true d1
      have HF := Lib.hid (HP.out.trans (finK_bad seq ks (badK_lo seq ks d1)))
      clear d1
      repeat (first | refine kw_seq ?_ | refine kw_region ?_ | refine kl_nil ?_ | refine kq_then ?_ | refine kw_ift rfl ?_ | refine kw_iff rfl ?_ | refine kw_skip ?_ | refine kl_ung rfl rfl ?_ | refine kl_skipg rfl rfl rfl rfl ?_ | (first | refine kl_move rfl rfl (.inl rfl) rfl rfl ?_ | refine kl_move rfl rfl (.inr rfl) rfl rfl ?_ | refine kl_const rfl rfl (.inl rfl) rfl ?_ | refine kl_const rfl rfl (.inr rfl) rfl ?_) | ((first | refine kl_step rfl rfl rfl fun K hK => ?_ | refine kl_step0 rfl rfl rfl fun K hK => ?_); go_simp; (try go_bits); (first | refine hK _ _ ?_ | refine hK _ ?_); clear hK K))
      refine kq_cut [6, 8, 11] ?_
      exact ⟨10, rfl, fun _ => HF.out, (fun h => by cases h), rfl⟩
    have q3 : decide (seq < 1) = false := decide_eq_false d1
    by_cases d2 : 1073741824 < seq
    case pos =>
      have q4 : decide ((1073741824 : Int) < seq) = true := decide_eq_true d2
      have HF := Lib.hid (HP.out.trans (finK_bad seq ks (badK_hi seq ks d2)))
      clear d1 d2
      repeat (first | refine kw_seq ?_ | refine kw_region ?_ | refine kl_nil ?_ | refine kq_then ?_ | refine kw_ift rfl ?_ | refine kw_iff rfl ?_ | refine kw_skip ?_ | refine kl_ung rfl rfl ?_ | refine kl_skipg rfl rfl rfl rfl ?_ | (first | refine kl_move rfl rfl (.inl rfl) rfl rfl ?_ | refine kl_move rfl rfl (.inr rfl) rfl rfl ?_ | refine kl_const rfl rfl (.inl rfl) rfl ?_ | refine kl_const rfl rfl (.inr rfl) rfl ?_) | ((first | refine kl_step rfl rfl rfl fun K hK => ?_ | refine kl_step0 rfl rfl rfl fun K hK => ?_); go_simp; (try go_bits); (first | refine hK _ _ ?_ | refine hK _ ?_); clear hK K))
      refine kq_cut [6, 8, 11] ?_
      exact ⟨10, rfl, fun _ => HF.out, (fun h => by cases h), rfl⟩
    have q4 : decide ((1073741824 : Int) < seq) = false := decide_eq_false d2
    have HD := Lib.hid (And.intro HP.out (And.intro d1 d2))
    clear d1 d2
    repeat (first | refine kw_seq ?_ | refine kw_region ?_ | refine kl_nil ?_ | refine kq_then ?_ | refine kw_ift rfl ?_ | refine kw_iff rfl ?_ | refine kw_skip ?_ | refine kl_ung rfl rfl ?_ | refine kl_skipg rfl rfl rfl rfl ?_ | (first | refine kl_move rfl rfl (.inl rfl) rfl rfl ?_ | refine kl_move rfl rfl (.inr rfl) rfl rfl ?_ | refine kl_const rfl rfl (.inl rfl) rfl ?_ | refine kl_const rfl rfl (.inr rfl) rfl ?_) | ((first | refine kl_step rfl rfl rfl fun K hK => ?_ | refine kl_step0 rfl rfl rfl fun K hK => ?_); go_simp; (try go_bits); (first | refine hK _ _ ?_ | refine hK _ ?_); clear hK K))
    refine kq_cut [6, 8, 11] ?_
    exact ⟨0, rfl, fun h => absurd rfl h, fun _ => HD.out, rfl⟩
  clear HP E
  rintro L W ⟨x, rfl, hX, hX0, rfl⟩
  refine kw_cut (fun L W2 => ∃ x, Hid (Below W.heap.size W W2) ∧ Hid (x ≠ 0 → parseK b = (0, [], x)) ∧ Hid (x = 0 → parseK b = (seq, ks, 0)) ∧ L = [(6, .int .i64 seq), (8, .slice A5 i c5), (11, .int .i64 x)]) ?_ ?_
  · repeat (first | refine kw_seq ?_ | refine kw_region ?_ | refine kl_nil ?_ | refine kq_then ?_ | (first | refine kl_move rfl rfl (.inl rfl) rfl rfl ?_ | refine kl_move rfl rfl (.inr rfl) rfl rfl ?_ | refine kl_const rfl rfl (.inl rfl) rfl ?_ | refine kl_const rfl rfl (.inr rfl) rfl ?_))
    refine KW.less [6, 8, 11, 12] ?_
    simp only [nrm, lk, Nat.reduceBEq, cond_true, cond_false]
    refine kw_block ?_
    refine kw_loop (fun mm L W2 => ∃ j x, j ≤ i ∧ mm = i - j ∧ Hid (Below W.heap.size W W2) ∧ Hid (x ≠ 0 → parseK b = (0, [], x)) ∧ Hid (x = 0 → parseK b = finK seq ks 0 ∧ ¬ seq < 1 ∧ ¬ 1073741824 < seq ∧ (ks.take j).all mayK = true) ∧ L = [(6, .int .i64 seq), (8, .slice A5 i c5), (11, .int .i64 x), (12, .int .i64 (j : Int))]) ⟨0, x, by omega, rfl, Below.refl _ _, hX, fun h => ⟨(hX0.out h).1, (hX0.out h).2.1, (hX0.out h).2.2, rfl⟩, rfl⟩ ?_
    clear hX hX0 x
    rintro mm L W2 ⟨j, x, hj, rfl, hb2, hX, hX0, rfl⟩
    by_cases hlt : j < i
    case neg =>
      obtain rfl : j = i := by omega
      have t1 : decide ((j : Int) < (j : Int)) = false := by simp
      have t1n : decide (j < j) = false := by simp
      have HZ : Hid (x = 0 → parseK b = (seq, ks, 0)) := fun h => by
        obtain ⟨h1, h2, h3, h4⟩ := hX0.out h
        rw [List.take_of_length_le (by have := HLE.out; omega)] at h4
        rw [h1]
        refine finK_ok seq ks ?_
        rw [badK_may seq ks h2 h3]
        exact List.any_eq_false.2 fun k hk => by rw [List.all_eq_true.1 h4 k hk]; simp
      clear hlt hj hX0
      repeat (first | refine kw_seq ?_ | refine kw_region ?_ | refine kl_nil ?_ | refine kq_then ?_ | refine kq_block ?_ | refine kw_ift rfl ?_ | refine kw_iff rfl ?_ | refine kw_exit ?_ | refine kq_then_exit ?_ | refine kq_again_exit ?_ | refine kq_block_here rfl ?_ | refine kw_skip ?_ | refine kl_ung rfl rfl ?_ | refine kl_skipg rfl rfl rfl rfl ?_ | (first | refine kl_move rfl rfl (.inl rfl) rfl rfl ?_ | refine kl_move rfl rfl (.inr rfl) rfl rfl ?_ | refine kl_const rfl rfl (.inl rfl) rfl ?_ | refine kl_const rfl rfl (.inr rfl) rfl ?_) | ((first | refine kl_step rfl rfl rfl fun K hK => ?_ | refine kl_step0 rfl rfl rfl fun K hK => ?_); go_simp; (try go_bits); (first | refine hK _ _ ?_ | refine hK _ ?_); clear hK K))
      refine kq_cut [6, 8, 11] ?_
      exact ⟨x, hb2, hX, HZ, rfl⟩
    have t1 : decide ((j : Int) < (i : Int)) = true := by rw [decide_eq_true_eq]; omega
    have t1n : decide (j < i) = true := decide_eq_true hlt
    by_cases hx0 : x = 0
    case neg =>
      have t2 : (x == 0) = false := by rw [beq_eq_false_iff_ne]; exact hx0
      have HZ : Hid (x = 0 → parseK b = (seq, ks, 0)) := fun h => absurd h hx0
      clear hlt hj hX0 hx0
      repeat (first | refine kw_seq ?_ | refine kw_region ?_ | refine kl_nil ?_ | refine kq_then ?_ | refine kq_block ?_ | refine kw_ift rfl ?_ | refine kw_iff rfl ?_ | refine kw_exit ?_ | refine kq_then_exit ?_ | refine kq_again_exit ?_ | refine kq_block_here rfl ?_ | refine kw_skip ?_ | refine kl_ung rfl rfl ?_ | refine kl_skipg rfl rfl rfl rfl ?_ | (first | refine kl_move rfl rfl (.inl rfl) rfl rfl ?_ | refine kl_move rfl rfl (.inr rfl) rfl rfl ?_ | refine kl_const rfl rfl (.inl rfl) rfl ?_ | refine kl_const rfl rfl (.inr rfl) rfl ?_) | ((first | refine kl_step rfl rfl rfl fun K hK => ?_ | refine kl_step0 rfl rfl rfl fun K hK => ?_); go_simp; (try go_bits); (first | refine hK _ _ ?_ | refine hK _ ?_); clear hK K))
      refine kq_cut [6, 8, 11] ?_
      exact ⟨x, hb2, hX, HZ, rfl⟩
    subst hx0
    have t2 : ((0 : Int) == 0) = true := rfl
    have u0 : (0 : Int) ≤ j := by omega
    have u1 : (j : Int) < i := by omega
    obtain ⟨j1, hj1⟩ : ∃ j1, j + 1 = j1 := ⟨_, rfl⟩
    have i3 : (j : Int) + 1 = (j1 : Int) := by omega
    have i4 : (0 : Int) ≤ j1 := by omega
    have i5 : (j1 : Int) ≤ 25 := by have := HLE.out; omega
    obtain ⟨gA, oA, p, rfl, hra, htk, hat⟩ := HKE.out.1.next hlt
    obtain ⟨oj, hoj⟩ : ∃ oj, oA + j * 3 = oj := ⟨_, rfl⟩
    rw [hoj] at hra
    have c2 : ∀ W2, Below W.heap.size W W2 → W2.cell? ⟨gA, oj + 1, none⟩ = some (.int .i64 p.kind) := fun W2 h => Keeps.of_below h _ _ (hra 1 _ rfl)
    have c3 : ∀ W2, Below W.heap.size W W2 → W2.cell? ⟨gA, oj + 2, none⟩ = some (.int .i64 p.value) := fun W2 h => Keeps.of_below h _ _ (hra 2 _ rfl)
    have HI := Lib.hid (And.intro hj1 hlt)
    have HX1 : Hid (parseK b = finK seq ks 0 ∧ ¬ seq < 1 ∧ ¬ 1073741824 < seq ∧ (ks.take j).all mayK = true) := hX0.out rfl
    have HBADK : Hid (mayK p = false → parseK b = (0, [], 10)) := fun h => by
      obtain ⟨h1, h2, h3, _⟩ := HX1.out
      rw [h1]
      refine finK_bad seq ks ?_
      rw [badK_may seq ks h2 h3]
      exact List.any_eq_true.2 ⟨p, List.mem_of_getElem? hat.out, by rw [h]; rfl⟩
    have HOKK : Hid (mayK p = true → parseK b = finK seq ks 0 ∧ ¬ seq < 1 ∧ ¬ 1073741824 < seq ∧ (ks.take j1).all mayK = true) := fun h => by
      obtain ⟨h1, h2, h3, h4⟩ := HX1.out
      refine ⟨h1, h2, h3, ?_⟩
      rw [← HI.out.1, htk.out, List.all_append, h4]
      simp [h]
    clear hra hj1 hlt hj hX hX0 HX1 htk hat
    repeat (first | refine kw_seq ?_ | refine kw_region ?_ | refine kl_nil ?_ | refine kq_then ?_ | refine kw_ift rfl ?_ | refine kw_skip ?_ | refine kl_ung rfl rfl ?_ | (first | refine kl_move rfl rfl (.inl rfl) rfl rfl ?_ | refine kl_move rfl rfl (.inr rfl) rfl rfl ?_ | refine kl_const rfl rfl (.inl rfl) rfl ?_ | refine kl_const rfl rfl (.inr rfl) rfl ?_) | ((first | refine kl_step rfl rfl rfl fun K hK => ?_ | refine kl_step0 rfl rfl rfl fun K hK => ?_); go_simp; (try go_bits); (first | refine hK _ _ ?_ | refine hK _ ?_); clear hK K))
    refine kw_block ?_
    refine kw_seq ?_
    have hR : Below W.heap.size W W2.drew := below_then hb2.out ((Below.refl _ _).drew) hb2.out.size
    clear hb2 t1 t1n t2
    refine kw_region_f (Below W.heap.size W) [true, true, true, true, true, false, true, true, true, true, true, true, true, true, true, true, true, true, false, true, true, true, true, true, true, true] (by kernel_rfl) (by kernel_rfl) hR ?_
    generalize W2.drew = w6 at *
    repeat (first | refine kf_nil ?_ | refine kf_ung rfl rfl ?_ | refine kf_skipg rfl rfl rfl rfl ?_ | (first | refine kf_move rfl rfl (.inl rfl) rfl rfl ?_ | refine kf_move rfl rfl (.inr rfl) rfl rfl ?_ | refine kf_const rfl rfl (.inl rfl) rfl ?_ | refine kf_const rfl rfl (.inr rfl) rfl ?_) | (refine kf_val rfl rfl rfl ?_; apply Exists.intro; refine And.intro (fun W hW N hN => ?_) ?_; · (go_simp; (try go_bits); exact hN)))
    refine kf_ch ?_
    refine kl_call rfl rfl rfl Try.func73 rfl (by kernel_rfl) rfl ?_
    refine Calls.mono (value7R_any p.kind w6) ?_
    rintro e _ ⟨rfl, rfl⟩
    refine ⟨_, rfl, ?_⟩
    refine kl_nil ?_
    refine kq_f hR ?_
    by_cases dk : 1 ≤ p.kind ∧ p.kind ≤ 6
    case neg =>
      have HM : Hid (mayK p = false) := by
        show _ = _
        by_cases h1 : 1 ≤ p.kind
        · exact mayK_hi fun h2 => dk ⟨h1, h2⟩
        · exact mayK_lo h1
      have hv : (decide (1 ≤ p.kind) && decide (p.kind ≤ 6)) = false := by
        rw [Bool.eq_false_iff]; intro h; simp only [Bool.and_eq_true, decide_eq_true_eq] at h; exact dk h
      rw [hv]
      have HF := Lib.hid (HBADK.out HM.out)
      have HB6 := Lib.hid hR
      clear dk hv HBADK HOKK HM
      repeat (first | refine kf_nil ?_ | refine kf_ung rfl rfl ?_ | refine kf_skipg rfl rfl rfl rfl ?_ | (first | refine kf_move rfl rfl (.inl rfl) rfl rfl ?_ | refine kf_move rfl rfl (.inr rfl) rfl rfl ?_ | refine kf_const rfl rfl (.inl rfl) rfl ?_ | refine kf_const rfl rfl (.inr rfl) rfl ?_) | (refine kf_val rfl rfl rfl ?_; apply Exists.intro; refine And.intro (fun W hW N hN => ?_) ?_; · (go_simp; (try go_bits); exact hN)))
      refine kf_skipc rfl rfl rfl rfl hR ?_
      repeat (first | refine kf_nil ?_ | refine kf_ung rfl rfl ?_ | refine kf_skipg rfl rfl rfl rfl ?_ | (first | refine kf_move rfl rfl (.inl rfl) rfl rfl ?_ | refine kf_move rfl rfl (.inr rfl) rfl rfl ?_ | refine kf_const rfl rfl (.inl rfl) rfl ?_ | refine kf_const rfl rfl (.inr rfl) rfl ?_) | (refine kf_val rfl rfl rfl ?_; apply Exists.intro; refine And.intro (fun W hW N hN => ?_) ?_; · (go_simp; (try go_bits); exact hN)))
      clear c2 c3 hR
      repeat (first | refine kw_seq ?_ | refine kw_region ?_ | refine kl_nil ?_ | refine kq_then ?_ | refine kq_block ?_ | refine kw_ift rfl ?_ | refine kw_iff rfl ?_ | refine kw_exit ?_ | refine kq_then_exit ?_ | refine kq_again_exit ?_ | refine kq_block_here rfl ?_ | refine kw_skip ?_ | refine kl_ung rfl rfl ?_ | refine kl_skipg rfl rfl rfl rfl ?_ | (first | refine kl_move rfl rfl (.inl rfl) rfl rfl ?_ | refine kl_move rfl rfl (.inr rfl) rfl rfl ?_ | refine kl_const rfl rfl (.inl rfl) rfl ?_ | refine kl_const rfl rfl (.inr rfl) rfl ?_) | ((first | refine kl_step rfl rfl rfl fun K hK => ?_ | refine kl_step0 rfl rfl rfl fun K hK => ?_); go_simp; (try go_bits); (first | refine hK _ _ ?_ | refine hK _ ?_); clear hK K))
      refine kq_again (i - j1) [6, 8, 11, 12] (by have := HI.out; omega) ?_
      exact ⟨j1, 10, by have := HI.out; omega, rfl, HB6, fun _ => HF.out, (fun h => by cases h), rfl⟩
    have hv : (decide (1 ≤ p.kind) && decide (p.kind ≤ 6)) = true := by simp only [Bool.and_eq_true, decide_eq_true_eq]; exact dk
    rw [hv]
    have HM := Lib.hid (mayK_eq dk.1 dk.2)
    clear dk hv
    repeat (first | refine kf_nil ?_ | refine kf_ung rfl rfl ?_ | refine kf_skipg rfl rfl rfl rfl ?_ | (first | refine kf_move rfl rfl (.inl rfl) rfl rfl ?_ | refine kf_move rfl rfl (.inr rfl) rfl rfl ?_ | refine kf_const rfl rfl (.inl rfl) rfl ?_ | refine kf_const rfl rfl (.inr rfl) rfl ?_) | (refine kf_val rfl rfl rfl ?_; apply Exists.intro; refine And.intro (fun W hW N hN => ?_) ?_; · (go_simp; (try go_bits); exact hN)))
    refine kf_ch ?_
    (try refine kl_ung rfl rfl ?_)
    refine kl_call rfl rfl rfl Try.func30 rfl (by kernel_rfl) rfl ?_
    refine Calls.mono (wrapR_any p.kind p.value w6) ?_
    rintro e _ ⟨rfl, rfl⟩
    refine ⟨_, rfl, ?_⟩
    refine kl_nil ?_
    refine kq_f hR ?_
    obtain ⟨z, hz⟩ : ∃ z, wrapK p.kind p.value = z := ⟨_, rfl⟩
    rw [hz] at HM ⊢
    clear hz
    have HB6 := Lib.hid hR
    by_cases dz : z = p.value
    case neg =>
      have q1 : (z != p.value) = true := bne_iff_ne.2 dz
      have HF := Lib.hid (HBADK.out (by rw [HM.out, beq_eq_false_iff_ne]; exact dz))
      clear dz HBADK HOKK HM
      repeat (first | refine kf_nil ?_ | refine kf_ung rfl rfl ?_ | refine kf_skipg rfl rfl rfl rfl ?_ | (first | refine kf_move rfl rfl (.inl rfl) rfl rfl ?_ | refine kf_move rfl rfl (.inr rfl) rfl rfl ?_ | refine kf_const rfl rfl (.inl rfl) rfl ?_ | refine kf_const rfl rfl (.inr rfl) rfl ?_) | (refine kf_val rfl rfl rfl ?_; apply Exists.intro; refine And.intro (fun W hW N hN => ?_) ?_; · (go_simp; (try go_bits); exact hN)))
      clear c2 c3 hR
      repeat (first | refine kw_seq ?_ | refine kw_region ?_ | refine kl_nil ?_ | refine kq_then ?_ | refine kq_block ?_ | refine kw_ift rfl ?_ | refine kw_iff rfl ?_ | refine kw_exit ?_ | refine kq_then_exit ?_ | refine kq_again_exit ?_ | refine kq_block_here rfl ?_ | refine kw_skip ?_ | refine kl_ung rfl rfl ?_ | refine kl_skipg rfl rfl rfl rfl ?_ | (first | refine kl_move rfl rfl (.inl rfl) rfl rfl ?_ | refine kl_move rfl rfl (.inr rfl) rfl rfl ?_ | refine kl_const rfl rfl (.inl rfl) rfl ?_ | refine kl_const rfl rfl (.inr rfl) rfl ?_) | ((first | refine kl_step rfl rfl rfl fun K hK => ?_ | refine kl_step0 rfl rfl rfl fun K hK => ?_); go_simp; (try go_bits); (first | refine hK _ _ ?_ | refine hK _ ?_); clear hK K))
      refine kq_again (i - j1) [6, 8, 11, 12] (by have := HI.out; omega) ?_
      exact ⟨j1, 10, by have := HI.out; omega, rfl, HB6, fun _ => HF.out, (fun h => by cases h), rfl⟩
    have q1 : (z != p.value) = false := by rw [dz]; simp
    have HF := Lib.hid (HOKK.out (by rw [HM.out, dz]; simp))
    clear dz HBADK HOKK HM
    repeat (first | refine kf_nil ?_ | refine kf_ung rfl rfl ?_ | refine kf_skipg rfl rfl rfl rfl ?_ | (first | refine kf_move rfl rfl (.inl rfl) rfl rfl ?_ | refine kf_move rfl rfl (.inr rfl) rfl rfl ?_ | refine kf_const rfl rfl (.inl rfl) rfl ?_ | refine kf_const rfl rfl (.inr rfl) rfl ?_) | (refine kf_val rfl rfl rfl ?_; apply Exists.intro; refine And.intro (fun W hW N hN => ?_) ?_; · (go_simp; (try go_bits); exact hN)))
    clear c2 c3 hR
    repeat (first | refine kw_seq ?_ | refine kw_region ?_ | refine kl_nil ?_ | refine kq_then ?_ | refine kq_block ?_ | refine kw_ift rfl ?_ | refine kw_iff rfl ?_ | refine kw_exit ?_ | refine kq_then_exit ?_ | refine kq_again_exit ?_ | refine kq_block_here rfl ?_ | refine kw_skip ?_ | refine kl_ung rfl rfl ?_ | refine kl_skipg rfl rfl rfl rfl ?_ | (first | refine kl_move rfl rfl (.inl rfl) rfl rfl ?_ | refine kl_move rfl rfl (.inr rfl) rfl rfl ?_ | refine kl_const rfl rfl (.inl rfl) rfl ?_ | refine kl_const rfl rfl (.inr rfl) rfl ?_) | ((first | refine kl_step rfl rfl rfl fun K hK => ?_ | refine kl_step0 rfl rfl rfl fun K hK => ?_); go_simp; (try go_bits); (first | refine hK _ _ ?_ | refine hK _ ?_); clear hK K))
    refine kq_again (i - j1) [6, 8, 11, 12] (by have := HI.out; omega) ?_
    exact ⟨j1, 0, by have := HI.out; omega, rfl, HB6, fun h => absurd rfl h, fun _ => HF.out, rfl⟩
  clear hX hX0 x
  rintro L W2 ⟨x, hb2, hX, hX0, rfl⟩
  have HBE2 := Lib.hid (below_then HBE.out hb2.out HBE.out.size)
  by_cases hx0 : x = 0
  case neg =>
    have q1 : (x != 0) = true := bne_iff_ne.2 hx0
    have HF := Lib.hid (hX.out hx0)
    clear hx0 hX hX0
    repeat (first | refine kw_seq ?_ | refine kw_block ?_ | refine kw_skip ?_ | refine kw_region ?_ | refine kl_nil ?_ | refine kq_then ?_ | refine kq_block ?_ | refine kw_exit ?_ | refine kq_then_exit ?_ | refine kq_block_here rfl ?_ | refine kq_block_far rfl ?_ | refine kq_again_exit ?_ | refine kw_ret ?_ | refine kq_then_ret ?_ | refine kq_block_ret ?_ | refine kq_again_ret ?_ | refine kw_ift rfl ?_ | refine kw_iff rfl ?_ | refine kl_ung rfl rfl ?_ | refine kl_skipg rfl rfl rfl rfl ?_ | refine kl_skipg0 rfl rfl rfl ?_ | (first | refine kl_move rfl rfl (.inl rfl) rfl rfl ?_ | refine kl_move rfl rfl (.inr rfl) rfl rfl ?_ | refine kl_const rfl rfl (.inl rfl) rfl ?_ | refine kl_const rfl rfl (.inr rfl) rfl ?_) | ((first | refine kl_step rfl rfl rfl fun K hK => ?_ | refine kl_step0 rfl rfl rfl fun K hK => ?_); go_simp; (try go_bits); (first | refine hK _ _ ?_ | refine hK _ ?_); clear hK K))
    refine kq_ret3 rfl rfl rfl rfl ⟨none, 0, 0, ?_, ?_, TyK.nil _, by omega, by omega, HBE2.out⟩
    · rw [HF.out]
    · rw [HF.out]; exact KeS.nil _ _
  subst hx0
  have HF := Lib.hid (hX0.out rfl)
  clear hX hX0
  repeat (first | refine kw_seq ?_ | refine kw_block ?_ | refine kw_skip ?_ | refine kw_region ?_ | refine kl_nil ?_ | refine kq_then ?_ | refine kq_block ?_ | refine kw_exit ?_ | refine kq_then_exit ?_ | refine kq_block_here rfl ?_ | refine kq_block_far rfl ?_ | refine kq_again_exit ?_ | refine kw_ret ?_ | refine kq_then_ret ?_ | refine kq_block_ret ?_ | refine kq_again_ret ?_ | refine kw_ift rfl ?_ | refine kw_iff rfl ?_ | refine kl_ung rfl rfl ?_ | refine kl_skipg rfl rfl rfl rfl ?_ | refine kl_skipg0 rfl rfl rfl ?_ | (first | refine kl_move rfl rfl (.inl rfl) rfl rfl ?_ | refine kl_move rfl rfl (.inr rfl) rfl rfl ?_ | refine kl_const rfl rfl (.inl rfl) rfl ?_ | refine kl_const rfl rfl (.inr rfl) rfl ?_) | ((first | refine kl_step rfl rfl rfl fun K hK => ?_ | refine kl_step0 rfl rfl rfl fun K hK => ?_); go_simp; (try go_bits); (first | refine hK _ _ ?_ | refine hK _ ?_); clear hK K))
  refine kq_ret3 rfl rfl rfl rfl ⟨A5, i, c5, ?_, ?_, HKE.out.2.1.below hb2.out, HKE.out.2.2.1, HKE.out.2.2.2, HBE2.out⟩
  · rw [HF.out]
  · rw [HF.out]; exact HKE.out.1.below hb2.out
end Go.Proofs.Ytcpifcdndhhmgaa
