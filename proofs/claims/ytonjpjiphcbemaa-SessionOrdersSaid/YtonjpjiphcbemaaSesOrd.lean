/- SessionOrders: the walk. -/
import Derived.Test.YtonjpjiphcbemaaSesOrdR
namespace Go.Proofs.Ytonjpjiphcbemaa
open Go.RowKit
attribute [local go_sem] ev_tmp ev_const ev_func ev_global lk_hit lk_miss uponK_value uponK_skip look_tmp look_const look_global look_func
def OrdP (w : World) (e : Ending) (w' : World) : Prop := e = .returned (.bool true) ∧ Below w.heap.size w w'
set_option maxRecDepth 100000 in
set_option maxHeartbeats 4000000 in
theorem sessionOrders_top (A : Option Addr) (n c : Nat) (b : List UInt8) (z : Int) (A2 : Option Addr) (n2 c2 : Nat) (zs : List Int) (w : World) (hA : Bs w A n b) (hnc : n ≤ c) (hc : c ≤ 140737488351232) (hz : -9223372036854775808 ≤ z ∧ z ≤ 9223372036854775807)
    (hA2 : Vs w A2 n2 (zs.map (Value.int .i64))) (hnc2 : n2 ≤ c2) (hc2 : c2 ≤ 140737488351232) (hzs : ∀ z ∈ zs, -9223372036854775808 ≤ z ∧ z ≤ 9223372036854775807) :
    Calls Try.prog 3 #[.slice A n c, .int .i64 z, .slice A2 n2 c2] w (OrdP w) := by
  have HN := Lib.hid hA.len
  have HA2 := Lib.hid hA2
  have HZL : Hid (zs.length = n2) := Lib.hid (by have := hA2.1; simpa using this)
  clear hz hA2 hzs
  refine calls_kw Try.func3 rfl Try.ntmps3 rfl [(0, .slice A n c), (1, .int .i64 z), (2, .slice A2 n2 c2)] rfl ?_
  repeat (first | refine kw_seq ?_ | refine kw_block ?_ | refine kw_skip ?_ | refine kw_region ?_ | refine kl_nil ?_ | refine kq_then ?_ | refine kq_block ?_ | refine kw_exit ?_ | refine kq_then_exit ?_ | refine kq_block_here rfl ?_ | refine kq_block_far rfl ?_ | refine kq_again_exit ?_ | refine kw_ret ?_ | refine kq_then_ret ?_ | refine kq_block_ret ?_ | refine kq_again_ret ?_ | refine kw_ift rfl ?_ | refine kw_iff rfl ?_ | refine kl_ung rfl rfl ?_ | refine kl_skipg rfl rfl rfl rfl ?_ | refine kl_skipg0 rfl rfl rfl ?_ | (first | refine kl_move rfl rfl (.inl rfl) rfl rfl ?_ | refine kl_move rfl rfl (.inr rfl) rfl rfl ?_ | refine kl_const rfl rfl (.inl rfl) rfl ?_ | refine kl_const rfl rfl (.inr rfl) rfl ?_) | ((first | refine kl_step rfl rfl rfl fun K hK => ?_ | refine kl_step0 rfl rfl rfl fun K hK => ?_); go_simp; (try go_bits); (first | refine hK _ _ ?_ | refine hK _ ?_); clear hK K))
  refine kl_call rfl rfl rfl Try.func11 rfl (by kernel_rfl) rfl ?_
  refine Calls.mono (known17_any _) ?_
  rintro e w1 ⟨rfl, hb1⟩
  refine ⟨_, rfl, ?_⟩
  by_cases hn : n = 0 ∨ 300 < n ∨ 100 < n2
  · have hcase : ((n : Int) == 0) = true ∨ (((n : Int) == 0) = false ∧ decide ((300 : Int) < n) = true) ∨ (((n : Int) == 0) = false ∧ decide ((300 : Int) < n) = false ∧ decide ((100 : Int) < n2) = true) := by
      rw [beq_iff_eq, beq_eq_false_iff_ne]
      simp only [decide_eq_true_eq, decide_eq_false_iff_not]
      omega
    clear hn
    rcases hcase with t1 | ⟨t1, t2⟩ | ⟨t1, t2, t3⟩
    all_goals
      repeat (first | refine kw_seq ?_ | refine kw_block ?_ | refine kw_skip ?_ | refine kw_region ?_ | refine kl_nil ?_ | refine kq_then ?_ | refine kq_block ?_ | refine kw_exit ?_ | refine kq_then_exit ?_ | refine kq_block_here rfl ?_ | refine kq_block_far rfl ?_ | refine kq_again_exit ?_ | refine kw_ret ?_ | refine kq_then_ret ?_ | refine kq_block_ret ?_ | refine kq_again_ret ?_ | refine kw_ift rfl ?_ | refine kw_iff rfl ?_ | refine kl_ung rfl rfl ?_ | refine kl_skipg rfl rfl rfl rfl ?_ | refine kl_skipg0 rfl rfl rfl ?_ | (first | refine kl_move rfl rfl (.inl rfl) rfl rfl ?_ | refine kl_move rfl rfl (.inr rfl) rfl rfl ?_ | refine kl_const rfl rfl (.inl rfl) rfl ?_ | refine kl_const rfl rfl (.inr rfl) rfl ?_) | ((first | refine kl_step rfl rfl rfl fun K hK => ?_ | refine kl_step0 rfl rfl rfl fun K hK => ?_); go_simp; (try go_bits); (first | refine hK _ _ ?_ | refine hK _ ?_); clear hK K))
      exact kq_ret1 rfl rfl ⟨rfl, hb1⟩
  have h0 : 0 < n := by omega
  have hn3 : n ≤ 300 := by omega
  have hn2 : n2 ≤ 100 := by omega
  have t1 : ((n : Int) == 0) = false := by rw [beq_eq_false_iff_ne]; omega
  have t2 : decide ((300 : Int) < n) = false := by rw [decide_eq_false_iff_not]; omega
  have t3 : decide ((100 : Int) < n2) = false := by rw [decide_eq_false_iff_not]; omega
  have hL := (Lay.start w).next hb1
  clear hn hb1
  repeat (first | refine kw_seq ?_ | refine kw_block ?_ | refine kw_skip ?_ | refine kw_region ?_ | refine kl_nil ?_ | refine kq_then ?_ | refine kq_block ?_ | refine kw_exit ?_ | refine kq_then_exit ?_ | refine kq_block_here rfl ?_ | refine kq_block_far rfl ?_ | refine kq_again_exit ?_ | refine kw_ret ?_ | refine kq_then_ret ?_ | refine kq_block_ret ?_ | refine kq_again_ret ?_ | refine kw_ift rfl ?_ | refine kw_iff rfl ?_ | refine kl_ung rfl rfl ?_ | refine kl_skipg rfl rfl rfl rfl ?_ | refine kl_skipg0 rfl rfl rfl ?_ | (first | refine kl_move rfl rfl (.inl rfl) rfl rfl ?_ | refine kl_move rfl rfl (.inr rfl) rfl rfl ?_ | refine kl_const rfl rfl (.inl rfl) rfl ?_ | refine kl_const rfl rfl (.inr rfl) rfl ?_) | ((first | refine kl_step rfl rfl rfl fun K hK => ?_ | refine kl_step0 rfl rfl rfl fun K hK => ?_); go_simp; (try go_bits); (first | refine hK _ _ ?_ | refine hK _ ?_); clear hK K))
  clear t1 t2 t3
  refine kl_call rfl rfl rfl Try.func12 rfl (by kernel_rfl) rfl ?_
  refine Calls.mono (within_any z 64 _ _ rfl (by omega) (by omega)) ?_
  rintro e _ ⟨rfl, rfl⟩
  refine ⟨_, rfl, ?_⟩
  have hu := within_lt z 64 (by omega)
  obtain ⟨u, hue⟩ : ∃ u, within z 64 = u := ⟨_, rfl⟩
  rw [hue] at hu ⊢
  clear hue
  obtain ⟨q, hqu⟩ : ∃ q, 1 + u = q := ⟨_, rfl⟩
  have hq : 0 < q := by omega
  have hq2 : q ≤ 64 := by omega
  have s1 : (1 : Int) + (u : Int) = (q : Int) := by omega
  have s2 : IntKind.i64.wrap ((1 : Int) + (u : Int)) = (q : Int) := by rw [s1, IntWalk.i64_in _ (by omega)]
  clear hqu
  repeat (first | refine kw_seq ?_ | refine kw_block ?_ | refine kw_skip ?_ | refine kw_region ?_ | refine kl_nil ?_ | refine kq_then ?_ | refine kq_block ?_ | refine kw_exit ?_ | refine kq_then_exit ?_ | refine kq_block_here rfl ?_ | refine kq_block_far rfl ?_ | refine kq_again_exit ?_ | refine kw_ret ?_ | refine kq_then_ret ?_ | refine kq_block_ret ?_ | refine kq_again_ret ?_ | refine kw_ift rfl ?_ | refine kw_iff rfl ?_ | refine kl_ung rfl rfl ?_ | refine kl_skipg rfl rfl rfl rfl ?_ | refine kl_skipg0 rfl rfl rfl ?_ | (first | refine kl_move rfl rfl (.inl rfl) rfl rfl ?_ | refine kl_move rfl rfl (.inr rfl) rfl rfl ?_ | refine kl_const rfl rfl (.inl rfl) rfl ?_ | refine kl_const rfl rfl (.inr rfl) rfl ?_) | ((first | refine kl_step rfl rfl rfl fun K hK => ?_ | refine kl_step0 rfl rfl rfl fun K hK => ?_); go_simp; (try go_bits); (first | refine hK _ _ ?_ | refine hK _ ?_); clear hK K))
  clear s1 s2
  refine kl_call rfl rfl rfl Try.func14 rfl (by kernel_rfl) rfl ?_
  refine Calls.mono (refSha_any A n c b w1 (hA.keep (.of_below hL.below)) (by omega)) ?_
  rintro e w2 ⟨rfl, hb2⟩
  obtain ⟨S0, hS0⟩ : ∃ S, sha b = S := ⟨_, rfl⟩
  have HSl : Hid (S0.length = 32) := Lib.hid (by rw [← hS0]; exact length_sha b)
  rw [hS0]
  have HS0 := Lib.hid hS0
  refine ⟨_, rfl, ?_⟩
  have hL := hL.next hb2
  clear hS0 hb2
  repeat (first | refine kw_seq ?_ | refine kw_block ?_ | refine kw_skip ?_ | refine kw_region ?_ | refine kl_nil ?_ | refine kq_then ?_ | refine kq_block ?_ | refine kw_exit ?_ | refine kq_then_exit ?_ | refine kq_block_here rfl ?_ | refine kq_block_far rfl ?_ | refine kq_again_exit ?_ | refine kw_ret ?_ | refine kq_then_ret ?_ | refine kq_block_ret ?_ | refine kq_again_ret ?_ | refine kw_ift rfl ?_ | refine kw_iff rfl ?_ | refine kl_ung rfl rfl ?_ | refine kl_skipg rfl rfl rfl rfl ?_ | refine kl_skipg0 rfl rfl rfl ?_ | refine kl_build 36 _ (frmV (fS n S0) (.slice none 0 0)).toArray rfl rfl rfl (by rfl) (by rfl) (frm_built 1 1 n 0 S0 (.slice none 0 0) HSl.out rfl) ?_ | (first | refine kl_move rfl rfl (.inl rfl) rfl rfl ?_ | refine kl_move rfl rfl (.inr rfl) rfl rfl ?_ | refine kl_const rfl rfl (.inl rfl) rfl ?_ | refine kl_const rfl rfl (.inr rfl) rfl ?_) | ((first | refine kl_step rfl rfl rfl fun K hK => ?_ | refine kl_step0 rfl rfl rfl fun K hK => ?_); go_simp; (try go_bits); (first | refine hK _ _ ?_ | refine hK _ ?_); clear hK K))
  refine kl_call rfl rfl rfl Try.func13 rfl (by kernel_rfl) rfl ?_
  refine Calls.mono (begin_any (fS n S0) (.slice none 0 0) w2 ⟨(by show I64 (1); unfold I64; omega), (by show I64 (1); unfold I64; omega), (by show I64 ((n : Int)); unfold I64; omega), (by show I64 (0); unfold I64; omega), HSl.out, SlB.nil _⟩) ?_
  rintro e w3 ⟨D, Gv, rfl, hM, hb3, _⟩
  rw [(begin_fS n S0 h0 (by omega)).1, (begin_fS n S0 h0 (by omega)).2]
  rw [(begin_fS n S0 h0 (by omega)).1] at hM
  refine ⟨_, rfl, ?_⟩
  have HM := Lib.hid hM
  have hL := hL.next hb3
  clear hM hb3
  repeat (first | refine kw_seq ?_ | refine kw_block ?_ | refine kw_skip ?_ | refine kw_region ?_ | refine kl_nil ?_ | refine kq_then ?_ | refine kq_block ?_ | refine kw_exit ?_ | refine kq_then_exit ?_ | refine kq_block_here rfl ?_ | refine kq_block_far rfl ?_ | refine kq_again_exit ?_ | refine kw_ret ?_ | refine kq_then_ret ?_ | refine kq_block_ret ?_ | refine kq_again_ret ?_ | refine kw_ift rfl ?_ | refine kw_iff rfl ?_ | refine kl_ung rfl rfl ?_ | refine kl_skipg rfl rfl rfl rfl ?_ | refine kl_skipg0 rfl rfl rfl ?_ | (first | refine kl_move rfl rfl (.inl rfl) rfl rfl ?_ | refine kl_move rfl rfl (.inr rfl) rfl rfl ?_ | refine kl_const rfl rfl (.inl rfl) rfl ?_ | refine kl_const rfl rfl (.inr rfl) rfl ?_) | ((first | refine kl_step rfl rfl rfl fun K hK => ?_ | refine kl_step0 rfl rfl rfl fun K hK => ?_); go_simp; (try go_bits); (first | refine hK _ _ ?_ | refine hK _ ?_); clear hK K))
  refine kl_varL (d := 7) (y := 43) (cells := (sesV (sS n S0) D Gv).toArray) hL sesZero (infoS (sS n S0) D Gv HSl.out) (sizeZ (sS n S0) D Gv HSl.out) (sesV_one _ _ _ HM.out.data.one HM.out.got.one) rfl rfl rfl rfl rfl rfl rfl rfl rfl ?_
  intro g7 w4 eg7 hb4 hL
  have HM := Lib.hid (HM.out.keep (.of_below hb4))
  clear eg7 hb4
  obtain ⟨N, hN⟩ : ∃ N, nPc n q = N := ⟨_, rfl⟩
  have hN3 : N ≤ 300 := by subst hN; exact Nat.le_of_not_lt fun h => by have := pc_lt hq h; omega
  have s1 : IntKind.i64.wrap ((n : Int) + (q : Int)) = (n : Int) + q := IntWalk.i64_in _ (by omega)
  have s2 : IntKind.i64.wrap ((n : Int) + (q : Int) - 1) = (n : Int) + q - 1 := IntWalk.i64_in _ (by omega)
  have s3 : Int.tdiv ((n : Int) + (q : Int) - 1) (q : Int) = (N : Int) := by
    rw [show (n : Int) + (q : Int) - 1 = ((n + q - 1 : Nat) : Int) by omega, ← hN]; rfl
  have s4 : IntKind.i64.wrap (N : Int) = (N : Int) := IntWalk.i64_in _ (by omega)
  have s5 : ¬ (q = 0) := by omega
  have hmk := makeBools N (by omega) w4
  repeat (first | refine kw_seq ?_ | refine kw_block ?_ | refine kw_skip ?_ | refine kw_region ?_ | refine kl_nil ?_ | refine kq_then ?_ | refine kq_block ?_ | refine kw_exit ?_ | refine kq_then_exit ?_ | refine kq_block_here rfl ?_ | refine kq_block_far rfl ?_ | refine kq_again_exit ?_ | refine kw_ret ?_ | refine kq_then_ret ?_ | refine kq_block_ret ?_ | refine kq_again_ret ?_ | refine kw_ift rfl ?_ | refine kw_iff rfl ?_ | refine kl_ung rfl rfl ?_ | refine kl_skipg rfl rfl rfl rfl ?_ | refine kl_skipg0 rfl rfl rfl ?_ | (first | refine kl_move rfl rfl (.inl rfl) rfl rfl ?_ | refine kl_move rfl rfl (.inr rfl) rfl rfl ?_ | refine kl_const rfl rfl (.inl rfl) rfl ?_ | refine kl_const rfl rfl (.inr rfl) rfl ?_) | ((first | refine kl_step rfl rfl rfl fun K hK => ?_ | refine kl_step0 rfl rfl rfl fun K hK => ?_); go_simp; (try go_bits); (first | refine hK _ _ ?_ | refine hK _ ?_); clear hK K))
  clear hmk s1 s2 s3 s4 s5
  have hL := hL.alloc (bls (List.replicate N false)).toArray 4
  have HM := Lib.hid (HM.out.keep (.alloc _ (.cells (bls (List.replicate N false)).toArray 4)))
  generalize w4.alloc (.cells (bls (List.replicate N false)).toArray 4) = w5 at *
  generalize w4.heap.size = gg at *
  have hO0 := Lib.hid (ord_start (img := b) hq)
  rw [hA.len, HS0.out, hN] at hO0
  have HA := Lib.hid hA
  have HNC := Lib.hid hnc
  have HC := Lib.hid hc
  have HNn := Lib.hid hN
  clear hA hnc hc hnc2 hc2 HS0 hN
  refine KW.less [0, 1, 2, 7, 9, 10, 11, 12] ?_
  simp only [nrm, lk, Nat.reduceBEq, cond_true, cond_false]
  refine kw_loop (fun m L wr => ∃ (i : Nat) (G : List Bool) (s : Ses) (D Gv : Value) (L1 : Nat), i ≤ n2 + N ∧ m = n2 + N - i ∧ Hid (OrdI b q s G) ∧ Hid (SesM wr s D Gv) ∧ Lay w wr [(gg, (bls G).toArray, 4), (g7, (sesV s D Gv).toArray, 30)] ∧ Hid (∀ j, j + n2 < i → G[j]? = some true) ∧ Hid (L1 = cnt false G) ∧
    L = [(0, .slice A n c), (1, .int .i64 (q : Int)), (2, .slice A2 n2 c2), (7, .pointer (some ⟨g7, 0, none⟩)), (9, .int .i64 (N : Int)), (10, .slice (some ⟨gg, 0, none⟩) N N), (11, .int .i64 (L1 : Int)), (12, .int .i64 (i : Int))])
    ⟨0, _, _, _, _, N, Nat.zero_le _, rfl, hO0, HM, hL, (fun j h => absurd h (Nat.not_lt_zero _)), (by show N = cnt false (List.replicate N false); rw [cnt_rep]), rfl⟩ ?_
  clear hL HM hO0
  rintro m L wr ⟨i, G, s, D, Gv, L1, hi, rfl, hO, hM, hL, hall, hL1, rfl⟩
  by_cases hlt : i < n2 + N
  · have t1 : decide ((i : Int) < (n2 : Int) + (N : Int)) = true := by rw [decide_eq_true_eq]; omega
    repeat (first | refine kw_seq ?_ | refine kw_region ?_ | refine kl_nil ?_ | refine kq_then ?_ | refine kw_ift rfl ?_ | refine kw_skip ?_ | (first | refine kl_move rfl rfl (.inl rfl) rfl rfl ?_ | refine kl_move rfl rfl (.inr rfl) rfl rfl ?_ | refine kl_const rfl rfl (.inl rfl) rfl ?_ | refine kl_const rfl rfl (.inr rfl) rfl ?_) | ((first | refine kl_step rfl rfl rfl fun K hK => ?_ | refine kl_step0 rfl rfl rfl fun K hK => ?_); go_simp; (try go_bits); (first | refine hK _ _ ?_ | refine hK _ ?_); clear hK K))
    refine KW.less [0, 1, 2, 7, 9, 10, 11, 12] ?_
    simp only [nrm, lk, Nat.reduceBEq, cond_true, cond_false]
    rw [hL1.out]
    refine orders_round h0 hn3 hq hq2 HNn.out.symm hN3 hn2 hlt HA.out HNC.out HC.out hO.out hM.out HA2.out hL ?_
    intro k hk hki w' D' G' s' L1' hO' hM' hL1' hL'
    have hO' := Lib.hid hO'
    have hM' := Lib.hid hM'
    have hL1' := Lib.hid hL1'
    have hkl : Hid (k < G.length) := Lib.hid (by rw [hO.out.Gl, HA.out.len, HNn.out]; exact hk)
    clear hO hM hL hL1
    refine kq_then ?_
    repeat (first | refine kw_seq ?_ | refine kw_region ?_ | refine kl_nil ?_ | refine kq_then ?_ | (first | refine kl_move rfl rfl (.inl rfl) rfl rfl ?_ | refine kl_move rfl rfl (.inr rfl) rfl rfl ?_ | refine kl_const rfl rfl (.inl rfl) rfl ?_ | refine kl_const rfl rfl (.inr rfl) rfl ?_) | ((first | refine kl_step rfl rfl rfl fun K hK => ?_ | refine kl_step0 rfl rfl rfl fun K hK => ?_); go_simp; (try go_bits); (first | refine hK _ _ ?_ | refine hK _ ?_); clear hK K))
    refine kq_again (n2 + N - (i + 1)) [0, 1, 2, 7, 9, 10, 11, 12] (by omega) ?_
    simp only [nrm, lk, Nat.reduceBEq, cond_true, cond_false]
    refine ⟨i + 1, _, _, _, _, _, by omega, rfl, hO', hM', hL', ?_, hL1', rfl⟩
    intro j hj
    rw [List.getElem?_set]
    have := hkl.out
    by_cases hjk : k = j
    · rw [if_pos hjk, if_pos (by omega)]
    · rw [if_neg hjk]
      exact hall.out j (by omega)
  · have hie : i = n2 + N := by omega
    have t1 : decide ((i : Int) < (n2 : Int) + (N : Int)) = false := by rw [decide_eq_false_iff_not]; omega
    have hz : L1 = 0 := by rw [hL1.out]; exact cnt_all fun k hk => hall.out k (by rw [hO.out.Gl, HA.out.len, HNn.out] at hk; omega)
    subst hz
    have t2 : (((0 : Nat) : Int) == 0) = true := rfl
    repeat (first | refine kw_seq ?_ | refine kw_block ?_ | refine kw_skip ?_ | refine kw_region ?_ | refine kl_nil ?_ | refine kq_then ?_ | refine kq_block ?_ | refine kw_exit ?_ | refine kq_then_exit ?_ | refine kq_block_here rfl ?_ | refine kq_block_far rfl ?_ | refine kq_again_exit ?_ | refine kw_ret ?_ | refine kq_then_ret ?_ | refine kq_block_ret ?_ | refine kq_again_ret ?_ | refine kw_ift rfl ?_ | refine kw_iff rfl ?_ | refine kl_ung rfl rfl ?_ | refine kl_skipg rfl rfl rfl rfl ?_ | refine kl_skipg0 rfl rfl rfl ?_ | (first | refine kl_move rfl rfl (.inl rfl) rfl rfl ?_ | refine kl_move rfl rfl (.inr rfl) rfl rfl ?_ | refine kl_const rfl rfl (.inl rfl) rfl ?_ | refine kl_const rfl rfl (.inr rfl) rfl ?_) | ((first | refine kl_step rfl rfl rfl fun K hK => ?_ | refine kl_step0 rfl rfl rfl fun K hK => ?_); go_simp; (try go_bits); (first | refine hK _ _ ?_ | refine hK _ ?_); clear hK K))
    exact kq_ret1 rfl rfl ⟨rfl, hL.below⟩
end Go.Proofs.Ytonjpjiphcbemaa
