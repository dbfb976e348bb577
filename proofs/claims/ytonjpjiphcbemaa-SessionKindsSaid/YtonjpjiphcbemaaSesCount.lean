/- session.count, Left. -/
import Derived.Test.YtonjpjiphcbemaaSesMem
namespace Go.Proofs.Ytonjpjiphcbemaa
open Go.RowKit
attribute [local go_sem] ev_tmp ev_const ev_func ev_global lk_hit lk_miss uponK_value uponK_skip look_tmp look_const look_global look_func
def cnt (what : Bool) (l : List Bool) : Nat := (l.filter (· == what)).length
theorem cnt_snoc (what : Bool) (l : List Bool) (x : Bool) : cnt what (l ++ [x]) = cnt what l + if x == what then 1 else 0 := by
  unfold cnt
  rw [List.filter_append, List.length_append]
  cases h : x == what <;> simp [h]
theorem cnt_le (what : Bool) (l : List Bool) : cnt what l ≤ l.length := List.length_filter_le _ _
set_option maxRecDepth 100000 in
set_option maxHeartbeats 1000000 in
theorem count_any (what : Bool) (A : Option Addr) (n c : Nat) (l : List Bool) (w : World) (hA : Vs w A n (bls l)) (hn : n ≤ 4611686018427387904) :
    Calls Try.prog 39 #[.bool what, .slice A n c] w fun e w' => e = .returned (.int .i64 (cnt what l : Int)) ∧ w = w' := by
  have hlen : Hid (l.length = n) := by show _ = _; simpa [bls] using hA.1
  refine calls_kw Try.func39 rfl Try.ntmps39 rfl [(0, .bool what), (1, .slice A n c)] rfl ?_
  repeat (first | refine kw_seq ?_ | refine kw_skip ?_ | refine kw_region ?_ | refine kl_nil ?_ | refine kq_then ?_ | refine kq_block ?_ | refine kw_exit ?_ | refine kq_then_exit ?_ | refine kq_block_here rfl ?_ | refine kq_block_far rfl ?_ | refine kq_again_exit ?_ | refine kw_ret ?_ | refine kq_then_ret ?_ | refine kq_block_ret ?_ | refine kq_again_ret ?_ | refine kw_ift rfl ?_ | refine kw_iff rfl ?_ | refine kl_ung rfl rfl ?_ | refine kl_skipg rfl rfl rfl rfl ?_ | refine kl_skipg0 rfl rfl rfl ?_ | (first | refine kl_move rfl rfl (.inl rfl) rfl rfl ?_ | refine kl_move rfl rfl (.inr rfl) rfl rfl ?_ | refine kl_const rfl rfl (.inl rfl) rfl ?_ | refine kl_const rfl rfl (.inr rfl) rfl ?_) | ((first | refine kl_step rfl rfl rfl fun K hK => ?_ | refine kl_step0 rfl rfl rfl fun K hK => ?_); go_simp; (try go_bits); (first | refine hK _ _ ?_ | refine hK _ ?_); clear hK K))
  refine KW.less [0, 5, 8, 9, 10] ?_
  simp only [nrm, lk, Nat.reduceBEq, cond_true, cond_false]
  refine kw_block ?_
  refine kw_loop (fun m L wr => ∃ k, k ≤ n ∧ m = n - k ∧ wr = w ∧ L = [(0, .bool what), (5, .int .i64 (cnt what (l.take k) : Int)), (8, .slice A n c), (9, .int .i64 (n : Int)), (10, .int .i64 (k : Int))]) ⟨0, by omega, rfl, rfl, rfl⟩ ?_
  rintro m L wr ⟨k, hk, rfl, rfl, rfl⟩
  by_cases hlt : k < n
  · have hk1 : (k : Int) < n := by omega
    have hk0 : (0 : Int) ≤ k := by omega
    have hc := cnt_le what (l.take k)
    have hc2 : (l.take k).length ≤ k := List.length_take_le _ _
    have hlk : k < l.length := by rw [hlen.out]; exact hlt
    obtain ⟨b, o, u, rfl, hcell, _, hu⟩ := Vs.next hA hlt
    obtain ⟨x, hx, hxl⟩ : ∃ x, u = .bool x ∧ Hid (l.take (k + 1) = l.take k ++ [x]) := by
      have h := hu.out
      rw [bls_get l k hlk] at h
      injection h with h
      exact ⟨l[k], h.symm, take_next hlk⟩
    subst hx
    have hs := cnt_snoc what (l.take k) x
    rw [← hxl.out] at hs
    obtain ⟨q, hq⟩ : ∃ q, cnt what (l.take k) = q := ⟨_, rfl⟩
    rw [hq] at hs hc ⊢
    have HS := Lib.hid hs
    clear hs hq hu
    have q0 : (0 : Int) ≤ q := by omega
    have q1 : (q : Int) ≤ 4611686018427387904 := by omega
    have q2 : IntKind.i64.wrap ((q : Int) + 1) = q + 1 := IntWalk.i64_in _ (by omega)
    have hs0 := HS.out
    cases x <;> cases what
    all_goals
      simp at hs0
      have HS0 := Lib.hid hs0
      clear hs0
      repeat (first | refine kw_seq ?_ | refine kw_block ?_ | refine kw_skip ?_ | refine kw_region ?_ | refine kl_nil ?_ | refine kq_then ?_ | refine kq_block ?_ | refine kw_exit ?_ | refine kq_then_exit ?_ | refine kq_block_here rfl ?_ | refine kq_block_far rfl ?_ | refine kq_again_exit ?_ | refine kw_ret ?_ | refine kq_then_ret ?_ | refine kq_block_ret ?_ | refine kq_again_ret ?_ | refine kw_ift rfl ?_ | refine kw_iff rfl ?_ | refine kl_ung rfl rfl ?_ | refine kl_skipg rfl rfl rfl rfl ?_ | refine kl_skipg0 rfl rfl rfl ?_ | (first | refine kl_move rfl rfl (.inl rfl) rfl rfl ?_ | refine kl_move rfl rfl (.inr rfl) rfl rfl ?_ | refine kl_const rfl rfl (.inl rfl) rfl ?_ | refine kl_const rfl rfl (.inr rfl) rfl ?_) | ((first | refine kl_step rfl rfl rfl fun K hK => ?_ | refine kl_step0 rfl rfl rfl fun K hK => ?_); go_simp; (try go_bits); (first | refine hK _ _ ?_ | refine hK _ ?_); clear hK K))
      refine kq_again (n - (k + 1)) [0, 5, 8, 9, 10] (by omega) ?_
      simp only [nrm, lk, Nat.reduceBEq, cond_true, cond_false]
      refine ⟨k + 1, by omega, rfl, trivial, ?_⟩
      rw [HS0.out]
      rfl
  · obtain rfl : k = n := by omega
    repeat (first | refine kw_seq ?_ | refine kw_block ?_ | refine kw_skip ?_ | refine kw_region ?_ | refine kl_nil ?_ | refine kq_then ?_ | refine kq_block ?_ | refine kw_exit ?_ | refine kq_then_exit ?_ | refine kq_block_here rfl ?_ | refine kq_block_far rfl ?_ | refine kq_again_exit ?_ | refine kw_ret ?_ | refine kq_then_ret ?_ | refine kq_block_ret ?_ | refine kq_again_ret ?_ | refine kw_ift rfl ?_ | refine kw_iff rfl ?_ | refine kl_ung rfl rfl ?_ | refine kl_skipg rfl rfl rfl rfl ?_ | refine kl_skipg0 rfl rfl rfl ?_ | (first | refine kl_move rfl rfl (.inl rfl) rfl rfl ?_ | refine kl_move rfl rfl (.inr rfl) rfl rfl ?_ | refine kl_const rfl rfl (.inl rfl) rfl ?_ | refine kl_const rfl rfl (.inr rfl) rfl ?_) | ((first | refine kl_step rfl rfl rfl fun K hK => ?_ | refine kl_step0 rfl rfl rfl fun K hK => ?_); go_simp; (try go_bits); (first | refine hK _ _ ?_ | refine hK _ ?_); clear hK K))
    have ht : l.take k = l := List.take_of_length_le (by rw [hlen.out]; exact Nat.le_refl _)
    exact kq_ret1 rfl rfl ⟨by rw [ht], rfl⟩
set_option maxRecDepth 100000 in
set_option maxHeartbeats 1000000 in
theorem left_any (s : Ses) (D G : Value) (w : World) (hM : SesM w s D G) (hg : s.got.length ≤ 4611686018427387904) :
    Calls Try.prog 17 #[.agg (sesV s D G).toArray] w fun e w' => e = .returned (.int .i64 (cnt false s.got : Int)) ∧ Below w.heap.size w w' := by
  obtain ⟨A, n, c, rfl, hv, hnc, hc⟩ := hM.got
  have hn : n ≤ 4611686018427387904 := by have := hv.1; rw [length_bls] at this; omega
  have HS := Lib.hid hM.sum
  refine calls_kw Try.func17 rfl Try.ntmps17 rfl [(0, .agg (sesV s D (.slice A n c)).toArray)] rfl ?_
  refine kw_seq ?_
  refine kw_region ?_
  ((first | refine kl_step rfl rfl rfl fun K hK => ?_ | refine kl_step0 rfl rfl rfl fun K hK => ?_); go_simp; (try go_bits); (first | refine hK _ _ ?_ | refine hK _ ?_); clear hK K)
  obtain ⟨w1, hw1⟩ : ∃ w1, w1 = w.alloc (.cells (sesV s D (.slice A n c)).toArray 30) := ⟨_, rfl⟩
  have hb1 : Below w.heap.size w w1 := by rw [hw1]; exact (Below.refl _ _).alloc (Nat.le_refl _) _
  have h1 : w1.heap[w.heap.size]? = some (.cells (sesV s D (.slice A n c)).toArray 30 (0, 0)) := by rw [hw1]; exact heap_alloc_new _ _
  rw [← hw1]
  clear hw1
  have c35 := ses_cell h1 (ses_35 s D _ HS.out)
  have hv1 := Vs.keep hv (.of_below hb1)
  clear h1
  repeat (first | refine kw_seq ?_ | refine kw_block ?_ | refine kw_skip ?_ | refine kw_region ?_ | refine kl_nil ?_ | refine kq_then ?_ | refine kq_block ?_ | refine kw_exit ?_ | refine kq_then_exit ?_ | refine kq_block_here rfl ?_ | refine kq_block_far rfl ?_ | refine kq_again_exit ?_ | refine kw_ret ?_ | refine kq_then_ret ?_ | refine kq_block_ret ?_ | refine kq_again_ret ?_ | refine kw_ift rfl ?_ | refine kw_iff rfl ?_ | refine kl_ung rfl rfl ?_ | refine kl_skipg rfl rfl rfl rfl ?_ | refine kl_skipg0 rfl rfl rfl ?_ | (first | refine kl_move rfl rfl (.inl rfl) rfl rfl ?_ | refine kl_move rfl rfl (.inr rfl) rfl rfl ?_ | refine kl_const rfl rfl (.inl rfl) rfl ?_ | refine kl_const rfl rfl (.inr rfl) rfl ?_) | ((first | refine kl_step rfl rfl rfl fun K hK => ?_ | refine kl_step0 rfl rfl rfl fun K hK => ?_); go_simp; (try go_bits); (first | refine hK _ _ ?_ | refine hK _ ?_); clear hK K))
  refine kl_call rfl rfl rfl Try.func39 rfl (by kernel_rfl) rfl ?_
  refine Calls.mono (count_any false A n c s.got w1 hv1 hn) ?_
  rintro e _ ⟨rfl, rfl⟩
  refine ⟨_, rfl, ?_⟩
  repeat (first | refine kw_seq ?_ | refine kw_block ?_ | refine kw_skip ?_ | refine kw_region ?_ | refine kl_nil ?_ | refine kq_then ?_ | refine kq_block ?_ | refine kw_exit ?_ | refine kq_then_exit ?_ | refine kq_block_here rfl ?_ | refine kq_block_far rfl ?_ | refine kq_again_exit ?_ | refine kw_ret ?_ | refine kq_then_ret ?_ | refine kq_block_ret ?_ | refine kq_again_ret ?_ | refine kw_ift rfl ?_ | refine kw_iff rfl ?_ | refine kl_ung rfl rfl ?_ | refine kl_skipg rfl rfl rfl rfl ?_ | refine kl_skipg0 rfl rfl rfl ?_ | (first | refine kl_move rfl rfl (.inl rfl) rfl rfl ?_ | refine kl_move rfl rfl (.inr rfl) rfl rfl ?_ | refine kl_const rfl rfl (.inl rfl) rfl ?_ | refine kl_const rfl rfl (.inr rfl) rfl ?_) | ((first | refine kl_step rfl rfl rfl fun K hK => ?_ | refine kl_step0 rfl rfl rfl fun K hK => ?_); go_simp; (try go_bits); (first | refine hK _ _ ?_ | refine hK _ ?_); clear hK K))
  exact kq_ret1 rfl rfl ⟨rfl, hb1⟩
end Go.Proofs.Ytonjpjiphcbemaa
