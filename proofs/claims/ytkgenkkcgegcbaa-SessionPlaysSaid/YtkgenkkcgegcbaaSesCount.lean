/- == on sums by value. session.Same. session.count, Left. -/
import Derived.Test.YtkgenkkcgegcbaaShaSum
import Derived.Stop.BytesEq
import Derived.Test.YtkgenkkcgegcbaaSesEq
import Derived.Test.YtkgenkkcgegcbaaConcat
namespace Go.Proofs.Ytkgenkkcgegcbaa
open Go.RowKit
set_option maxRecDepth 100000 in
theorem eqH (w : World) (xs ys : List UInt8) (hx : xs.length = 32) (hy : ys.length = 32) :
    (Op.equalIn 10000 26 (.agg (bv xs).toArray) (.agg (bv ys).toArray)).run Try.prog w = .ok (xs == ys) w :=
  run_equalIn_bytes w 9998 26 5 32 hashUnder Try.underlying5 (fun _ => rfl) xs ys hx hy
end Go.Proofs.Ytkgenkkcgegcbaa
namespace Go.Proofs.Ytkgenkkcgegcbaa
open Go.RowKit
attribute [local go_sem] ev_tmp ev_const ev_func ev_global lk_hit lk_miss uponK_value uponK_skip look_tmp look_const look_global look_func
def SameS (a b : Ses) : Prop := a.id = b.id ∧ a.size = b.size ∧ a.sum = b.sum ∧ a.data = b.data ∧ a.got = b.got
def SameP (b : Bool) (w : World) (e : Ending) (w' : World) : Prop := e = .returned (.bool b) ∧ Below w.heap.size w w'
instance (a b : Ses) : Decidable (SameS a b) := by unfold SameS; infer_instance
set_option maxRecDepth 100000 in
set_option maxHeartbeats 2000000 in
theorem same_any (s s' : Ses) (D G D' G' : Value) (w : World) (hM : SesM w s D G) (hM' : SesM w s' D' G') (hd : s.data.length ≤ 1000000) (hg : s.got.length ≤ 1000000) :
    Calls Try.prog 18 #[.agg (sesV s D G).toArray, .agg (sesV s' D' G').toArray] w (SameP (decide (SameS s s')) w) := by
  obtain ⟨A1, n1, c1, rfl, hB, _, _⟩ := hM.data
  obtain ⟨A2, n2, c2, rfl, hO, _, _⟩ := hM.got
  obtain ⟨A3, n3, c3, rfl, hB', _, _⟩ := hM'.data
  obtain ⟨A4, n4, c4, rfl, hO', _, _⟩ := hM'.got
  have hn1 : n1 ≤ 4611686018427387904 := by rw [← hB.len]; omega
  have hn2 : n2 ≤ 4611686018427387904 := by have := hO.1; rw [length_bls] at this; omega
  have HS := Lib.hid hM.sum
  have HS' := Lib.hid hM'.sum
  clear hM hM' hd hg
  refine calls_kw Try.func18 rfl Try.ntmps18 rfl [(0, .agg (sesV s (.slice A1 n1 c1) (.slice A2 n2 c2)).toArray), (1, .agg (sesV s' (.slice A3 n3 c3) (.slice A4 n4 c4)).toArray)] rfl ?_
  refine kw_seq ?_
  refine kw_region ?_
  ((first | refine kl_step rfl rfl rfl fun K hK => ?_ | refine kl_step0 rfl rfl rfl fun K hK => ?_); go_simp; (try go_bits); (first | refine hK _ _ ?_ | refine hK _ ?_); clear hK K)
  obtain ⟨w1, hw1⟩ : ∃ w1, w1 = w.alloc (.cells (sesV s (.slice A1 n1 c1) (.slice A2 n2 c2)).toArray 32) := ⟨_, rfl⟩
  have hbw1 : Below w.heap.size w w1 := by rw [hw1]; exact (Below.refl _ _).alloc (Nat.le_refl _) _
  have h1 : w1.heap[w.heap.size]? = some (.cells (sesV s (.slice A1 n1 c1) (.slice A2 n2 c2)).toArray 32 (0, 0)) := by rw [hw1]; exact heap_alloc_new _ _
  have sw1 : w1.heap.size = w.heap.size + 1 := by rw [hw1]; simp
  rw [← hw1]
  clear hw1
  obtain ⟨g1, hg1⟩ : ∃ g, w.heap.size = g := ⟨_, rfl⟩
  rw [hg1] at h1
  have H1 := Lib.hid h1
  rw [hg1]
  clear hg1 h1 sw1
  ((first | refine kl_step rfl rfl rfl fun K hK => ?_ | refine kl_step0 rfl rfl rfl fun K hK => ?_); go_simp; (try go_bits); (first | refine hK _ _ ?_ | refine hK _ ?_); clear hK K)
  obtain ⟨w2, hw2⟩ : ∃ w2, w2 = w1.alloc (.cells (sesV s' (.slice A3 n3 c3) (.slice A4 n4 c4)).toArray 32) := ⟨_, rfl⟩
  have hbw2 : Below w1.heap.size w1 w2 := by rw [hw2]; exact (Below.refl _ _).alloc (Nat.le_refl _) _
  have h2 : w2.heap[w1.heap.size]? = some (.cells (sesV s' (.slice A3 n3 c3) (.slice A4 n4 c4)).toArray 32 (0, 0)) := by rw [hw2]; exact heap_alloc_new _ _
  have sw2 : w2.heap.size = w1.heap.size + 1 := by rw [hw2]; simp
  rw [← hw2]
  clear hw2
  obtain ⟨g2, hg2⟩ : ∃ g, w1.heap.size = g := ⟨_, rfl⟩
  rw [hg2] at h2
  have H2 := Lib.hid h2
  have H1 := Lib.hid (below_atK hbw2 H1.out)
  rw [hg2]
  clear hg2 h2 sw2
  have hb := below_two hbw1 hbw2
  have a0 := ses_cell H1.out (ses_0 s _ _)
  have a1 := ses_cell H1.out (ses_1 s _ _)
  have a34 := ses_cell H1.out (ses_34 s _ _ HS.out)
  have a35 := ses_cell H1.out (ses_35 s _ _ HS.out)
  have b0 := ses_cell H2.out (ses_0 s' _ _)
  have b1 := ses_cell H2.out (ses_1 s' _ _)
  have b34 := ses_cell H2.out (ses_34 s' _ _ HS'.out)
  have b35 := ses_cell H2.out (ses_35 s' _ _ HS'.out)
  have HR := Lib.hid (ses_range H1.out)
  have HR' := Lib.hid (ses_range H2.out)
  have hBw := hB.keep (.of_below hb)
  have hBw' := hB'.keep (.of_below hb)
  have hOw := Vs.keep hO (.of_below hb)
  have hOw' := Vs.keep hO' (.of_below hb)
  clear hbw1 hbw2 hB hB' hO hO'
  by_cases h1 : s.id = s'.id
  case neg =>
    have t1 : (s.id == s'.id) = false := by rw [beq_eq_false_iff_ne]; exact h1
    have hD : decide (SameS s s') = false := by rw [decide_eq_false_iff_not]; exact fun h => h1 h.1
    have HD := Lib.hid hD
    clear h1 hD
    repeat (first | refine kw_seq ?_ | refine kw_block ?_ | refine kw_skip ?_ | refine kw_region ?_ | refine kl_nil ?_ | refine kq_then ?_ | refine kq_block ?_ | refine kw_exit ?_ | refine kq_then_exit ?_ | refine kq_block_here rfl ?_ | refine kq_block_far rfl ?_ | refine kq_again_exit ?_ | refine kw_ret ?_ | refine kq_then_ret ?_ | refine kq_block_ret ?_ | refine kq_again_ret ?_ | refine kw_ift rfl ?_ | refine kw_iff rfl ?_ | refine kl_ung rfl rfl ?_ | refine kl_skipg rfl rfl rfl rfl ?_ | refine kl_skipg0 rfl rfl rfl ?_ | (first | refine kl_move rfl rfl (.inl rfl) rfl rfl ?_ | refine kl_move rfl rfl (.inr rfl) rfl rfl ?_ | refine kl_const rfl rfl (.inl rfl) rfl ?_ | refine kl_const rfl rfl (.inr rfl) rfl ?_) | ((first | refine kl_step rfl rfl rfl fun K hK => ?_ | refine kl_step0 rfl rfl rfl fun K hK => ?_); go_simp; (try go_bits); (first | refine hK _ _ ?_ | refine hK _ ?_); clear hK K))
    exact kq_ret1 rfl rfl ⟨by rw [HD.out], hb⟩
  have t1 : (s.id == s'.id) = true := by rw [beq_iff_eq]; exact h1
  have X1 := Lib.hid h1
  clear h1
  by_cases h2 : s.size = s'.size
  case neg =>
    have t2 : (s.size == s'.size) = false := by rw [beq_eq_false_iff_ne]; exact h2
    have hD : decide (SameS s s') = false := by rw [decide_eq_false_iff_not]; exact fun h => h2 h.2.1
    have HD := Lib.hid hD
    clear h2 hD
    repeat (first | refine kw_seq ?_ | refine kw_block ?_ | refine kw_skip ?_ | refine kw_region ?_ | refine kl_nil ?_ | refine kq_then ?_ | refine kq_block ?_ | refine kw_exit ?_ | refine kq_then_exit ?_ | refine kq_block_here rfl ?_ | refine kq_block_far rfl ?_ | refine kq_again_exit ?_ | refine kw_ret ?_ | refine kq_then_ret ?_ | refine kq_block_ret ?_ | refine kq_again_ret ?_ | refine kw_ift rfl ?_ | refine kw_iff rfl ?_ | refine kl_ung rfl rfl ?_ | refine kl_skipg rfl rfl rfl rfl ?_ | refine kl_skipg0 rfl rfl rfl ?_ | (first | refine kl_move rfl rfl (.inl rfl) rfl rfl ?_ | refine kl_move rfl rfl (.inr rfl) rfl rfl ?_ | refine kl_const rfl rfl (.inl rfl) rfl ?_ | refine kl_const rfl rfl (.inr rfl) rfl ?_) | ((first | refine kl_step rfl rfl rfl fun K hK => ?_ | refine kl_step0 rfl rfl rfl fun K hK => ?_); go_simp; (try go_bits); (first | refine hK _ _ ?_ | refine hK _ ?_); clear hK K))
    exact kq_ret1 rfl rfl ⟨by rw [HD.out], hb⟩
  have t2 : (s.size == s'.size) = true := by rw [beq_iff_eq]; exact h2
  have X2 := Lib.hid h2
  clear h2
  by_cases h3 : s.sum = s'.sum
  case neg =>
    have he : ∀ W, (Op.equalIn 10000 26 (.agg (bv s.sum).toArray) (.agg (bv s'.sum).toArray)).run Try.prog W = .ok false W := fun W => by rw [eqH W _ _ HS.out HS'.out, beq_eq_false_iff_ne.2 h3]
    have hD : decide (SameS s s') = false := by rw [decide_eq_false_iff_not]; exact fun h => h3 h.2.2.1
    have HD := Lib.hid hD
    clear h3 hD
    repeat (first | refine kw_seq ?_ | refine kw_block ?_ | refine kw_skip ?_ | refine kw_region ?_ | refine kl_nil ?_ | refine kq_then ?_ | refine kq_block ?_ | refine kw_exit ?_ | refine kq_then_exit ?_ | refine kq_block_here rfl ?_ | refine kq_block_far rfl ?_ | refine kq_again_exit ?_ | refine kw_ret ?_ | refine kq_then_ret ?_ | refine kq_block_ret ?_ | refine kq_again_ret ?_ | refine kw_ift rfl ?_ | refine kw_iff rfl ?_ | refine kl_ung rfl rfl ?_ | refine kl_skipg rfl rfl rfl rfl ?_ | refine kl_skipg0 rfl rfl rfl ?_ | refine kl_load_mid 26 g1 2 _ _ HR.out hashUnder rfl (by rw [hashInfo, length_bv, HS.out]) rfl rfl rfl rfl rfl ?_ | refine kl_load_mid 26 g2 2 _ _ HR'.out hashUnder rfl (by rw [hashInfo, length_bv, HS'.out]) rfl rfl rfl rfl rfl ?_ | (first | refine kl_move rfl rfl (.inl rfl) rfl rfl ?_ | refine kl_move rfl rfl (.inr rfl) rfl rfl ?_ | refine kl_const rfl rfl (.inl rfl) rfl ?_ | refine kl_const rfl rfl (.inr rfl) rfl ?_) | ((first | refine kl_step rfl rfl rfl fun K hK => ?_ | refine kl_step0 rfl rfl rfl fun K hK => ?_); go_simp; (try go_bits); (first | refine hK _ _ ?_ | refine hK _ ?_); clear hK K))
    exact kq_ret1 rfl rfl ⟨by rw [HD.out], hb⟩
  have he : ∀ W, (Op.equalIn 10000 26 (.agg (bv s.sum).toArray) (.agg (bv s'.sum).toArray)).run Try.prog W = .ok true W := fun W => by rw [eqH W _ _ HS.out HS'.out, beq_iff_eq.2 h3]
  have X3 := Lib.hid h3
  clear h3
  repeat (first | refine kw_seq ?_ | refine kw_block ?_ | refine kw_skip ?_ | refine kw_region ?_ | refine kl_nil ?_ | refine kq_then ?_ | refine kq_block ?_ | refine kw_exit ?_ | refine kq_then_exit ?_ | refine kq_block_here rfl ?_ | refine kq_block_far rfl ?_ | refine kq_again_exit ?_ | refine kw_ret ?_ | refine kq_then_ret ?_ | refine kq_block_ret ?_ | refine kq_again_ret ?_ | refine kw_ift rfl ?_ | refine kw_iff rfl ?_ | refine kl_ung rfl rfl ?_ | refine kl_skipg rfl rfl rfl rfl ?_ | refine kl_skipg0 rfl rfl rfl ?_ | refine kl_load_mid 26 g1 2 _ _ HR.out hashUnder rfl (by rw [hashInfo, length_bv, HS.out]) rfl rfl rfl rfl rfl ?_ | refine kl_load_mid 26 g2 2 _ _ HR'.out hashUnder rfl (by rw [hashInfo, length_bv, HS'.out]) rfl rfl rfl rfl rfl ?_ | (first | refine kl_move rfl rfl (.inl rfl) rfl rfl ?_ | refine kl_move rfl rfl (.inr rfl) rfl rfl ?_ | refine kl_const rfl rfl (.inl rfl) rfl ?_ | refine kl_const rfl rfl (.inr rfl) rfl ?_) | ((first | refine kl_step rfl rfl rfl fun K hK => ?_ | refine kl_step0 rfl rfl rfl fun K hK => ?_); go_simp; (try go_bits); (first | refine hK _ _ ?_ | refine hK _ ?_); clear hK K))
  refine kl_call rfl rfl rfl Try.func33 rfl (by kernel_rfl) rfl ?_
  refine Calls.mono (equalB_any _ _ _ _ _ _ s.data s'.data _ hBw hBw' hn1) ?_
  rintro e w3 ⟨rfl, hb3⟩
  refine ⟨_, rfl, ?_⟩
  have hb := below_then hb hb3 hb.size
  have a35 := Keeps.of_below hb3 _ _ a35
  have b35 := Keeps.of_below hb3 _ _ b35
  have hOw := Vs.keep hOw (.of_below hb3)
  have hOw' := Vs.keep hOw' (.of_below hb3)
  clear hb3 he
  by_cases h4 : s.data = s'.data
  case neg =>
    have hD : decide (SameS s s') = false := by rw [decide_eq_false_iff_not]; exact fun h => h4 h.2.2.2.1
    have HD := Lib.hid hD
    rw [decide_eq_false h4]
    clear h4 hD
    repeat (first | refine kw_seq ?_ | refine kw_block ?_ | refine kw_skip ?_ | refine kw_region ?_ | refine kl_nil ?_ | refine kq_then ?_ | refine kq_block ?_ | refine kw_exit ?_ | refine kq_then_exit ?_ | refine kq_block_here rfl ?_ | refine kq_block_far rfl ?_ | refine kq_again_exit ?_ | refine kw_ret ?_ | refine kq_then_ret ?_ | refine kq_block_ret ?_ | refine kq_again_ret ?_ | refine kw_ift rfl ?_ | refine kw_iff rfl ?_ | refine kl_ung rfl rfl ?_ | refine kl_skipg rfl rfl rfl rfl ?_ | refine kl_skipg0 rfl rfl rfl ?_ | refine kl_load_mid 26 g1 2 _ _ HR.out hashUnder rfl (by rw [hashInfo, length_bv, HS.out]) rfl rfl rfl rfl rfl ?_ | refine kl_load_mid 26 g2 2 _ _ HR'.out hashUnder rfl (by rw [hashInfo, length_bv, HS'.out]) rfl rfl rfl rfl rfl ?_ | (first | refine kl_move rfl rfl (.inl rfl) rfl rfl ?_ | refine kl_move rfl rfl (.inr rfl) rfl rfl ?_ | refine kl_const rfl rfl (.inl rfl) rfl ?_ | refine kl_const rfl rfl (.inr rfl) rfl ?_) | ((first | refine kl_step rfl rfl rfl fun K hK => ?_ | refine kl_step0 rfl rfl rfl fun K hK => ?_); go_simp; (try go_bits); (first | refine hK _ _ ?_ | refine hK _ ?_); clear hK K))
    exact kq_ret1 rfl rfl ⟨by rw [HD.out], hb⟩
  rw [decide_eq_true h4]
  have X4 := Lib.hid h4
  clear h4
  repeat (first | refine kw_seq ?_ | refine kw_block ?_ | refine kw_skip ?_ | refine kw_region ?_ | refine kl_nil ?_ | refine kq_then ?_ | refine kq_block ?_ | refine kw_exit ?_ | refine kq_then_exit ?_ | refine kq_block_here rfl ?_ | refine kq_block_far rfl ?_ | refine kq_again_exit ?_ | refine kw_ret ?_ | refine kq_then_ret ?_ | refine kq_block_ret ?_ | refine kq_again_ret ?_ | refine kw_ift rfl ?_ | refine kw_iff rfl ?_ | refine kl_ung rfl rfl ?_ | refine kl_skipg rfl rfl rfl rfl ?_ | refine kl_skipg0 rfl rfl rfl ?_ | refine kl_load_mid 26 g1 2 _ _ HR.out hashUnder rfl (by rw [hashInfo, length_bv, HS.out]) rfl rfl rfl rfl rfl ?_ | refine kl_load_mid 26 g2 2 _ _ HR'.out hashUnder rfl (by rw [hashInfo, length_bv, HS'.out]) rfl rfl rfl rfl rfl ?_ | (first | refine kl_move rfl rfl (.inl rfl) rfl rfl ?_ | refine kl_move rfl rfl (.inr rfl) rfl rfl ?_ | refine kl_const rfl rfl (.inl rfl) rfl ?_ | refine kl_const rfl rfl (.inr rfl) rfl ?_) | ((first | refine kl_step rfl rfl rfl fun K hK => ?_ | refine kl_step0 rfl rfl rfl fun K hK => ?_); go_simp; (try go_bits); (first | refine hK _ _ ?_ | refine hK _ ?_); clear hK K))
  refine kl_call rfl rfl rfl Try.func34 rfl (by kernel_rfl) rfl ?_
  refine Calls.mono (equalO_any _ _ _ _ _ _ s.got s'.got _ hOw hOw' hn2) ?_
  rintro e w4 ⟨rfl, hb4⟩
  refine ⟨_, rfl, ?_⟩
  have hb := below_then hb hb4 hb.size
  have hD : decide (SameS s s') = decide (s.got = s'.got) := by
    rw [decide_eq_decide]
    exact ⟨fun h => h.2.2.2.2, fun h => ⟨X1.out, X2.out, X3.out, X4.out, h⟩⟩
  have HD := Lib.hid hD
  clear hD
  generalize decide (s.got = s'.got) = b at *
  repeat (first | refine kw_seq ?_ | refine kw_block ?_ | refine kw_skip ?_ | refine kw_region ?_ | refine kl_nil ?_ | refine kq_then ?_ | refine kq_block ?_ | refine kw_exit ?_ | refine kq_then_exit ?_ | refine kq_block_here rfl ?_ | refine kq_block_far rfl ?_ | refine kq_again_exit ?_ | refine kw_ret ?_ | refine kq_then_ret ?_ | refine kq_block_ret ?_ | refine kq_again_ret ?_ | refine kw_ift rfl ?_ | refine kw_iff rfl ?_ | refine kl_ung rfl rfl ?_ | refine kl_skipg rfl rfl rfl rfl ?_ | refine kl_skipg0 rfl rfl rfl ?_ | refine kl_load_mid 26 g1 2 _ _ HR.out hashUnder rfl (by rw [hashInfo, length_bv, HS.out]) rfl rfl rfl rfl rfl ?_ | refine kl_load_mid 26 g2 2 _ _ HR'.out hashUnder rfl (by rw [hashInfo, length_bv, HS'.out]) rfl rfl rfl rfl rfl ?_ | (first | refine kl_move rfl rfl (.inl rfl) rfl rfl ?_ | refine kl_move rfl rfl (.inr rfl) rfl rfl ?_ | refine kl_const rfl rfl (.inl rfl) rfl ?_ | refine kl_const rfl rfl (.inr rfl) rfl ?_) | ((first | refine kl_step rfl rfl rfl fun K hK => ?_ | refine kl_step0 rfl rfl rfl fun K hK => ?_); go_simp; (try go_bits); (first | refine hK _ _ ?_ | refine hK _ ?_); clear hK K))
  exact kq_ret1 rfl rfl ⟨by rw [HD.out], hb⟩
end Go.Proofs.Ytkgenkkcgegcbaa
namespace Go.Proofs.Ytkgenkkcgegcbaa
open Go.RowKit
attribute [local go_sem] ev_tmp ev_const ev_func ev_global lk_hit lk_miss uponK_value uponK_skip look_tmp look_const look_global look_func
def cnt (what : Bool) (l : List Bool) : Nat := (l.filter (· == what)).length
theorem cnt_snoc (what : Bool) (l : List Bool) (x : Bool) : cnt what (l ++ [x]) = cnt what l + if x == what then 1 else 0 := by
  unfold cnt
  rw [List.filter_append, List.length_append]
  cases h : x == what <;> simp [h]
theorem cnt_le (what : Bool) (l : List Bool) : cnt what l ≤ l.length := List.length_filter_le _ _
set_option maxRecDepth 100000 in
set_option maxHeartbeats 1000000 in
theorem count_any (what : Bool) (A : Option Addr) (n c : Nat) (l : List Bool) (w : World) (hA : Vs w A n (bls l)) (hn : n ≤ 4611686018427387904) :
    Calls Try.prog 35 #[.bool what, .slice A n c] w fun e w' => e = .returned (.int .i64 (cnt what l : Int)) ∧ w = w' := by
  have hlen : Hid (l.length = n) := by show _ = _; simpa [bls] using hA.1
  refine calls_kw Try.func35 rfl Try.ntmps35 rfl [(0, .bool what), (1, .slice A n c)] rfl ?_
  repeat (first | refine kw_seq ?_ | refine kw_skip ?_ | refine kw_region ?_ | refine kl_nil ?_ | refine kq_then ?_ | refine kq_block ?_ | refine kw_exit ?_ | refine kq_then_exit ?_ | refine kq_block_here rfl ?_ | refine kq_block_far rfl ?_ | refine kq_again_exit ?_ | refine kw_ret ?_ | refine kq_then_ret ?_ | refine kq_block_ret ?_ | refine kq_again_ret ?_ | refine kw_ift rfl ?_ | refine kw_iff rfl ?_ | refine kl_ung rfl rfl ?_ | refine kl_skipg rfl rfl rfl rfl ?_ | refine kl_skipg0 rfl rfl rfl ?_ | (first | refine kl_move rfl rfl (.inl rfl) rfl rfl ?_ | refine kl_move rfl rfl (.inr rfl) rfl rfl ?_ | refine kl_const rfl rfl (.inl rfl) rfl ?_ | refine kl_const rfl rfl (.inr rfl) rfl ?_) | ((first | refine kl_step rfl rfl rfl fun K hK => ?_ | refine kl_step0 rfl rfl rfl fun K hK => ?_); go_simp; (try go_bits); (first | refine hK _ _ ?_ | refine hK _ ?_); clear hK K))
  refine KW.less [0, 5, 8, 9, 10] ?_
  simp only [nrm, lk, Nat.reduceBEq, cond_true, cond_false]
  refine kw_block ?_
  refine kw_loop (fun m L wr => ∃ k, k ≤ n ∧ m = n - k ∧ wr = w ∧ L = [(0, .bool what), (5, .int .i64 (cnt what (l.take k) : Int)), (8, .slice A n c), (9, .int .i64 (n : Int)), (10, .int .i64 (k : Int))]) ⟨0, by omega, rfl, rfl, rfl⟩ ?_
  rintro m L wr ⟨k, hk, rfl, rfl, rfl⟩
  by_cases hlt : k < n
  · have hk1 : (k : Int) < n := by omega
    have hk0 : (0 : Int) ≤ k := by omega
    have hc := cnt_le what (l.take k)
    have hc2 : (l.take k).length ≤ k := List.length_take_le _ _
    have hlk : k < l.length := by rw [hlen.out]; exact hlt
    obtain ⟨b, o, u, rfl, hcell, _, hu⟩ := Vs.next hA hlt
    obtain ⟨x, hx, hxl⟩ : ∃ x, u = .bool x ∧ Hid (l.take (k + 1) = l.take k ++ [x]) := by
      have h := hu.out
      rw [bls_get l k hlk] at h
      injection h with h
      exact ⟨l[k], h.symm, take_next hlk⟩
    subst hx
    have hs := cnt_snoc what (l.take k) x
    rw [← hxl.out] at hs
    obtain ⟨q, hq⟩ : ∃ q, cnt what (l.take k) = q := ⟨_, rfl⟩
    rw [hq] at hs hc ⊢
    have HS := Lib.hid hs
    clear hs hq hu
    have q0 : (0 : Int) ≤ q := by omega
    have q1 : (q : Int) ≤ 4611686018427387904 := by omega
    have q2 : IntKind.i64.wrap ((q : Int) + 1) = q + 1 := IntWalk.i64_in _ (by omega)
    have hs0 := HS.out
    cases x <;> cases what
    all_goals
      simp at hs0
      have HS0 := Lib.hid hs0
      clear hs0
      repeat (first | refine kw_seq ?_ | refine kw_block ?_ | refine kw_skip ?_ | refine kw_region ?_ | refine kl_nil ?_ | refine kq_then ?_ | refine kq_block ?_ | refine kw_exit ?_ | refine kq_then_exit ?_ | refine kq_block_here rfl ?_ | refine kq_block_far rfl ?_ | refine kq_again_exit ?_ | refine kw_ret ?_ | refine kq_then_ret ?_ | refine kq_block_ret ?_ | refine kq_again_ret ?_ | refine kw_ift rfl ?_ | refine kw_iff rfl ?_ | refine kl_ung rfl rfl ?_ | refine kl_skipg rfl rfl rfl rfl ?_ | refine kl_skipg0 rfl rfl rfl ?_ | (first | refine kl_move rfl rfl (.inl rfl) rfl rfl ?_ | refine kl_move rfl rfl (.inr rfl) rfl rfl ?_ | refine kl_const rfl rfl (.inl rfl) rfl ?_ | refine kl_const rfl rfl (.inr rfl) rfl ?_) | ((first | refine kl_step rfl rfl rfl fun K hK => ?_ | refine kl_step0 rfl rfl rfl fun K hK => ?_); go_simp; (try go_bits); (first | refine hK _ _ ?_ | refine hK _ ?_); clear hK K))
      refine kq_again (n - (k + 1)) [0, 5, 8, 9, 10] (by omega) ?_
      simp only [nrm, lk, Nat.reduceBEq, cond_true, cond_false]
      refine ⟨k + 1, by omega, rfl, trivial, ?_⟩
      rw [HS0.out]
      rfl
  · obtain rfl : k = n := by omega
    repeat (first | refine kw_seq ?_ | refine kw_block ?_ | refine kw_skip ?_ | refine kw_region ?_ | refine kl_nil ?_ | refine kq_then ?_ | refine kq_block ?_ | refine kw_exit ?_ | refine kq_then_exit ?_ | refine kq_block_here rfl ?_ | refine kq_block_far rfl ?_ | refine kq_again_exit ?_ | refine kw_ret ?_ | refine kq_then_ret ?_ | refine kq_block_ret ?_ | refine kq_again_ret ?_ | refine kw_ift rfl ?_ | refine kw_iff rfl ?_ | refine kl_ung rfl rfl ?_ | refine kl_skipg rfl rfl rfl rfl ?_ | refine kl_skipg0 rfl rfl rfl ?_ | (first | refine kl_move rfl rfl (.inl rfl) rfl rfl ?_ | refine kl_move rfl rfl (.inr rfl) rfl rfl ?_ | refine kl_const rfl rfl (.inl rfl) rfl ?_ | refine kl_const rfl rfl (.inr rfl) rfl ?_) | ((first | refine kl_step rfl rfl rfl fun K hK => ?_ | refine kl_step0 rfl rfl rfl fun K hK => ?_); go_simp; (try go_bits); (first | refine hK _ _ ?_ | refine hK _ ?_); clear hK K))
    have ht : l.take k = l := List.take_of_length_le (by rw [hlen.out]; exact Nat.le_refl _)
    exact kq_ret1 rfl rfl ⟨by rw [ht], rfl⟩
set_option maxRecDepth 100000 in
set_option maxHeartbeats 1000000 in
theorem left_any (s : Ses) (D G : Value) (w : World) (hM : SesM w s D G) (hg : s.got.length ≤ 4611686018427387904) :
    Calls Try.prog 19 #[.agg (sesV s D G).toArray] w fun e w' => e = .returned (.int .i64 (cnt false s.got : Int)) ∧ Below w.heap.size w w' := by
  obtain ⟨A, n, c, rfl, hv, hnc, hc⟩ := hM.got
  have hn : n ≤ 4611686018427387904 := by have := hv.1; rw [length_bls] at this; omega
  have HS := Lib.hid hM.sum
  refine calls_kw Try.func19 rfl Try.ntmps19 rfl [(0, .agg (sesV s D (.slice A n c)).toArray)] rfl ?_
  refine kw_seq ?_
  refine kw_region ?_
  ((first | refine kl_step rfl rfl rfl fun K hK => ?_ | refine kl_step0 rfl rfl rfl fun K hK => ?_); go_simp; (try go_bits); (first | refine hK _ _ ?_ | refine hK _ ?_); clear hK K)
  obtain ⟨w1, hw1⟩ : ∃ w1, w1 = w.alloc (.cells (sesV s D (.slice A n c)).toArray 32) := ⟨_, rfl⟩
  have hb1 : Below w.heap.size w w1 := by rw [hw1]; exact (Below.refl _ _).alloc (Nat.le_refl _) _
  have h1 : w1.heap[w.heap.size]? = some (.cells (sesV s D (.slice A n c)).toArray 32 (0, 0)) := by rw [hw1]; exact heap_alloc_new _ _
  rw [← hw1]
  clear hw1
  have c35 := ses_cell h1 (ses_35 s D _ HS.out)
  have hv1 := Vs.keep hv (.of_below hb1)
  clear h1
  repeat (first | refine kw_seq ?_ | refine kw_block ?_ | refine kw_skip ?_ | refine kw_region ?_ | refine kl_nil ?_ | refine kq_then ?_ | refine kq_block ?_ | refine kw_exit ?_ | refine kq_then_exit ?_ | refine kq_block_here rfl ?_ | refine kq_block_far rfl ?_ | refine kq_again_exit ?_ | refine kw_ret ?_ | refine kq_then_ret ?_ | refine kq_block_ret ?_ | refine kq_again_ret ?_ | refine kw_ift rfl ?_ | refine kw_iff rfl ?_ | refine kl_ung rfl rfl ?_ | refine kl_skipg rfl rfl rfl rfl ?_ | refine kl_skipg0 rfl rfl rfl ?_ | (first | refine kl_move rfl rfl (.inl rfl) rfl rfl ?_ | refine kl_move rfl rfl (.inr rfl) rfl rfl ?_ | refine kl_const rfl rfl (.inl rfl) rfl ?_ | refine kl_const rfl rfl (.inr rfl) rfl ?_) | ((first | refine kl_step rfl rfl rfl fun K hK => ?_ | refine kl_step0 rfl rfl rfl fun K hK => ?_); go_simp; (try go_bits); (first | refine hK _ _ ?_ | refine hK _ ?_); clear hK K))
  refine kl_call rfl rfl rfl Try.func35 rfl (by kernel_rfl) rfl ?_
  refine Calls.mono (count_any false A n c s.got w1 hv1 hn) ?_
  rintro e _ ⟨rfl, rfl⟩
  refine ⟨_, rfl, ?_⟩
  repeat (first | refine kw_seq ?_ | refine kw_block ?_ | refine kw_skip ?_ | refine kw_region ?_ | refine kl_nil ?_ | refine kq_then ?_ | refine kq_block ?_ | refine kw_exit ?_ | refine kq_then_exit ?_ | refine kq_block_here rfl ?_ | refine kq_block_far rfl ?_ | refine kq_again_exit ?_ | refine kw_ret ?_ | refine kq_then_ret ?_ | refine kq_block_ret ?_ | refine kq_again_ret ?_ | refine kw_ift rfl ?_ | refine kw_iff rfl ?_ | refine kl_ung rfl rfl ?_ | refine kl_skipg rfl rfl rfl rfl ?_ | refine kl_skipg0 rfl rfl rfl ?_ | (first | refine kl_move rfl rfl (.inl rfl) rfl rfl ?_ | refine kl_move rfl rfl (.inr rfl) rfl rfl ?_ | refine kl_const rfl rfl (.inl rfl) rfl ?_ | refine kl_const rfl rfl (.inr rfl) rfl ?_) | ((first | refine kl_step rfl rfl rfl fun K hK => ?_ | refine kl_step0 rfl rfl rfl fun K hK => ?_); go_simp; (try go_bits); (first | refine hK _ _ ?_ | refine hK _ ?_); clear hK K))
  exact kq_ret1 rfl rfl ⟨rfl, hb1⟩
end Go.Proofs.Ytkgenkkcgegcbaa
