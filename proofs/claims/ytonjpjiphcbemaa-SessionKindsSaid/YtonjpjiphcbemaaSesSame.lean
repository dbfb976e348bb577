/- == on sums by value. session.Same. -/
import Derived.Test.YtonjpjiphcbemaaShaSum
import Derived.Stop.BytesEq
import Derived.Test.YtonjpjiphcbemaaSesEq
namespace Go.Proofs.Ytonjpjiphcbemaa
open Go.RowKit
set_option maxRecDepth 100000 in
theorem eqH (w : World) (xs ys : List UInt8) (hx : xs.length = 32) (hy : ys.length = 32) :
    (Op.equalIn 10000 27 (.agg (bv xs).toArray) (.agg (bv ys).toArray)).run Try.prog w = .ok (xs == ys) w :=
  run_equalIn_bytes w 9998 27 5 32 hashUnder Try.underlying5 (fun _ => rfl) xs ys hx hy
end Go.Proofs.Ytonjpjiphcbemaa
namespace Go.Proofs.Ytonjpjiphcbemaa
open Go.RowKit
attribute [local go_sem] ev_tmp ev_const ev_func ev_global lk_hit lk_miss uponK_value uponK_skip look_tmp look_const look_global look_func
def SameS (a b : Ses) : Prop := a.id = b.id ∧ a.size = b.size ∧ a.sum = b.sum ∧ a.data = b.data ∧ a.got = b.got
def SameP (b : Bool) (w : World) (e : Ending) (w' : World) : Prop := e = .returned (.bool b) ∧ Below w.heap.size w w'
instance (a b : Ses) : Decidable (SameS a b) := by unfold SameS; infer_instance
set_option maxRecDepth 100000 in
set_option maxHeartbeats 2000000 in
theorem same_any (s s' : Ses) (D G D' G' : Value) (w : World) (hM : SesM w s D G) (hM' : SesM w s' D' G') (hd : s.data.length ≤ 1000000) (hg : s.got.length ≤ 1000000) :
    Calls Try.prog 24 #[.agg (sesV s D G).toArray, .agg (sesV s' D' G').toArray] w (SameP (decide (SameS s s')) w) := by
  obtain ⟨A1, n1, c1, rfl, hB, _, _⟩ := hM.data
  obtain ⟨A2, n2, c2, rfl, hO, _, _⟩ := hM.got
  obtain ⟨A3, n3, c3, rfl, hB', _, _⟩ := hM'.data
  obtain ⟨A4, n4, c4, rfl, hO', _, _⟩ := hM'.got
  have hn1 : n1 ≤ 4611686018427387904 := by rw [← hB.len]; omega
  have hn2 : n2 ≤ 4611686018427387904 := by have := hO.1; rw [length_bls] at this; omega
  have HS := Lib.hid hM.sum
  have HS' := Lib.hid hM'.sum
  clear hM hM' hd hg
  refine calls_kw Try.func24 rfl Try.ntmps24 rfl [(0, .agg (sesV s (.slice A1 n1 c1) (.slice A2 n2 c2)).toArray), (1, .agg (sesV s' (.slice A3 n3 c3) (.slice A4 n4 c4)).toArray)] rfl ?_
  refine kw_seq ?_
  refine kw_region ?_
  ((first | refine kl_step rfl rfl rfl fun K hK => ?_ | refine kl_step0 rfl rfl rfl fun K hK => ?_); go_simp; (try go_bits); (first | refine hK _ _ ?_ | refine hK _ ?_); clear hK K)
  obtain ⟨w1, hw1⟩ : ∃ w1, w1 = w.alloc (.cells (sesV s (.slice A1 n1 c1) (.slice A2 n2 c2)).toArray 30) := ⟨_, rfl⟩
  have hbw1 : Below w.heap.size w w1 := by rw [hw1]; exact (Below.refl _ _).alloc (Nat.le_refl _) _
  have h1 : w1.heap[w.heap.size]? = some (.cells (sesV s (.slice A1 n1 c1) (.slice A2 n2 c2)).toArray 30 (0, 0)) := by rw [hw1]; exact heap_alloc_new _ _
  have sw1 : w1.heap.size = w.heap.size + 1 := by rw [hw1]; simp
  rw [← hw1]
  clear hw1
  obtain ⟨g1, hg1⟩ : ∃ g, w.heap.size = g := ⟨_, rfl⟩
  rw [hg1] at h1
  have H1 := Lib.hid h1
  rw [hg1]
  clear hg1 h1 sw1
  ((first | refine kl_step rfl rfl rfl fun K hK => ?_ | refine kl_step0 rfl rfl rfl fun K hK => ?_); go_simp; (try go_bits); (first | refine hK _ _ ?_ | refine hK _ ?_); clear hK K)
  obtain ⟨w2, hw2⟩ : ∃ w2, w2 = w1.alloc (.cells (sesV s' (.slice A3 n3 c3) (.slice A4 n4 c4)).toArray 30) := ⟨_, rfl⟩
  have hbw2 : Below w1.heap.size w1 w2 := by rw [hw2]; exact (Below.refl _ _).alloc (Nat.le_refl _) _
  have h2 : w2.heap[w1.heap.size]? = some (.cells (sesV s' (.slice A3 n3 c3) (.slice A4 n4 c4)).toArray 30 (0, 0)) := by rw [hw2]; exact heap_alloc_new _ _
  have sw2 : w2.heap.size = w1.heap.size + 1 := by rw [hw2]; simp
  rw [← hw2]
  clear hw2
  obtain ⟨g2, hg2⟩ : ∃ g, w1.heap.size = g := ⟨_, rfl⟩
  rw [hg2] at h2
  have H2 := Lib.hid h2
  have H1 := Lib.hid (below_atK hbw2 H1.out)
  rw [hg2]
  clear hg2 h2 sw2
  have hb := below_two hbw1 hbw2
  have a0 := ses_cell H1.out (ses_0 s _ _)
  have a1 := ses_cell H1.out (ses_1 s _ _)
  have a34 := ses_cell H1.out (ses_34 s _ _ HS.out)
  have a35 := ses_cell H1.out (ses_35 s _ _ HS.out)
  have b0 := ses_cell H2.out (ses_0 s' _ _)
  have b1 := ses_cell H2.out (ses_1 s' _ _)
  have b34 := ses_cell H2.out (ses_34 s' _ _ HS'.out)
  have b35 := ses_cell H2.out (ses_35 s' _ _ HS'.out)
  have HR := Lib.hid (ses_range H1.out)
  have HR' := Lib.hid (ses_range H2.out)
  have hBw := hB.keep (.of_below hb)
  have hBw' := hB'.keep (.of_below hb)
  have hOw := Vs.keep hO (.of_below hb)
  have hOw' := Vs.keep hO' (.of_below hb)
  clear hbw1 hbw2 hB hB' hO hO'
  by_cases h1 : s.id = s'.id
  case neg =>
    have t1 : (s.id == s'.id) = false := by rw [beq_eq_false_iff_ne]; exact h1
    have hD : decide (SameS s s') = false := by rw [decide_eq_false_iff_not]; exact fun h => h1 h.1
    have HD := Lib.hid hD
    clear h1 hD
    repeat (first | refine kw_seq ?_ | refine kw_block ?_ | refine kw_skip ?_ | refine kw_region ?_ | refine kl_nil ?_ | refine kq_then ?_ | refine kq_block ?_ | refine kw_exit ?_ | refine kq_then_exit ?_ | refine kq_block_here rfl ?_ | refine kq_block_far rfl ?_ | refine kq_again_exit ?_ | refine kw_ret ?_ | refine kq_then_ret ?_ | refine kq_block_ret ?_ | refine kq_again_ret ?_ | refine kw_ift rfl ?_ | refine kw_iff rfl ?_ | refine kl_ung rfl rfl ?_ | refine kl_skipg rfl rfl rfl rfl ?_ | refine kl_skipg0 rfl rfl rfl ?_ | (first | refine kl_move rfl rfl (.inl rfl) rfl rfl ?_ | refine kl_move rfl rfl (.inr rfl) rfl rfl ?_ | refine kl_const rfl rfl (.inl rfl) rfl ?_ | refine kl_const rfl rfl (.inr rfl) rfl ?_) | ((first | refine kl_step rfl rfl rfl fun K hK => ?_ | refine kl_step0 rfl rfl rfl fun K hK => ?_); go_simp; (try go_bits); (first | refine hK _ _ ?_ | refine hK _ ?_); clear hK K))
    exact kq_ret1 rfl rfl ⟨by rw [HD.out], hb⟩
  have t1 : (s.id == s'.id) = true := by rw [beq_iff_eq]; exact h1
  have X1 := Lib.hid h1
  clear h1
  by_cases h2 : s.size = s'.size
  case neg =>
    have t2 : (s.size == s'.size) = false := by rw [beq_eq_false_iff_ne]; exact h2
    have hD : decide (SameS s s') = false := by rw [decide_eq_false_iff_not]; exact fun h => h2 h.2.1
    have HD := Lib.hid hD
    clear h2 hD
    repeat (first | refine kw_seq ?_ | refine kw_block ?_ | refine kw_skip ?_ | refine kw_region ?_ | refine kl_nil ?_ | refine kq_then ?_ | refine kq_block ?_ | refine kw_exit ?_ | refine kq_then_exit ?_ | refine kq_block_here rfl ?_ | refine kq_block_far rfl ?_ | refine kq_again_exit ?_ | refine kw_ret ?_ | refine kq_then_ret ?_ | refine kq_block_ret ?_ | refine kq_again_ret ?_ | refine kw_ift rfl ?_ | refine kw_iff rfl ?_ | refine kl_ung rfl rfl ?_ | refine kl_skipg rfl rfl rfl rfl ?_ | refine kl_skipg0 rfl rfl rfl ?_ | (first | refine kl_move rfl rfl (.inl rfl) rfl rfl ?_ | refine kl_move rfl rfl (.inr rfl) rfl rfl ?_ | refine kl_const rfl rfl (.inl rfl) rfl ?_ | refine kl_const rfl rfl (.inr rfl) rfl ?_) | ((first | refine kl_step rfl rfl rfl fun K hK => ?_ | refine kl_step0 rfl rfl rfl fun K hK => ?_); go_simp; (try go_bits); (first | refine hK _ _ ?_ | refine hK _ ?_); clear hK K))
    exact kq_ret1 rfl rfl ⟨by rw [HD.out], hb⟩
  have t2 : (s.size == s'.size) = true := by rw [beq_iff_eq]; exact h2
  have X2 := Lib.hid h2
  clear h2
  by_cases h3 : s.sum = s'.sum
  case neg =>
    have he : ∀ W, (Op.equalIn 10000 27 (.agg (bv s.sum).toArray) (.agg (bv s'.sum).toArray)).run Try.prog W = .ok false W := fun W => by rw [eqH W _ _ HS.out HS'.out, beq_eq_false_iff_ne.2 h3]
    have hD : decide (SameS s s') = false := by rw [decide_eq_false_iff_not]; exact fun h => h3 h.2.2.1
    have HD := Lib.hid hD
    clear h3 hD
    repeat (first | refine kw_seq ?_ | refine kw_block ?_ | refine kw_skip ?_ | refine kw_region ?_ | refine kl_nil ?_ | refine kq_then ?_ | refine kq_block ?_ | refine kw_exit ?_ | refine kq_then_exit ?_ | refine kq_block_here rfl ?_ | refine kq_block_far rfl ?_ | refine kq_again_exit ?_ | refine kw_ret ?_ | refine kq_then_ret ?_ | refine kq_block_ret ?_ | refine kq_again_ret ?_ | refine kw_ift rfl ?_ | refine kw_iff rfl ?_ | refine kl_ung rfl rfl ?_ | refine kl_skipg rfl rfl rfl rfl ?_ | refine kl_skipg0 rfl rfl rfl ?_ | refine kl_load_mid 27 g1 2 _ _ HR.out hashUnder rfl (by rw [hashInfo, length_bv, HS.out]) rfl rfl rfl rfl rfl ?_ | refine kl_load_mid 27 g2 2 _ _ HR'.out hashUnder rfl (by rw [hashInfo, length_bv, HS'.out]) rfl rfl rfl rfl rfl ?_ | (first | refine kl_move rfl rfl (.inl rfl) rfl rfl ?_ | refine kl_move rfl rfl (.inr rfl) rfl rfl ?_ | refine kl_const rfl rfl (.inl rfl) rfl ?_ | refine kl_const rfl rfl (.inr rfl) rfl ?_) | ((first | refine kl_step rfl rfl rfl fun K hK => ?_ | refine kl_step0 rfl rfl rfl fun K hK => ?_); go_simp; (try go_bits); (first | refine hK _ _ ?_ | refine hK _ ?_); clear hK K))
    exact kq_ret1 rfl rfl ⟨by rw [HD.out], hb⟩
  have he : ∀ W, (Op.equalIn 10000 27 (.agg (bv s.sum).toArray) (.agg (bv s'.sum).toArray)).run Try.prog W = .ok true W := fun W => by rw [eqH W _ _ HS.out HS'.out, beq_iff_eq.2 h3]
  have X3 := Lib.hid h3
  clear h3
  repeat (first | refine kw_seq ?_ | refine kw_block ?_ | refine kw_skip ?_ | refine kw_region ?_ | refine kl_nil ?_ | refine kq_then ?_ | refine kq_block ?_ | refine kw_exit ?_ | refine kq_then_exit ?_ | refine kq_block_here rfl ?_ | refine kq_block_far rfl ?_ | refine kq_again_exit ?_ | refine kw_ret ?_ | refine kq_then_ret ?_ | refine kq_block_ret ?_ | refine kq_again_ret ?_ | refine kw_ift rfl ?_ | refine kw_iff rfl ?_ | refine kl_ung rfl rfl ?_ | refine kl_skipg rfl rfl rfl rfl ?_ | refine kl_skipg0 rfl rfl rfl ?_ | refine kl_load_mid 27 g1 2 _ _ HR.out hashUnder rfl (by rw [hashInfo, length_bv, HS.out]) rfl rfl rfl rfl rfl ?_ | refine kl_load_mid 27 g2 2 _ _ HR'.out hashUnder rfl (by rw [hashInfo, length_bv, HS'.out]) rfl rfl rfl rfl rfl ?_ | (first | refine kl_move rfl rfl (.inl rfl) rfl rfl ?_ | refine kl_move rfl rfl (.inr rfl) rfl rfl ?_ | refine kl_const rfl rfl (.inl rfl) rfl ?_ | refine kl_const rfl rfl (.inr rfl) rfl ?_) | ((first | refine kl_step rfl rfl rfl fun K hK => ?_ | refine kl_step0 rfl rfl rfl fun K hK => ?_); go_simp; (try go_bits); (first | refine hK _ _ ?_ | refine hK _ ?_); clear hK K))
  refine kl_call rfl rfl rfl Try.func40 rfl (by kernel_rfl) rfl ?_
  refine Calls.mono (equalB_any _ _ _ _ _ _ s.data s'.data _ hBw hBw' hn1) ?_
  rintro e w3 ⟨rfl, hb3⟩
  refine ⟨_, rfl, ?_⟩
  have hb := below_then hb hb3 hb.size
  have a35 := Keeps.of_below hb3 _ _ a35
  have b35 := Keeps.of_below hb3 _ _ b35
  have hOw := Vs.keep hOw (.of_below hb3)
  have hOw' := Vs.keep hOw' (.of_below hb3)
  clear hb3 he
  by_cases h4 : s.data = s'.data
  case neg =>
    have hD : decide (SameS s s') = false := by rw [decide_eq_false_iff_not]; exact fun h => h4 h.2.2.2.1
    have HD := Lib.hid hD
    rw [decide_eq_false h4]
    clear h4 hD
    repeat (first | refine kw_seq ?_ | refine kw_block ?_ | refine kw_skip ?_ | refine kw_region ?_ | refine kl_nil ?_ | refine kq_then ?_ | refine kq_block ?_ | refine kw_exit ?_ | refine kq_then_exit ?_ | refine kq_block_here rfl ?_ | refine kq_block_far rfl ?_ | refine kq_again_exit ?_ | refine kw_ret ?_ | refine kq_then_ret ?_ | refine kq_block_ret ?_ | refine kq_again_ret ?_ | refine kw_ift rfl ?_ | refine kw_iff rfl ?_ | refine kl_ung rfl rfl ?_ | refine kl_skipg rfl rfl rfl rfl ?_ | refine kl_skipg0 rfl rfl rfl ?_ | refine kl_load_mid 27 g1 2 _ _ HR.out hashUnder rfl (by rw [hashInfo, length_bv, HS.out]) rfl rfl rfl rfl rfl ?_ | refine kl_load_mid 27 g2 2 _ _ HR'.out hashUnder rfl (by rw [hashInfo, length_bv, HS'.out]) rfl rfl rfl rfl rfl ?_ | (first | refine kl_move rfl rfl (.inl rfl) rfl rfl ?_ | refine kl_move rfl rfl (.inr rfl) rfl rfl ?_ | refine kl_const rfl rfl (.inl rfl) rfl ?_ | refine kl_const rfl rfl (.inr rfl) rfl ?_) | ((first | refine kl_step rfl rfl rfl fun K hK => ?_ | refine kl_step0 rfl rfl rfl fun K hK => ?_); go_simp; (try go_bits); (first | refine hK _ _ ?_ | refine hK _ ?_); clear hK K))
    exact kq_ret1 rfl rfl ⟨by rw [HD.out], hb⟩
  rw [decide_eq_true h4]
  have X4 := Lib.hid h4
  clear h4
  repeat (first | refine kw_seq ?_ | refine kw_block ?_ | refine kw_skip ?_ | refine kw_region ?_ | refine kl_nil ?_ | refine kq_then ?_ | refine kq_block ?_ | refine kw_exit ?_ | refine kq_then_exit ?_ | refine kq_block_here rfl ?_ | refine kq_block_far rfl ?_ | refine kq_again_exit ?_ | refine kw_ret ?_ | refine kq_then_ret ?_ | refine kq_block_ret ?_ | refine kq_again_ret ?_ | refine kw_ift rfl ?_ | refine kw_iff rfl ?_ | refine kl_ung rfl rfl ?_ | refine kl_skipg rfl rfl rfl rfl ?_ | refine kl_skipg0 rfl rfl rfl ?_ | refine kl_load_mid 27 g1 2 _ _ HR.out hashUnder rfl (by rw [hashInfo, length_bv, HS.out]) rfl rfl rfl rfl rfl ?_ | refine kl_load_mid 27 g2 2 _ _ HR'.out hashUnder rfl (by rw [hashInfo, length_bv, HS'.out]) rfl rfl rfl rfl rfl ?_ | (first | refine kl_move rfl rfl (.inl rfl) rfl rfl ?_ | refine kl_move rfl rfl (.inr rfl) rfl rfl ?_ | refine kl_const rfl rfl (.inl rfl) rfl ?_ | refine kl_const rfl rfl (.inr rfl) rfl ?_) | ((first | refine kl_step rfl rfl rfl fun K hK => ?_ | refine kl_step0 rfl rfl rfl fun K hK => ?_); go_simp; (try go_bits); (first | refine hK _ _ ?_ | refine hK _ ?_); clear hK K))
  refine kl_call rfl rfl rfl Try.func41 rfl (by kernel_rfl) rfl ?_
  refine Calls.mono (equalO_any _ _ _ _ _ _ s.got s'.got _ hOw hOw' hn2) ?_
  rintro e w4 ⟨rfl, hb4⟩
  refine ⟨_, rfl, ?_⟩
  have hb := below_then hb hb4 hb.size
  have hD : decide (SameS s s') = decide (s.got = s'.got) := by
    rw [decide_eq_decide]
    exact ⟨fun h => h.2.2.2.2, fun h => ⟨X1.out, X2.out, X3.out, X4.out, h⟩⟩
  have HD := Lib.hid hD
  clear hD
  generalize decide (s.got = s'.got) = b at *
  repeat (first | refine kw_seq ?_ | refine kw_block ?_ | refine kw_skip ?_ | refine kw_region ?_ | refine kl_nil ?_ | refine kq_then ?_ | refine kq_block ?_ | refine kw_exit ?_ | refine kq_then_exit ?_ | refine kq_block_here rfl ?_ | refine kq_block_far rfl ?_ | refine kq_again_exit ?_ | refine kw_ret ?_ | refine kq_then_ret ?_ | refine kq_block_ret ?_ | refine kq_again_ret ?_ | refine kw_ift rfl ?_ | refine kw_iff rfl ?_ | refine kl_ung rfl rfl ?_ | refine kl_skipg rfl rfl rfl rfl ?_ | refine kl_skipg0 rfl rfl rfl ?_ | refine kl_load_mid 27 g1 2 _ _ HR.out hashUnder rfl (by rw [hashInfo, length_bv, HS.out]) rfl rfl rfl rfl rfl ?_ | refine kl_load_mid 27 g2 2 _ _ HR'.out hashUnder rfl (by rw [hashInfo, length_bv, HS'.out]) rfl rfl rfl rfl rfl ?_ | (first | refine kl_move rfl rfl (.inl rfl) rfl rfl ?_ | refine kl_move rfl rfl (.inr rfl) rfl rfl ?_ | refine kl_const rfl rfl (.inl rfl) rfl ?_ | refine kl_const rfl rfl (.inr rfl) rfl ?_) | ((first | refine kl_step rfl rfl rfl fun K hK => ?_ | refine kl_step0 rfl rfl rfl fun K hK => ?_); go_simp; (try go_bits); (first | refine hK _ _ ?_ | refine hK _ ?_); clear hK K))
  exact kq_ret1 rfl rfl ⟨by rw [HD.out], hb⟩
end Go.Proofs.Ytonjpjiphcbemaa
