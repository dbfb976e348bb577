/- A number from 0 to n - 1: plainly. within of the law's package. SessionRows: the walk. Its chapter's example. -/
import Derived.Test.YtonjpjiphcbemaaLib
import Derived.Test.YtonjpjiphcbemaaChecked
import Derived.Test.YtonjpjiphcbemaaSesBegin
import Derived.Test.YtonjpjiphcbemaaSesChunkM
import Derived.Test.YtonjpjiphcbemaaSesSame
import Derived.Test.YtonjpjiphcbemaaSesWhole
namespace Go.Proofs.Ytonjpjiphcbemaa
open Go.RowKit

theorem emod_neg_ (x n : Int) (h : x.tmod n < 0) (h0 : 0 < n) : x.tmod n + n = x % n := by
  have := Int.tmod_eq_emod (a := x) (b := n)
  have hb := Int.emod_lt_of_pos x h0
  have hc := Int.emod_nonneg x (Int.ne_of_gt h0)
  split at this <;> omega
theorem emod_pos_ (x n : Int) (h : 0 ≤ x.tmod n) (h0 : 0 < n) : x.tmod n = x % n := by
  have := Int.tmod_eq_emod (a := x) (b := n)
  have hb := Int.emod_lt_of_pos x h0
  have hc := Int.emod_nonneg x (Int.ne_of_gt h0)
  split at this <;> omega

/-- a number from 0 to n - 1 -/
def within (x : Int) (n : Nat) : Nat := (x % (n : Int)).toNat
theorem within_lt (x : Int) (n : Nat) (h : 0 < n) : within x n < n := by
  have := Int.emod_lt_of_pos x (show (0 : Int) < n by omega)
  have := Int.emod_nonneg x (show (n : Int) ≠ 0 by omega)
  unfold within; omega

end Go.Proofs.Ytonjpjiphcbemaa
namespace Go.Proofs.Ytonjpjiphcbemaa
open Go.RowKit

theorem within_any (x : Int) (n : Nat) (N : Int) (w : World) (hN : N = n) (h0 : 0 < n) (hn : n ≤ 4294967296) :
    Calls Try.prog 12 #[.int .i64 x, .int .i64 N] w fun e w' => e = .returned (.int .i64 (within x n : Int)) ∧ w = w' := by
  subst hN
  have h0' : (0 : Int) < n := by omega
  have h1 : x.tmod n < n := Int.tmod_lt_of_pos x h0'
  have h2 : -(n : Int) < x.tmod n := by
    have := Int.tmod_eq_emod (a := x) (b := n)
    have hc := Int.emod_nonneg x (Int.ne_of_gt h0')
    split at this <;> omega
  have hm := Int.emod_nonneg x (Int.ne_of_gt h0')
  have hW : ((within x n : Nat) : Int) = x % n := by unfold within; omega
  clear hm
  rw [hW]
  clear hW
  go_enter Try.func12, Try.ntmps12
  go_wp2
  · go_ret
    exact ⟨ret_int (emod_neg_ x n (by assumption) h0'), rfl⟩
  · go_ret
    exact ⟨ret_int (emod_pos_ x n (by omega) h0'), rfl⟩
end Go.Proofs.Ytonjpjiphcbemaa
namespace Go.Proofs.Ytonjpjiphcbemaa
open Go.RowKit
attribute [local go_sem] ev_tmp ev_const ev_func ev_global lk_hit lk_miss uponK_value uponK_skip look_tmp look_const look_global look_func
def fr0 : Frm := ⟨1, 3, 5, 0, z32, []⟩
def sK : Ses := ⟨3, 5, z32, List.replicate 5 0, List.replicate 5 false⟩
theorem fr0_m (w : World) : FrmM w fr0 (.slice none 0 0) := ⟨by show I64 1; unfold I64; omega, by show I64 3; unfold I64; omega, by show I64 5; unfold I64; omega, by show I64 0; unfold I64; omega, z32_len, SlB.nil w⟩
theorem begin_fr0 : beginS fr0 = sK ∧ beginE fr0 = 0 := ⟨by unfold beginS; rw [if_neg (show ¬ badF fr0 by unfold badF; decide)]; rfl, by decide⟩
theorem frmV_one (f : Frm) (D : Value) (hD : D.oneCell' = true) : (frmV f D).toArray.all (·.oneCell') = true := by
  simp only [frmV, List.all_toArray, List.all_append, List.all_cons, List.all_nil, hD, Bool.and_true]
  simp [bv, Value.oneCell']
theorem sizeZF (f : Frm) (D : Value) (h : f.sum.length = 32) : zFrm.toArray.size = (frmV f D).toArray.size := by simp [zFrm, length_frmV zeroFrm _ z32_len, length_frmV f D h]
def KnownP (w : World) (e : Ending) (w' : World) : Prop := e = .returned (.bool true) ∧ Below w.heap.size w w'
set_option maxRecDepth 100000 in
set_option maxHeartbeats 1000000 in
theorem known17_any (w : World) : Calls Try.prog 11 #[] w (KnownP w) := by
  refine calls_kw Try.func11 rfl Try.ntmps11 rfl [] rfl ?_
  repeat (first | refine kw_seq ?_ | refine kw_block ?_ | refine kw_skip ?_ | refine kw_region ?_ | refine kl_nil ?_ | refine kq_then ?_ | refine kq_block ?_ | refine kw_exit ?_ | refine kq_then_exit ?_ | refine kq_block_here rfl ?_ | refine kq_block_far rfl ?_ | refine kq_again_exit ?_ | refine kw_ret ?_ | refine kq_then_ret ?_ | refine kq_block_ret ?_ | refine kq_again_ret ?_ | refine kw_ift rfl ?_ | refine kw_iff rfl ?_ | refine kl_ung rfl rfl ?_ | refine kl_skipg rfl rfl rfl rfl ?_ | refine kl_skipg0 rfl rfl rfl ?_ | (first | refine kl_move rfl rfl (.inl rfl) rfl rfl ?_ | refine kl_move rfl rfl (.inr rfl) rfl rfl ?_ | refine kl_const rfl rfl (.inl rfl) rfl ?_ | refine kl_const rfl rfl (.inr rfl) rfl ?_) | ((first | refine kl_step rfl rfl rfl fun K hK => ?_ | refine kl_step0 rfl rfl rfl fun K hK => ?_); go_simp; (try go_bits); (first | refine hK _ _ ?_ | refine hK _ ?_); clear hK K))
  refine kl_call rfl rfl rfl Try.func13 rfl (by kernel_rfl) rfl ?_
  refine Calls.mono (begin_any fr0 (.slice none 0 0) w (fr0_m w)) ?_
  rintro e w1 ⟨D, G, rfl, hM, hb1, _⟩
  rw [begin_fr0.1, begin_fr0.2]
  rw [begin_fr0.1] at hM
  refine ⟨_, rfl, ?_⟩
  have HS : Hid (sK.sum.length = 32) := z32_len
  have HM := Lib.hid hM
  clear hM
  repeat (first | refine kw_seq ?_ | refine kw_block ?_ | refine kw_skip ?_ | refine kw_region ?_ | refine kl_nil ?_ | refine kq_then ?_ | refine kq_block ?_ | refine kw_exit ?_ | refine kq_then_exit ?_ | refine kq_block_here rfl ?_ | refine kq_block_far rfl ?_ | refine kq_again_exit ?_ | refine kw_ret ?_ | refine kq_then_ret ?_ | refine kq_block_ret ?_ | refine kq_again_ret ?_ | refine kw_ift rfl ?_ | refine kw_iff rfl ?_ | refine kl_ung rfl rfl ?_ | refine kl_skipg rfl rfl rfl rfl ?_ | refine kl_skipg0 rfl rfl rfl ?_ | (first | refine kl_move rfl rfl (.inl rfl) rfl rfl ?_ | refine kl_move rfl rfl (.inr rfl) rfl rfl ?_ | refine kl_const rfl rfl (.inl rfl) rfl ?_ | refine kl_const rfl rfl (.inr rfl) rfl ?_) | ((first | refine kl_step rfl rfl rfl fun K hK => ?_ | refine kl_step0 rfl rfl rfl fun K hK => ?_); go_simp; (try go_bits); (first | refine hK _ _ ?_ | refine hK _ ?_); clear hK K))
  refine kl_var_row (d := 1) (y := 8) sesZero (infoS sK D G HS.out) (sizeZ sK D G HS.out) (sesV_one _ _ _ HM.out.data.one HM.out.got.one) rfl rfl rfl rfl rfl rfl rfl rfl rfl ?_
  obtain ⟨w2, hw2⟩ : ∃ w2, w2 = w1.alloc (.cells (sesV sK D G).toArray 30) := ⟨_, rfl⟩
  have hbw2 : Below w1.heap.size w1 w2 := by rw [hw2]; exact (Below.refl _ _).alloc (Nat.le_refl _) _
  have h2 : w2.heap[w1.heap.size]? = some (.cells (sesV sK D G).toArray 30 (0, 0)) := by rw [hw2]; exact heap_alloc_new _ _
  have sw2 : w2.heap.size = w1.heap.size + 1 := by rw [hw2]; simp
  rw [← hw2]
  clear hw2
  obtain ⟨g2, hg2⟩ : ∃ g, w1.heap.size = g := ⟨_, rfl⟩
  rw [hg2] at h2
  have H2 := Lib.hid h2
  rw [hg2]
  have hb := below_two hb1 hbw2
  have HM := Lib.hid (HM.out.keep (.of_below hbw2))
  clear hg2 h2 sw2 hb1 hbw2
  repeat (first | refine kw_seq ?_ | refine kw_skip ?_ | refine kw_region ?_ | refine kl_nil ?_ | refine kq_then ?_ | refine kq_block ?_ | refine kw_exit ?_ | refine kq_then_exit ?_ | refine kq_block_here rfl ?_ | refine kq_block_far rfl ?_ | refine kq_again_exit ?_ | refine kw_ret ?_ | refine kq_then_ret ?_ | refine kq_block_ret ?_ | refine kq_again_ret ?_ | refine kw_ift rfl ?_ | refine kw_iff rfl ?_ | refine kl_ung rfl rfl ?_ | refine kl_skipg rfl rfl rfl rfl ?_ | refine kl_skipg0 rfl rfl rfl ?_ | (first | refine kl_move rfl rfl (.inl rfl) rfl rfl ?_ | refine kl_move rfl rfl (.inr rfl) rfl rfl ?_ | refine kl_const rfl rfl (.inl rfl) rfl ?_ | refine kl_const rfl rfl (.inr rfl) rfl ?_))
  refine kl_load_row 30 g2 _ _ _ _ H2.out Try.underlying30 rfl (infoS sK _ _ HS.out) rfl rfl rfl rfl rfl ?_
  refine kl_call rfl rfl rfl Try.func16 rfl (by kernel_rfl) rfl ?_
  refine Calls.mono (whole_any sK D G _ HM.out (by decide) (by decide)) ?_
  rintro e w3 ⟨V, rfl, hV, hb3⟩
  rw [show wholeE sK = 25 by decide]
  refine ⟨_, rfl, ?_⟩
  have hb := below_then hb hb3 hb.size
  have H2 := Lib.hid (below_atK hb3 H2.out)
  have HM := Lib.hid (HM.out.keep (.of_below hb3))
  clear hb3 hV
  repeat (first | refine kw_seq ?_ | refine kw_block ?_ | refine kw_skip ?_ | refine kw_region ?_ | refine kl_nil ?_ | refine kq_then ?_ | refine kq_block ?_ | refine kw_exit ?_ | refine kq_then_exit ?_ | refine kq_block_here rfl ?_ | refine kq_block_far rfl ?_ | refine kq_again_exit ?_ | refine kw_ret ?_ | refine kq_then_ret ?_ | refine kq_block_ret ?_ | refine kq_again_ret ?_ | refine kw_ift rfl ?_ | refine kw_iff rfl ?_ | refine kl_ung rfl rfl ?_ | refine kl_skipg rfl rfl rfl rfl ?_ | refine kl_skipg0 rfl rfl rfl ?_ | refine kl_load_row 30 g2 _ _ _ _ H2.out Try.underlying30 rfl (infoS sK _ _ HS.out) rfl rfl rfl rfl rfl ?_ | (first | refine kl_move rfl rfl (.inl rfl) rfl rfl ?_ | refine kl_move rfl rfl (.inr rfl) rfl rfl ?_ | refine kl_const rfl rfl (.inl rfl) rfl ?_ | refine kl_const rfl rfl (.inr rfl) rfl ?_) | ((first | refine kl_step rfl rfl rfl fun K hK => ?_ | refine kl_step0 rfl rfl rfl fun K hK => ?_); go_simp; (try go_bits); (first | refine hK _ _ ?_ | refine hK _ ?_); clear hK K))
  refine kl_call rfl rfl rfl Try.func17 rfl (by kernel_rfl) rfl ?_
  refine Calls.mono (left_any sK D G _ HM.out (by decide)) ?_
  rintro e w4 ⟨rfl, hb4⟩
  rw [show cnt false sK.got = 5 by decide]
  refine ⟨_, rfl, ?_⟩
  have hb := below_then hb hb4 hb.size
  repeat (first | refine kw_seq ?_ | refine kw_block ?_ | refine kw_skip ?_ | refine kw_region ?_ | refine kl_nil ?_ | refine kq_then ?_ | refine kq_block ?_ | refine kw_exit ?_ | refine kq_then_exit ?_ | refine kq_block_here rfl ?_ | refine kq_block_far rfl ?_ | refine kq_again_exit ?_ | refine kw_ret ?_ | refine kq_then_ret ?_ | refine kq_block_ret ?_ | refine kq_again_ret ?_ | refine kw_ift rfl ?_ | refine kw_iff rfl ?_ | refine kl_ung rfl rfl ?_ | refine kl_skipg rfl rfl rfl rfl ?_ | refine kl_skipg0 rfl rfl rfl ?_ | (first | refine kl_move rfl rfl (.inl rfl) rfl rfl ?_ | refine kl_move rfl rfl (.inr rfl) rfl rfl ?_ | refine kl_const rfl rfl (.inl rfl) rfl ?_ | refine kl_const rfl rfl (.inr rfl) rfl ?_) | ((first | refine kl_step rfl rfl rfl fun K hK => ?_ | refine kl_step0 rfl rfl rfl fun K hK => ?_); go_simp; (try go_bits); (first | refine hK _ _ ?_ | refine hK _ ?_); clear hK K))
  exact kq_ret1 rfl rfl ⟨rfl, hb⟩
end Go.Proofs.Ytonjpjiphcbemaa
