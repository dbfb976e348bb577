/- A number from 0 to n - 1: plainly. within of the law's package. SessionRows: the walk. Its chapter's example. session.Parse: its end. -/
import Derived.Test.YtkgenkkcgegcbaaLib
import Derived.Test.YtkgenkkcgegcbaaChecked
import Derived.Test.YtkgenkkcgegcbaaSesBegin
import Derived.Test.YtkgenkkcgegcbaaSesChunkM
import Derived.Test.YtkgenkkcgegcbaaSesCount
import Derived.Test.YtkgenkkcgegcbaaSesWhole
import Derived.Test.YtkgenkkcgegcbaaSesHash
import Derived.Test.YtkgenkkcgegcbaaKnR
namespace Go.Proofs.Ytkgenkkcgegcbaa
open Go.RowKit

theorem emod_neg_ (x n : Int) (h : x.tmod n < 0) (h0 : 0 < n) : x.tmod n + n = x % n := by
  have := Int.tmod_eq_emod (a := x) (b := n)
  have hb := Int.emod_lt_of_pos x h0
  have hc := Int.emod_nonneg x (Int.ne_of_gt h0)
  split at this <;> omega
theorem emod_pos_ (x n : Int) (h : 0 ≤ x.tmod n) (h0 : 0 < n) : x.tmod n = x % n := by
  have := Int.tmod_eq_emod (a := x) (b := n)
  have hb := Int.emod_lt_of_pos x h0
  have hc := Int.emod_nonneg x (Int.ne_of_gt h0)
  split at this <;> omega

/-- a number from 0 to n - 1 -/
def within (x : Int) (n : Nat) : Nat := (x % (n : Int)).toNat
theorem within_lt (x : Int) (n : Nat) (h : 0 < n) : within x n < n := by
  have := Int.emod_lt_of_pos x (show (0 : Int) < n by omega)
  have := Int.emod_nonneg x (show (n : Int) ≠ 0 by omega)
  unfold within; omega

end Go.Proofs.Ytkgenkkcgegcbaa
namespace Go.Proofs.Ytkgenkkcgegcbaa
open Go.RowKit

theorem within_any (x : Int) (n : Nat) (N : Int) (w : World) (hN : N = n) (h0 : 0 < n) (hn : n ≤ 4294967296) :
    Calls Try.prog 15 #[.int .i64 x, .int .i64 N] w fun e w' => e = .returned (.int .i64 (within x n : Int)) ∧ w = w' := by
  subst hN
  have h0' : (0 : Int) < n := by omega
  have h1 : x.tmod n < n := Int.tmod_lt_of_pos x h0'
  have h2 : -(n : Int) < x.tmod n := by
    have := Int.tmod_eq_emod (a := x) (b := n)
    have hc := Int.emod_nonneg x (Int.ne_of_gt h0')
    split at this <;> omega
  have hm := Int.emod_nonneg x (Int.ne_of_gt h0')
  have hW : ((within x n : Nat) : Int) = x % n := by unfold within; omega
  clear hm
  rw [hW]
  clear hW
  go_enter Try.func15, Try.ntmps15
  go_wp2
  · go_ret
    exact ⟨ret_int (emod_neg_ x n (by assumption) h0'), rfl⟩
  · go_ret
    exact ⟨ret_int (emod_pos_ x n (by omega) h0'), rfl⟩
end Go.Proofs.Ytkgenkkcgegcbaa
namespace Go.Proofs.Ytkgenkkcgegcbaa
open Go.RowKit
attribute [local go_sem] ev_tmp ev_const ev_func ev_global lk_hit lk_miss uponK_value uponK_skip look_tmp look_const look_global look_func
def fr0 : Frm := ⟨1, 3, 5, 0, z32, []⟩
def sK : Ses := ⟨3, 5, z32, List.replicate 5 0, List.replicate 5 false⟩
theorem fr0_m (w : World) : FrmM w fr0 (.slice none 0 0) := ⟨by show I64 1; unfold I64; omega, by show I64 3; unfold I64; omega, by show I64 5; unfold I64; omega, by show I64 0; unfold I64; omega, z32_len, SlB.nil w⟩
theorem begin_fr0 : beginS fr0 = sK ∧ beginE fr0 = 0 := ⟨by unfold beginS; rw [if_neg (show ¬ badF fr0 by unfold badF; decide)]; rfl, by decide⟩
theorem frmV_one (f : Frm) (D : Value) (hD : D.oneCell' = true) : (frmV f D).toArray.all (·.oneCell') = true := by
  simp only [frmV, List.all_toArray, List.all_append, List.all_cons, List.all_nil, hD, Bool.and_true]
  simp [bv, Value.oneCell']
theorem sizeZF (f : Frm) (D : Value) (h : f.sum.length = 32) : zFrm.toArray.size = (frmV f D).toArray.size := by simp [zFrm, length_frmV zeroFrm _ z32_len, length_frmV f D h]
def KnownP (w : World) (e : Ending) (w' : World) : Prop := e = .returned (.bool true) ∧ Below w.heap.size w w'
set_option maxRecDepth 100000 in
set_option maxHeartbeats 1000000 in
theorem known17_any (w : World) : Calls Try.prog 7 #[] w (KnownP w) := by
  refine calls_kw Try.func7 rfl Try.ntmps7 rfl [] rfl ?_
  repeat (first | refine kw_seq ?_ | refine kw_block ?_ | refine kw_skip ?_ | refine kw_region ?_ | refine kl_nil ?_ | refine kq_then ?_ | refine kq_block ?_ | refine kw_exit ?_ | refine kq_then_exit ?_ | refine kq_block_here rfl ?_ | refine kq_block_far rfl ?_ | refine kq_again_exit ?_ | refine kw_ret ?_ | refine kq_then_ret ?_ | refine kq_block_ret ?_ | refine kq_again_ret ?_ | refine kw_ift rfl ?_ | refine kw_iff rfl ?_ | refine kl_ung rfl rfl ?_ | refine kl_skipg rfl rfl rfl rfl ?_ | refine kl_skipg0 rfl rfl rfl ?_ | (first | refine kl_move rfl rfl (.inl rfl) rfl rfl ?_ | refine kl_move rfl rfl (.inr rfl) rfl rfl ?_ | refine kl_const rfl rfl (.inl rfl) rfl ?_ | refine kl_const rfl rfl (.inr rfl) rfl ?_) | ((first | refine kl_step rfl rfl rfl fun K hK => ?_ | refine kl_step0 rfl rfl rfl fun K hK => ?_); go_simp; (try go_bits); (first | refine hK _ _ ?_ | refine hK _ ?_); clear hK K))
  refine kl_call rfl rfl rfl Try.func9 rfl (by kernel_rfl) rfl ?_
  refine Calls.mono (begin_any fr0 (.slice none 0 0) w (fr0_m w)) ?_
  rintro e w1 ⟨D, G, rfl, hM, hb1, _⟩
  rw [begin_fr0.1, begin_fr0.2]
  rw [begin_fr0.1] at hM
  refine ⟨_, rfl, ?_⟩
  have HS : Hid (sK.sum.length = 32) := z32_len
  have HM := Lib.hid hM
  clear hM
  repeat (first | refine kw_seq ?_ | refine kw_block ?_ | refine kw_skip ?_ | refine kw_region ?_ | refine kl_nil ?_ | refine kq_then ?_ | refine kq_block ?_ | refine kw_exit ?_ | refine kq_then_exit ?_ | refine kq_block_here rfl ?_ | refine kq_block_far rfl ?_ | refine kq_again_exit ?_ | refine kw_ret ?_ | refine kq_then_ret ?_ | refine kq_block_ret ?_ | refine kq_again_ret ?_ | refine kw_ift rfl ?_ | refine kw_iff rfl ?_ | refine kl_ung rfl rfl ?_ | refine kl_skipg rfl rfl rfl rfl ?_ | refine kl_skipg0 rfl rfl rfl ?_ | (first | refine kl_move rfl rfl (.inl rfl) rfl rfl ?_ | refine kl_move rfl rfl (.inr rfl) rfl rfl ?_ | refine kl_const rfl rfl (.inl rfl) rfl ?_ | refine kl_const rfl rfl (.inr rfl) rfl ?_) | ((first | refine kl_step rfl rfl rfl fun K hK => ?_ | refine kl_step0 rfl rfl rfl fun K hK => ?_); go_simp; (try go_bits); (first | refine hK _ _ ?_ | refine hK _ ?_); clear hK K))
  refine kl_var_row (d := 1) (y := 8) sesZero (infoS sK D G HS.out) (sizeZ sK D G HS.out) (sesV_one _ _ _ HM.out.data.one HM.out.got.one) rfl rfl rfl rfl rfl rfl rfl rfl rfl ?_
  obtain ⟨w2, hw2⟩ : ∃ w2, w2 = w1.alloc (.cells (sesV sK D G).toArray 32) := ⟨_, rfl⟩
  have hbw2 : Below w1.heap.size w1 w2 := by rw [hw2]; exact (Below.refl _ _).alloc (Nat.le_refl _) _
  have h2 : w2.heap[w1.heap.size]? = some (.cells (sesV sK D G).toArray 32 (0, 0)) := by rw [hw2]; exact heap_alloc_new _ _
  have sw2 : w2.heap.size = w1.heap.size + 1 := by rw [hw2]; simp
  rw [← hw2]
  clear hw2
  obtain ⟨g2, hg2⟩ : ∃ g, w1.heap.size = g := ⟨_, rfl⟩
  rw [hg2] at h2
  have H2 := Lib.hid h2
  rw [hg2]
  have hb := below_two hb1 hbw2
  have HM := Lib.hid (HM.out.keep (.of_below hbw2))
  clear hg2 h2 sw2 hb1 hbw2
  repeat (first | refine kw_seq ?_ | refine kw_skip ?_ | refine kw_region ?_ | refine kl_nil ?_ | refine kq_then ?_ | refine kq_block ?_ | refine kw_exit ?_ | refine kq_then_exit ?_ | refine kq_block_here rfl ?_ | refine kq_block_far rfl ?_ | refine kq_again_exit ?_ | refine kw_ret ?_ | refine kq_then_ret ?_ | refine kq_block_ret ?_ | refine kq_again_ret ?_ | refine kw_ift rfl ?_ | refine kw_iff rfl ?_ | refine kl_ung rfl rfl ?_ | refine kl_skipg rfl rfl rfl rfl ?_ | refine kl_skipg0 rfl rfl rfl ?_ | (first | refine kl_move rfl rfl (.inl rfl) rfl rfl ?_ | refine kl_move rfl rfl (.inr rfl) rfl rfl ?_ | refine kl_const rfl rfl (.inl rfl) rfl ?_ | refine kl_const rfl rfl (.inr rfl) rfl ?_))
  refine kl_load_row 32 g2 _ _ _ _ H2.out Try.underlying32 rfl (infoS sK _ _ HS.out) rfl rfl rfl rfl rfl ?_
  refine kl_call rfl rfl rfl Try.func21 rfl (by kernel_rfl) rfl ?_
  refine Calls.mono (whole_any sK D G _ HM.out (by decide) (by decide)) ?_
  rintro e w3 ⟨V, rfl, hV, hb3⟩
  rw [show wholeE sK = 25 by decide]
  refine ⟨_, rfl, ?_⟩
  have hb := below_then hb hb3 hb.size
  have H2 := Lib.hid (below_atK hb3 H2.out)
  have HM := Lib.hid (HM.out.keep (.of_below hb3))
  clear hb3 hV
  repeat (first | refine kw_seq ?_ | refine kw_block ?_ | refine kw_skip ?_ | refine kw_region ?_ | refine kl_nil ?_ | refine kq_then ?_ | refine kq_block ?_ | refine kw_exit ?_ | refine kq_then_exit ?_ | refine kq_block_here rfl ?_ | refine kq_block_far rfl ?_ | refine kq_again_exit ?_ | refine kw_ret ?_ | refine kq_then_ret ?_ | refine kq_block_ret ?_ | refine kq_again_ret ?_ | refine kw_ift rfl ?_ | refine kw_iff rfl ?_ | refine kl_ung rfl rfl ?_ | refine kl_skipg rfl rfl rfl rfl ?_ | refine kl_skipg0 rfl rfl rfl ?_ | refine kl_load_row 32 g2 _ _ _ _ H2.out Try.underlying32 rfl (infoS sK _ _ HS.out) rfl rfl rfl rfl rfl ?_ | (first | refine kl_move rfl rfl (.inl rfl) rfl rfl ?_ | refine kl_move rfl rfl (.inr rfl) rfl rfl ?_ | refine kl_const rfl rfl (.inl rfl) rfl ?_ | refine kl_const rfl rfl (.inr rfl) rfl ?_) | ((first | refine kl_step rfl rfl rfl fun K hK => ?_ | refine kl_step0 rfl rfl rfl fun K hK => ?_); go_simp; (try go_bits); (first | refine hK _ _ ?_ | refine hK _ ?_); clear hK K))
  refine kl_call rfl rfl rfl Try.func19 rfl (by kernel_rfl) rfl ?_
  refine Calls.mono (left_any sK D G _ HM.out (by decide)) ?_
  rintro e w4 ⟨rfl, hb4⟩
  rw [show cnt false sK.got = 5 by decide]
  refine ⟨_, rfl, ?_⟩
  have hb := below_then hb hb4 hb.size
  repeat (first | refine kw_seq ?_ | refine kw_block ?_ | refine kw_skip ?_ | refine kw_region ?_ | refine kl_nil ?_ | refine kq_then ?_ | refine kq_block ?_ | refine kw_exit ?_ | refine kq_then_exit ?_ | refine kq_block_here rfl ?_ | refine kq_block_far rfl ?_ | refine kq_again_exit ?_ | refine kw_ret ?_ | refine kq_then_ret ?_ | refine kq_block_ret ?_ | refine kq_again_ret ?_ | refine kw_ift rfl ?_ | refine kw_iff rfl ?_ | refine kl_ung rfl rfl ?_ | refine kl_skipg rfl rfl rfl rfl ?_ | refine kl_skipg0 rfl rfl rfl ?_ | (first | refine kl_move rfl rfl (.inl rfl) rfl rfl ?_ | refine kl_move rfl rfl (.inr rfl) rfl rfl ?_ | refine kl_const rfl rfl (.inl rfl) rfl ?_ | refine kl_const rfl rfl (.inr rfl) rfl ?_) | ((first | refine kl_step rfl rfl rfl fun K hK => ?_ | refine kl_step0 rfl rfl rfl fun K hK => ?_); go_simp; (try go_bits); (first | refine hK _ _ ?_ | refine hK _ ?_); clear hK K))
  exact kq_ret1 rfl rfl ⟨rfl, hb⟩
end Go.Proofs.Ytkgenkkcgegcbaa
namespace Go.Proofs.Ytkgenkkcgegcbaa
open Go.RowKit
attribute [local go_sem] ev_tmp ev_const ev_func ev_global lk_hit lk_miss uponK_value uponK_skip look_tmp look_const look_global look_func valP_value
def ParseP (b : List UInt8) (w : World) (e : Ending) (w' : World) : Prop := ∃ D, e = .returned (.tuple #[.agg (frmV (parseF b).1 D).toArray, .int .i64 (parseF b).2]) ∧ FrmM w' (parseF b).1 D ∧ Below w.heap.size w w'
theorem zeroFrm_m (w : World) : FrmM w zeroFrm (.slice none 0 0) := ⟨by show I64 0; unfold I64; omega, by show I64 0; unfold I64; omega, by show I64 0; unfold I64; omega, by show I64 0; unfold I64; omega, z32_len, SlB.nil w⟩
theorem FrmM.row {w : World} {f : Frm} {D : Value} (h : FrmM w f D) {g : Nat} (hp : ∀ b o n c, D = .slice (some ⟨b, o, none⟩) n c → b ≠ g) (cs : Array Value) : FrmM (w.setRow g cs) f D := ⟨h.kind, h.id, h.size, h.at_, h.sum, h.data.row hp cs⟩
theorem frm_zero_built : Try.prog.built 29 [] = some zFrm.toArray := by
  obtain ⟨fs, hu, hp⟩ := frmUnder
  rw [built_struct frmZero hu hp, fill_nil]
theorem frm_kind_built (K : Int) : Try.prog.built 29 [(0, .int .i64 K)] = some (frmV ⟨K, 0, 0, 0, z32, []⟩ (.slice none 0 0)).toArray := by
  obtain ⟨fs, hu, hp⟩ := frmUnder
  rw [built_struct frmZero hu hp]
  have hz : zFrm.length = 37 := length_frmV _ _ z32_len
  have h1 := fill_step ([(0, 1), (1, 1), (2, 1), (3, 1), (4, 32), (36, 1)].toArray[·]?) [] zFrm 0 _ _ (cells_int .i64 K) rfl (by simp [hz])
  simp only [List.nil_append] at h1
  rw [h1, fill_nil]
  rfl
theorem readerZero : (Try.prog.info? 92).bind (·.zero) = some (.agg #[.pointer none]) := by kernel_rfl
theorem readerSize : (Try.prog.info? 92).map (·.size) = some 1 := by kernel_rfl
set_option maxRecDepth 100000 in
set_option maxHeartbeats 1000000 in
theorem parse_fin {w W : World} {g2 g7 g8 g : Nat} {F : Frm} {D : Value} {l b : List UInt8} {e : Int} (hB : w.heap.size ≤ g) (hR : Rd true w W [(g8, (frmV F D).toArray, 29), (g7, #[.pointer (some ⟨g, 0, none⟩)], 92), (g2, zFrm.toArray, 29)] g l e) (hM : FrmM W F D) (hDn : ∀ b o n c, D = .slice (some ⟨b, o, none⟩) n c → b ≠ g2) (hp : parseF b = finF F (ended l e)) :
    KW Try.prog (restAt Try.f26 16) (bodyPost Try.prog Try.f26 (ParseP b w)) 90 [(2, .pointer (some ⟨g2, 0, none⟩)), (7, .pointer (some ⟨g7, 0, none⟩)), (8, .pointer (some ⟨g8, 0, none⟩))] W := by
  conv => arg 2; whnf
  have HS := Lib.hid hM.sum
  have HP := Lib.hid hp
  have HDN := Lib.hid hDn
  obtain ⟨AD, nD, cD, rfl, hBD, hnD, hcD⟩ := hM.data
  have HM := Lib.hid hM
  have HND := Lib.hid hBD.len
  have c7 := hR.get (j := 0) (cs := [.pointer (some ⟨g, 0, none⟩)]) 1 rfl rfl
  clear hp hDn hM hBD
  repeat (first | refine kw_seq ?_ | refine kw_block ?_ | refine kw_skip ?_ | refine kw_region ?_ | refine kl_nil ?_ | refine kq_then ?_ | refine kq_block ?_ | refine kw_exit ?_ | refine kq_then_exit ?_ | refine kq_block_here rfl ?_ | refine kq_block_far rfl ?_ | refine kq_again_exit ?_ | refine kw_ret ?_ | refine kq_then_ret ?_ | refine kq_block_ret ?_ | refine kq_again_ret ?_ | refine kw_ift rfl ?_ | refine kw_iff rfl ?_ | refine kl_ung rfl rfl ?_ | refine kl_skipg rfl rfl rfl rfl ?_ | refine kl_skipg0 rfl rfl rfl ?_ | (first | refine kl_move rfl rfl (.inl rfl) rfl rfl ?_ | refine kl_move rfl rfl (.inr rfl) rfl rfl ?_ | refine kl_const rfl rfl (.inl rfl) rfl ?_ | refine kl_const rfl rfl (.inr rfl) rfl ?_) | ((first | refine kl_step rfl rfl rfl fun K hK => ?_ | refine kl_step0 rfl rfl rfl fun K hK => ?_); go_simp; (try go_bits); (first | refine hK _ _ ?_ | refine hK _ ?_); clear hK K))
  refine kl_call rfl rfl rfl Try.func51 rfl (by kernel_rfl) rfl ?_
  refine Calls.mono (rdEnd hR) ?_
  rintro e w2 ⟨rfl, hR2, hb2⟩
  have hL := hR2.lay hB
  have HM := Lib.hid (HM.out.keep (.of_below hb2))
  clear hb2
  refine ⟨_, rfl, ?_⟩
  obtain ⟨E, hE⟩ : ∃ E, ended l e = E := ⟨_, rfl⟩
  rw [hE] at HP ⊢
  clear hE c7
  by_cases e0 : E = 0
  · subst e0
    have t1 : ((0 : Int) == 0) = true := rfl
    have c8 := hL.get 0 rfl (frm_36 F (.slice AD nD cD) HS.out)
    by_cases h64 : 64 < nD
    · have t2 : decide ((64 : Int) < (nD : Int)) = true := by rw [decide_eq_true_eq]; omega
      have t3 : decide (64 < nD) = true := by rw [decide_eq_true_eq]; omega
      have hf : finF F 0 = (zeroFrm, 5) := by unfold finF; rw [HND.out, if_neg (by omega), if_pos rfl]
      have HF := Lib.hid (HP.out.trans hf)
      clear hf h64
      repeat (first | refine kw_seq ?_ | refine kw_block ?_ | refine kw_skip ?_ | refine kw_region ?_ | refine kl_nil ?_ | refine kq_then ?_ | refine kq_block ?_ | refine kw_exit ?_ | refine kq_then_exit ?_ | refine kq_block_here rfl ?_ | refine kq_block_far rfl ?_ | refine kq_again_exit ?_ | refine kw_ret ?_ | refine kq_then_ret ?_ | refine kq_block_ret ?_ | refine kq_again_ret ?_ | refine kw_ift rfl ?_ | refine kw_iff rfl ?_ | refine kl_ung rfl rfl ?_ | refine kl_skipg rfl rfl rfl rfl ?_ | refine kl_skipg0 rfl rfl rfl ?_ | refine kl_build 29 _ zFrm.toArray rfl rfl rfl (by rfl) (by rfl) frm_zero_built ?_ | refine kl_putL (cells := zFrm.toArray) hL 2 rfl (infoF zeroFrm _ z32_len) rfl (frmV_one zeroFrm _ rfl) rfl rfl rfl rfl rfl (fun hL2 => ?_) | (first | refine kl_move rfl rfl (.inl rfl) rfl rfl ?_ | refine kl_move rfl rfl (.inr rfl) rfl rfl ?_ | refine kl_const rfl rfl (.inl rfl) rfl ?_ | refine kl_const rfl rfl (.inr rfl) rfl ?_) | ((first | refine kl_step rfl rfl rfl fun K hK => ?_ | refine kl_step0 rfl rfl rfl fun K hK => ?_); go_simp; (try go_bits); (first | refine hK _ _ ?_ | refine hK _ ?_); clear hK K))
      refine kq_retv (v := .tuple #[.agg zFrm.toArray, .int .i64 5]) (fun a k => results_row_tmp rfl _ _ g2 29 zFrm.toArray (0, 0) _ _ (k.slot 2 rfl) (k.slot 3 rfl) (hL2.at_ 2 rfl) Try.underlying29 rfl (infoF zeroFrm _ z32_len)) ?_
      refine ⟨.slice none 0 0, ?_⟩
      rw [HF.out]
      exact ⟨rfl, zeroFrm_m _, hL2.below⟩
    · have t3 : decide (64 < nD) = false := by rw [decide_eq_false_iff_not]; omega
      have hf : finF F 0 = (F, 0) := by unfold finF; rw [HND.out, if_pos ⟨rfl, h64⟩]
      have HF := Lib.hid (HP.out.trans hf)
      have t2 : decide ((64 : Int) < (nD : Int)) = false := by rw [decide_eq_false_iff_not]; omega
      clear hf h64
      repeat (first | refine kw_seq ?_ | refine kw_block ?_ | refine kw_skip ?_ | refine kw_region ?_ | refine kl_nil ?_ | refine kq_then ?_ | refine kq_block ?_ | refine kw_exit ?_ | refine kq_then_exit ?_ | refine kq_block_here rfl ?_ | refine kq_block_far rfl ?_ | refine kq_again_exit ?_ | refine kw_ret ?_ | refine kq_then_ret ?_ | refine kq_block_ret ?_ | refine kq_again_ret ?_ | refine kw_ift rfl ?_ | refine kw_iff rfl ?_ | refine kl_ung rfl rfl ?_ | refine kl_skipg rfl rfl rfl rfl ?_ | refine kl_skipg0 rfl rfl rfl ?_ | refine kl_getL hL 0 rfl Try.underlying29 rfl (infoF F _ HS.out) rfl rfl rfl rfl rfl ?_ | refine kl_putL (cells := (frmV F (.slice AD nD cD)).toArray) hL 2 rfl (infoF F _ HS.out) (sizeZF F _ HS.out) (frmV_one F _ rfl) rfl rfl rfl rfl rfl (fun hL2 => ?_) | (first | refine kl_move rfl rfl (.inl rfl) rfl rfl ?_ | refine kl_move rfl rfl (.inr rfl) rfl rfl ?_ | refine kl_const rfl rfl (.inl rfl) rfl ?_ | refine kl_const rfl rfl (.inr rfl) rfl ?_) | ((first | refine kl_step rfl rfl rfl fun K hK => ?_ | refine kl_step0 rfl rfl rfl fun K hK => ?_); go_simp; (try go_bits); (first | refine hK _ _ ?_ | refine hK _ ?_); clear hK K))
      have HM2 := HM.out.row HDN.out (frmV F (.slice AD nD cD)).toArray
      refine kq_retv (v := .tuple #[.agg (frmV F (.slice AD nD cD)).toArray, .int .i64 0]) (fun a k => results_row_tmp rfl _ _ g2 29 (frmV F (.slice AD nD cD)).toArray (0, 0) _ _ (k.slot 2 rfl) (k.slot 3 rfl) (hL2.at_ 2 rfl) Try.underlying29 rfl (infoF F _ HS.out)) ?_
      refine ⟨.slice AD nD cD, ?_⟩
      rw [HF.out]
      exact ⟨rfl, HM2, hL2.below⟩
  · have t1 : (E == 0) = false := by rw [beq_eq_false_iff_ne]; exact e0
    have t2 : (E != 0) = true := by rw [bne_iff_ne]; exact e0
    have hf : finF F E = (zeroFrm, E) := by unfold finF; rw [if_neg (by omega), if_neg e0]
    have HF := Lib.hid (HP.out.trans hf)
    clear hf e0
    repeat (first | refine kw_seq ?_ | refine kw_block ?_ | refine kw_skip ?_ | refine kw_region ?_ | refine kl_nil ?_ | refine kq_then ?_ | refine kq_block ?_ | refine kw_exit ?_ | refine kq_then_exit ?_ | refine kq_block_here rfl ?_ | refine kq_block_far rfl ?_ | refine kq_again_exit ?_ | refine kw_ret ?_ | refine kq_then_ret ?_ | refine kq_block_ret ?_ | refine kq_again_ret ?_ | refine kw_ift rfl ?_ | refine kw_iff rfl ?_ | refine kl_ung rfl rfl ?_ | refine kl_skipg rfl rfl rfl rfl ?_ | refine kl_skipg0 rfl rfl rfl ?_ | refine kl_build 29 _ zFrm.toArray rfl rfl rfl (by rfl) (by rfl) frm_zero_built ?_ | refine kl_putL (cells := zFrm.toArray) hL 2 rfl (infoF zeroFrm _ z32_len) rfl (frmV_one zeroFrm _ rfl) rfl rfl rfl rfl rfl (fun hL2 => ?_) | (first | refine kl_move rfl rfl (.inl rfl) rfl rfl ?_ | refine kl_move rfl rfl (.inr rfl) rfl rfl ?_ | refine kl_const rfl rfl (.inl rfl) rfl ?_ | refine kl_const rfl rfl (.inr rfl) rfl ?_) | ((first | refine kl_step rfl rfl rfl fun K hK => ?_ | refine kl_step0 rfl rfl rfl fun K hK => ?_); go_simp; (try go_bits); (first | refine hK _ _ ?_ | refine hK _ ?_); clear hK K))
    refine kq_retv (v := .tuple #[.agg zFrm.toArray, .int .i64 E]) (fun a k => results_row_tmp rfl _ _ g2 29 zFrm.toArray (0, 0) _ _ (k.slot 2 rfl) (k.slot 3 rfl) (hL2.at_ 2 rfl) Try.underlying29 rfl (infoF zeroFrm _ z32_len)) ?_
    refine ⟨.slice none 0 0, ?_⟩
    rw [HF.out]
    exact ⟨rfl, zeroFrm_m _, hL2.below⟩
end Go.Proofs.Ytkgenkkcgegcbaa
