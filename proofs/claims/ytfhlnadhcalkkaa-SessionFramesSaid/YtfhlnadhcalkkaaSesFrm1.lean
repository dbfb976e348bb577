/- SessionFrames: one row. -/
import Derived.Test.YtfhlnadhcalkkaaSeal
import Derived.Test.YtfhlnadhcalkkaaRegionS
import Derived.Test.YtfhlnadhcalkkaaKnOps
import Derived.Test.YtfhlnadhcalkkaaKnR
import Derived.Test.YtfhlnadhcalkkaaSesOrdK
namespace Go.Proofs.Ytfhlnadhcalkkaa
open Go.RowKit
attribute [local go_sem] ev_tmp ev_const ev_func ev_global lk_hit lk_miss uponK_value uponK_skip look_tmp look_const look_global look_func valP_value
theorem nf_kid (f : Frm) : (nf f).kind = f.kind ∧ (nf f).id = f.id := by
  unfold nf
  split
  · exact ⟨rfl, rfl⟩
  · split
    · exact ⟨rfl, rfl⟩
    · exact ⟨rfl, rfl⟩
def rowS (v : Bool) (x : List UInt8) : List UInt8 := if v then sealed x else x
set_option maxRecDepth 100000 in
set_option maxHeartbeats 2000000 in
theorem frames_row2 {w wr : World} {g6 g17 k i m c : Nat} {A : Option Addr} {V1 V2 V4 : Value} {z : Int} {v : Bool} {F : Frm} {D : Value} {y : List UInt8} {Q : Exit → Act → World → Prop} (hk : k ≤ 1) (hi : i < 4) (hL : Lay w wr [(g6, (frmV F D).toArray, 29)]) (hM : FrmM wr F D) (hB : Bs wr A m y) (hm : m ≤ 70000) (hmc : m ≤ c) (hc : c ≤ 9223372036854775807)
  (hp : k = 1 → i = 0 → parseF y = (nf F, 0))
  (hQ : ∀ w', Below wr.heap.size wr w' → KQ Q .normal 177 [(1, V1), (2, V2), (3, .int .i64 z), (4, V4), (5, .bool v), (6, .pointer (some ⟨g6, 0, none⟩)), (13, .int .i64 (k : Int)), (17, .slice (some ⟨g17, 0, none⟩) 4 4), (18, .int .i64 (i : Int))] w') :
    KW Try.prog (restAt Try.f4 28) Q 177 ((19, .slice A m c) :: [(1, V1), (2, V2), (3, .int .i64 z), (4, V4), (5, .bool v), (6, .pointer (some ⟨g6, 0, none⟩)), (13, .int .i64 (k : Int)), (17, .slice (some ⟨g17, 0, none⟩) 4 4), (18, .int .i64 (i : Int))]) wr := by
  conv => arg 2; whnf
  have HFS := Lib.hid hM.sum
  have HQ := Lib.hid hQ
  have HPP := Lib.hid hp
  have HM := Lib.hid hM
  clear hQ hp hM
  have hL0 := (Lay.start wr)
  repeat (first | refine kw_seq ?_ | refine kw_region ?_ | refine kl_nil ?_ | refine kq_then ?_ | (first | refine kl_move rfl rfl (.inl rfl) rfl rfl ?_ | refine kl_move rfl rfl (.inr rfl) rfl rfl ?_ | refine kl_const rfl rfl (.inl rfl) rfl ?_ | refine kl_const rfl rfl (.inr rfl) rfl ?_) | ((first | refine kl_step rfl rfl rfl fun K hK => ?_ | refine kl_step0 rfl rfl rfl fun K hK => ?_); go_simp; (try go_bits); (first | refine hK _ _ ?_ | refine hK _ ?_); clear hK K))
  refine kl_clone _ rfl A m c y hB (by omega) rfl rfl rfl rfl rfl rfl ?_
  intro v1 w1 hown hb
  obtain ⟨A1, c1, rfl, hB1, hc1, hc1'⟩ := own_B hown
  have hB := hB.keep (.of_below hb)
  have hL := hL.next hb
  have hbb := hb
  clear hown hb
  refine kl_call rfl rfl rfl Try.func27 rfl (by kernel_rfl) rfl ?_
  refine Calls.mono (parse_any A1 m c1 _ w1 hB1 (by omega) hc1 hc1') ?_
  rintro e w2 ⟨DP, rfl, hMP, hb⟩
  have hB := hB.keep (.of_below hb)
  have hL := hL.next hb
  have hbb := below_two hbb hb
  have HPS := Lib.hid hMP.sum
  clear hb hB1 hc1 hc1'
  refine ⟨_, rfl, ?_⟩
  repeat (first | refine kw_seq ?_ | refine kw_skip ?_ | refine kw_region ?_ | refine kl_nil ?_ | refine kq_then ?_ | refine kq_block ?_ | refine kw_exit ?_ | refine kq_then_exit ?_ | refine kq_block_here rfl ?_ | refine kq_block_far rfl ?_ | refine kq_again_exit ?_ | refine kw_ret ?_ | refine kq_then_ret ?_ | refine kq_block_ret ?_ | refine kq_again_ret ?_ | refine kw_ift rfl ?_ | refine kw_iff rfl ?_ | refine kl_ung rfl rfl ?_ | refine kl_skipg rfl rfl rfl rfl ?_ | refine kl_skipg0 rfl rfl rfl ?_ | (first | refine kl_move rfl rfl (.inl rfl) rfl rfl ?_ | refine kl_move rfl rfl (.inr rfl) rfl rfl ?_ | refine kl_const rfl rfl (.inl rfl) rfl ?_ | refine kl_const rfl rfl (.inr rfl) rfl ?_) | ((first | refine kl_step rfl rfl rfl fun K hK => ?_ | refine kl_step0 rfl rfl rfl fun K hK => ?_); go_simp; (try go_bits); (first | refine hK _ _ ?_ | refine hK _ ?_); clear hK K))
  refine kl_varL (d := 20) (y := 132) (cells := (frmV (parseF y).1 DP).toArray) hL frmZero (infoF _ _ HPS.out) (sizeZF _ _ HPS.out) (frmV_one _ _ hMP.data.one) rfl rfl rfl rfl rfl rfl rfl rfl rfl ?_
  intro g20 w3 eg hb hL
  have hB := hB.keep (.of_below hb)
  have hMP := hMP.keep (.of_below hb)
  have hbb := below_two hbb hb
  have HMP := Lib.hid hMP
  clear eg hb hMP
  repeat (first | refine kw_seq ?_ | refine kw_skip ?_ | refine kw_region ?_ | refine kl_nil ?_ | refine kq_then ?_ | refine kq_block ?_ | refine kw_exit ?_ | refine kq_then_exit ?_ | refine kq_block_here rfl ?_ | refine kq_block_far rfl ?_ | refine kq_again_exit ?_ | refine kw_ret ?_ | refine kq_then_ret ?_ | refine kq_block_ret ?_ | refine kq_again_ret ?_ | refine kw_ift rfl ?_ | refine kw_iff rfl ?_ | refine kl_ung rfl rfl ?_ | refine kl_skipg rfl rfl rfl rfl ?_ | refine kl_skipg0 rfl rfl rfl ?_ | (first | refine kl_move rfl rfl (.inl rfl) rfl rfl ?_ | refine kl_move rfl rfl (.inr rfl) rfl rfl ?_ | refine kl_const rfl rfl (.inl rfl) rfl ?_ | refine kl_const rfl rfl (.inr rfl) rfl ?_) | ((first | refine kl_step rfl rfl rfl fun K hK => ?_ | refine kl_step0 rfl rfl rfl fun K hK => ?_); go_simp; (try go_bits); (first | refine hK _ _ ?_ | refine hK _ ?_); clear hK K))
  refine kl_call rfl rfl rfl Try.func28 rfl (by kernel_rfl) rfl ?_
  refine Calls.mono (rparse_any A m c _ w3 hB (by omega) hmc hc) ?_
  rintro e w4 ⟨DR, rfl, hMR, hb⟩
  have hL := hL.next hb
  have HMP := Lib.hid (HMP.out.keep (.of_below hb))
  have hbb := below_two hbb hb
  clear hb hB
  refine ⟨_, rfl, ?_⟩
  repeat (first | refine kw_seq ?_ | refine kw_skip ?_ | refine kw_region ?_ | refine kl_nil ?_ | refine kq_then ?_ | refine kq_block ?_ | refine kw_exit ?_ | refine kq_then_exit ?_ | refine kq_block_here rfl ?_ | refine kq_block_far rfl ?_ | refine kq_again_exit ?_ | refine kw_ret ?_ | refine kq_then_ret ?_ | refine kq_block_ret ?_ | refine kq_again_ret ?_ | refine kw_ift rfl ?_ | refine kw_iff rfl ?_ | refine kl_ung rfl rfl ?_ | refine kl_skipg rfl rfl rfl rfl ?_ | refine kl_skipg0 rfl rfl rfl ?_ | (first | refine kl_move rfl rfl (.inl rfl) rfl rfl ?_ | refine kl_move rfl rfl (.inr rfl) rfl rfl ?_ | refine kl_const rfl rfl (.inl rfl) rfl ?_ | refine kl_const rfl rfl (.inr rfl) rfl ?_) | ((first | refine kl_step rfl rfl rfl fun K hK => ?_ | refine kl_step0 rfl rfl rfl fun K hK => ?_); go_simp; (try go_bits); (first | refine hK _ _ ?_ | refine hK _ ?_); clear hK K))
  refine kl_varL (d := 22) (y := 137) (cells := (frmV (parseF y).1 DR).toArray) hL rfrmZero (rinfoF _ _ HPS.out) (sizeZF _ _ HPS.out) (frmV_one _ _ hMR.data.one) rfl rfl rfl rfl rfl rfl rfl rfl rfl ?_
  intro g22 w5 eg hb hL
  have HMP := Lib.hid (HMP.out.keep (.of_below hb))
  have HMR := Lib.hid (hMR.keep (.of_below hb))
  have hbb := below_two hbb hb
  have HBB := Lib.hid hbb
  clear eg hb hMR hbb
  repeat (first | (first | refine kl_move rfl rfl (.inl rfl) rfl rfl ?_ | refine kl_move rfl rfl (.inr rfl) rfl rfl ?_ | refine kl_const rfl rfl (.inl rfl) rfl ?_ | refine kl_const rfl rfl (.inr rfl) rfl ?_) | ((first | refine kl_step rfl rfl rfl fun K hK => ?_ | refine kl_step0 rfl rfl rfl fun K hK => ?_); go_simp; (try go_bits); (first | refine hK _ _ ?_ | refine hK _ ?_); clear hK K))
  refine kl_nil ?_
  refine kq_then ?_
  obtain ⟨X, E, hXE⟩ : ∃ X E, parseF y = (X, E) := ⟨_, _, rfl⟩
  have HXE := Lib.hid hXE
  rw [hXE] at HPS HMP HMR hL ⊢
  simp only at HPS HMP HMR hL ⊢
  have u0 : (E != E) = false := by simp
  clear hXE hL0
  have r20 : ∀ W, Keeps w5 W → W.rangeAt g20 0 (frmV X DP) := fun W h => rangeAt_keep (range_block (hL.at_ 1 rfl)) h
  have r22 : ∀ W, Keeps w5 W → W.rangeAt g22 0 (frmV X DR) := fun W h => rangeAt_keep (range_block (hL.at_ 0 rfl)) h
  have R20 := Lib.hid r20
  have R22 := Lib.hid r22
  clear r20 r22
  have key : ∀ (b1 b2 : Bool), ((k : Int) == 1) = b1 → ((i : Int) == 0) = b2 → (b1 = true → b2 = true → E = 0 ∧ X.kind = F.kind ∧ X.id = F.id) → KW Try.prog (restAt Try.f4 30) Q 177 [(5, .bool v), (20, .pointer (some ⟨g20, 0, none⟩)), (21, .int .i64 E), (22, .pointer (some ⟨g22, 0, none⟩)), (23, .int .i64 E), (1, V1), (2, V2), (3, .int .i64 z), (4, V4), (6, .pointer (some ⟨g6, 0, none⟩)), (13, .int .i64 (k : Int)), (17, .slice (some ⟨g17, 0, none⟩) 4 4), (18, .int .i64 (i : Int))] w5 := by
    intro b1 b2 hk1 hi0 hb12
    conv => arg 2; whnf
    have p0 : ∀ W, Keeps w5 W → _ := fun W (h : Keeps w5 W) => h _ _ (hL.get (j := 0) 1 rfl (frm_0 X DP))
    have p1 : ∀ W, Keeps w5 W → _ := fun W (h : Keeps w5 W) => h _ _ (hL.get (j := 1) 1 rfl (frm_1 X DP))
    have q0 : ∀ W, Keeps w5 W → _ := fun W (h : Keeps w5 W) => h _ _ (hL.get (j := 0) 2 rfl (frm_0 F D))
    have q1 : ∀ W, Keeps w5 W → _ := fun W (h : Keeps w5 W) => h _ _ (hL.get (j := 1) 2 rfl (frm_1 F D))
    have hcase : (b1 = false) ∨ (b1 = true ∧ b2 = false) ∨ (b1 = true ∧ b2 = true) := by cases b1 <;> cases b2 <;> simp
    have HB12 := Lib.hid hb12
    clear hb12
    refine kw_seq ?_
    refine kw_region_f (Keeps w5) [true, true, true, true, true, false, true, false, true, true, true, true, true, true, true, true, true, true, true, true, true, true, true, true, true, true, true, true, true, true, true, true, true, true, true, true] (by kernel_rfl) (by kernel_rfl) (.drew _) ?_
    repeat (first | refine kf_nil ?_ | refine kf_ung rfl rfl ?_ | refine kf_skipg rfl rfl rfl rfl ?_ | refine kf_load_mid (cs := frmV X DP) (b := g20) (off := 0) R20.out Try.underlying29 rfl (by rw [frmInfo, length_frmV _ _ HPS.out]) rfl rfl rfl rfl rfl ?_ | refine kf_load_mid (cs := frmV X DR) (b := g22) (off := 0) R22.out Try.underlying39 rfl (by rw [rfrmInfo, length_frmV _ _ HPS.out]) rfl rfl rfl rfl rfl ?_ | (first | refine kf_move rfl rfl (.inl rfl) rfl rfl ?_ | refine kf_move rfl rfl (.inr rfl) rfl rfl ?_ | refine kf_const rfl rfl (.inl rfl) rfl ?_ | refine kf_const rfl rfl (.inr rfl) rfl ?_) | (refine kf_val rfl rfl rfl ?_; apply Exists.intro; refine And.intro (fun W hW N hN => ?_) ?_; · (go_simp; (try go_bits); exact hN)))
    refine kf_ch ?_
    refine kl_call rfl rfl rfl Try.func12 rfl (by kernel_rfl) rfl ?_
    refine Calls.mono (of17_any X DP w5.drew (HMP.out.keep (.drew _))) ?_
    rintro e w6 ⟨rfl, hb⟩
    have hK6 : Keeps w5 w6 := (Keeps.drew w5).trans (.of_below hb)
    have hb6 : Below wr.heap.size wr w6 := below_two HBB.out ((Below.refl _ w5).drew.trans hb)
    clear hb
    refine ⟨_, rfl, ?_⟩
    refine kl_nil ?_
    refine kq_f hK6 ?_
    repeat (first | refine kf_nil ?_ | refine kf_ung rfl rfl ?_ | refine kf_skipg rfl rfl rfl rfl ?_ | refine kf_load_mid (cs := frmV X DP) (b := g20) (off := 0) R20.out Try.underlying29 rfl (by rw [frmInfo, length_frmV _ _ HPS.out]) rfl rfl rfl rfl rfl ?_ | refine kf_load_mid (cs := frmV X DR) (b := g22) (off := 0) R22.out Try.underlying39 rfl (by rw [rfrmInfo, length_frmV _ _ HPS.out]) rfl rfl rfl rfl rfl ?_ | (first | refine kf_move rfl rfl (.inl rfl) rfl rfl ?_ | refine kf_move rfl rfl (.inr rfl) rfl rfl ?_ | refine kf_const rfl rfl (.inl rfl) rfl ?_ | refine kf_const rfl rfl (.inr rfl) rfl ?_) | (refine kf_val rfl rfl rfl ?_; apply Exists.intro; refine And.intro (fun W hW N hN => ?_) ?_; · (go_simp; (try go_bits); exact hN)))
    refine kf_ch ?_
    refine kl_call rfl rfl rfl Try.func29 rfl (by kernel_rfl) rfl ?_
    refine Calls.mono (sameFrame_any X DP DR w6 (HMP.out.keep hK6) (HMR.out.keep hK6)) ?_
    rintro e w7 ⟨rfl, hb⟩
    have hK7 := hK6.trans (.of_below hb)
    have hb7 := Lib.hid (below_two hb6 hb)
    clear hb hb6 hK6
    refine ⟨_, rfl, ?_⟩
    refine kl_nil ?_
    refine kq_f hK7 ?_
    clear hK7
    rcases hcase with rfl | ⟨rfl, rfl⟩ | ⟨rfl, rfl⟩
    · repeat (first | refine kf_nil ?_ | refine kf_ung rfl rfl ?_ | refine kf_skipg rfl rfl rfl rfl ?_ | (first | refine kf_move rfl rfl (.inl rfl) rfl rfl ?_ | refine kf_move rfl rfl (.inr rfl) rfl rfl ?_ | refine kf_const rfl rfl (.inl rfl) rfl ?_ | refine kf_const rfl rfl (.inr rfl) rfl ?_) | (refine kf_val rfl rfl rfl ?_; apply Exists.intro; refine And.intro (fun W hW N hN => ?_) ?_; · (go_simp; (try go_bits); exact hN)))
      refine kq_then ?_
      refine kw_iff rfl ?_
      refine kw_skip ?_
      refine KQ.less [1, 2, 3, 4, 5, 6, 13, 17, 18] ?_
      simp only [nrm, lk, Nat.reduceBEq, cond_true, cond_false]
      exact HQ.out w7 hb7.out
    · repeat (first | refine kf_nil ?_ | refine kf_ung rfl rfl ?_ | refine kf_skipg rfl rfl rfl rfl ?_ | (first | refine kf_move rfl rfl (.inl rfl) rfl rfl ?_ | refine kf_move rfl rfl (.inr rfl) rfl rfl ?_ | refine kf_const rfl rfl (.inl rfl) rfl ?_ | refine kf_const rfl rfl (.inr rfl) rfl ?_) | (refine kf_val rfl rfl rfl ?_; apply Exists.intro; refine And.intro (fun W hW N hN => ?_) ?_; · (go_simp; (try go_bits); exact hN)))
      refine kq_then ?_
      refine kw_iff rfl ?_
      refine kw_skip ?_
      refine KQ.less [1, 2, 3, 4, 5, 6, 13, 17, 18] ?_
      simp only [nrm, lk, Nat.reduceBEq, cond_true, cond_false]
      exact HQ.out w7 hb7.out
    · obtain ⟨rfl, e2, e3⟩ := HB12.out rfl rfl
      rw [e2] at p0
      rw [e3] at p1
      have v0 : (F.kind != F.kind) = false := by simp
      have v1 : (F.id != F.id) = false := by simp
      clear e2 e3
      repeat (first | refine kf_nil ?_ | refine kf_ung rfl rfl ?_ | refine kf_skipg rfl rfl rfl rfl ?_ | (first | refine kf_move rfl rfl (.inl rfl) rfl rfl ?_ | refine kf_move rfl rfl (.inr rfl) rfl rfl ?_ | refine kf_const rfl rfl (.inl rfl) rfl ?_ | refine kf_const rfl rfl (.inr rfl) rfl ?_) | (refine kf_val rfl rfl rfl ?_; apply Exists.intro; refine And.intro (fun W hW N hN => ?_) ?_; · (go_simp; (try go_bits); exact hN)))
      refine kq_then ?_
      refine kw_iff rfl ?_
      refine kw_skip ?_
      refine KQ.less [1, 2, 3, 4, 5, 6, 13, 17, 18] ?_
      simp only [nrm, lk, Nat.reduceBEq, cond_true, cond_false]
      exact HQ.out w7 hb7.out
  refine KW.less [5, 20, 21, 22, 23, 1, 2, 3, 4, 6, 13, 17, 18] ?_
  simp only [nrm, lk, Nat.reduceBEq, cond_true, cond_false]
  refine key _ _ rfl rfl (fun h1 h2 => ?_)
  rw [beq_iff_eq] at h1 h2
  have h3 := HPP.out (by omega) (by omega)
  rw [HXE.out] at h3
  injection h3 with h4 h5
  subst h4
  exact ⟨h5, nf_kid F⟩
end Go.Proofs.Ytfhlnadhcalkkaa
