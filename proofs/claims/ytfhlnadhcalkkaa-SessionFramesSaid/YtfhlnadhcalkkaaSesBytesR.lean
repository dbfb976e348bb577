/- The document's Bytes (chapter 17). -/
import Derived.Test.YtfhlnadhcalkkaaSesBytes
import Derived.Test.YtfhlnadhcalkkaaKnOps
import Derived.Test.YtfhlnadhcalkkaaRefOpen
namespace Go.Proofs.Ytfhlnadhcalkkaa
open Go.RowKit
attribute [local go_sem] ev_tmp ev_const ev_func ev_global lk_hit lk_miss uponK_value uponK_skip look_tmp look_const look_global look_func valP_value
theorem refInt_O {w0 w : World} (hb : Below w0.heap.size w0 w) (v0 : Value) (n : Nat) (l : List UInt8) (x : Int) (hown : w.ownsRow w0.heap.size 5 1 v0 n (bv l)) (hn : n ≤ 1099511627776) (hx : I64 x) :
    Calls Try.prog 43 #[v0, .int .i64 x] w fun e w' => ∃ v, e = .returned v ∧ w'.ownsRow w0.heap.size 5 1 v (n + 8) (bv (l ++ le8 x)) ∧ Below w0.heap.size w0 w' :=
  Calls.mono (refInt_any v0 n l x w w0.heap.size hown hb.size hn hx) fun e w' ⟨v, he, hO⟩ => ⟨v, he, hO.now, below_append hb hO.grown hown hb.size⟩
theorem refText_O {w0 w : World} (hb : Below w0.heap.size w0 w) (v0 : Value) (n : Nat) (l s : List UInt8) (hown : w.ownsRow w0.heap.size 5 1 v0 n (bv l)) (hn : n ≤ 1099511627776) (hs : s.length ≤ 1099511627776) :
    Calls Try.prog 44 #[v0, .string ⟨s.toArray⟩] w fun e w' => ∃ v, e = .returned v ∧ w'.ownsRow w0.heap.size 5 1 v (n + (textBytes s).length) (bv (l ++ textBytes s)) ∧ Below w0.heap.size w0 w' :=
  Calls.mono (refText_any v0 n l s w w0.heap.size hown hb.size hn hs) fun e w' ⟨v, he, hO⟩ => ⟨v, he, hO.now, below_append hb hO.grown hown hb.size⟩
set_option maxRecDepth 100000 in
set_option maxHeartbeats 1000000 in
theorem refBytes17_any (f : Frm) (D : Value) (w : World) (hM : FrmM w f D) (hd : f.data.length ≤ 60000) :
    Calls Try.prog 25 #[.agg (frmV f D).toArray] w (BytesP (frameBytes f) w) := by
  have HD := Lib.hid hd
  have HS := Lib.hid hM.sum
  have hik := hM.kind
  have hii := hM.id
  have his := hM.size
  have hia := hM.at_
  obtain ⟨AD, nD, cD, rfl, hBD, _, _⟩ := hM.data
  refine calls_kw Try.func25 rfl Try.ntmps25 rfl [(0, .agg (frmV f (.slice AD nD cD)).toArray)] rfl ?_
  refine kw_seq ?_
  refine kw_region ?_
  refine kl_boxL (Lay.start w) rfl rfl rfl rfl rfl ?_
  intro g1 w1 eg1 hb1 hL
  replace hBD := hBD.keep (.of_below hb1)
  clear eg1 hb1 hM hd
  repeat (first | refine kw_seq ?_ | refine kw_block ?_ | refine kw_skip ?_ | refine kw_region ?_ | refine kl_nil ?_ | refine kq_then ?_ | refine kq_block ?_ | refine kw_exit ?_ | refine kq_then_exit ?_ | refine kq_block_here rfl ?_ | refine kq_block_far rfl ?_ | refine kq_again_exit ?_ | refine kw_ret ?_ | refine kq_then_ret ?_ | refine kq_block_ret ?_ | refine kq_again_ret ?_ | refine kw_ift rfl ?_ | refine kw_iff rfl ?_ | refine kl_ung rfl rfl ?_ | refine kl_skipg rfl rfl rfl rfl ?_ | refine kl_skipg0 rfl rfl rfl ?_ | (first | refine kl_move rfl rfl (.inl rfl) rfl rfl ?_ | refine kl_move rfl rfl (.inr rfl) rfl rfl ?_ | refine kl_const rfl rfl (.inl rfl) rfl ?_ | refine kl_const rfl rfl (.inr rfl) rfl ?_) | ((first | refine kl_step rfl rfl rfl fun K hK => ?_ | refine kl_step0 rfl rfl rfl fun K hK => ?_); go_simp; (try go_bits); (first | refine hK _ _ ?_ | refine hK _ ?_); clear hK K))
  have c0 : ∀ W, Below w1.heap.size w1 W → _ := fun W (h : Below w1.heap.size w1 W) => Keeps.of_below h _ _ (hL.get 0 rfl (frm_0 f _))
  have c1 : ∀ W, Below w1.heap.size w1 W → _ := fun W (h : Below w1.heap.size w1 W) => Keeps.of_below h _ _ (hL.get 0 rfl (frm_1 f _))
  refine kw_region_f (Below w1.heap.size w1) [true, true, false, true, true, false, true] (by kernel_rfl) (by kernel_rfl) (Below.refl _ _).drew ?_
  have hR : Below w1.heap.size w1 w1.drew := (Below.refl _ _).drew
  generalize w1.drew = w2 at hR ⊢
  repeat (first | refine kf_nil ?_ | refine kf_ung rfl rfl ?_ | refine kf_skipg rfl rfl rfl rfl ?_ | (first | refine kf_move rfl rfl (.inl rfl) rfl rfl ?_ | refine kf_move rfl rfl (.inr rfl) rfl rfl ?_ | refine kf_const rfl rfl (.inl rfl) rfl ?_ | refine kf_const rfl rfl (.inr rfl) rfl ?_) | (refine kf_val rfl rfl rfl ?_; apply Exists.intro; refine And.intro (fun W hW N hN => ?_) ?_; · (go_simp; (try go_bits); exact hN)))
  refine kf_ch ?_
  refine kl_call rfl rfl rfl Try.func43 rfl (by kernel_rfl) rfl ?_
  refine Calls.mono (refInt_O hR (.slice none 0 0) 0 [] f.kind (World.ownsRow_nil _ _ _ _) (by omega) hik) ?_
  rintro e w3 ⟨v6, rfl, o6, hb⟩
  have hR := hb
  clear hb
  refine ⟨_, rfl, ?_⟩
  refine kl_nil ?_
  refine kq_f hR ?_
  repeat (first | refine kf_nil ?_ | refine kf_ung rfl rfl ?_ | refine kf_skipg rfl rfl rfl rfl ?_ | (first | refine kf_move rfl rfl (.inl rfl) rfl rfl ?_ | refine kf_move rfl rfl (.inr rfl) rfl rfl ?_ | refine kf_const rfl rfl (.inl rfl) rfl ?_ | refine kf_const rfl rfl (.inr rfl) rfl ?_) | (refine kf_val rfl rfl rfl ?_; apply Exists.intro; refine And.intro (fun W hW N hN => ?_) ?_; · (go_simp; (try go_bits); exact hN)))
  refine kf_ch ?_
  refine kl_call rfl rfl rfl Try.func43 rfl (by kernel_rfl) rfl ?_
  refine Calls.mono (refInt_O hR v6 (0 + 8) _ f.id o6 (by omega) hii) ?_
  rintro e w4 ⟨v9, rfl, o9, hb⟩
  have hR := hb
  clear hb
  refine ⟨_, rfl, ?_⟩
  refine kl_nil ?_
  refine kq_f hR ?_
  repeat (first | refine kf_nil ?_ | refine kf_ung rfl rfl ?_ | refine kf_skipg rfl rfl rfl rfl ?_ | (first | refine kf_move rfl rfl (.inl rfl) rfl rfl ?_ | refine kf_move rfl rfl (.inr rfl) rfl rfl ?_ | refine kf_const rfl rfl (.inl rfl) rfl ?_ | refine kf_const rfl rfl (.inr rfl) rfl ?_) | (refine kf_val rfl rfl rfl ?_; apply Exists.intro; refine And.intro (fun W hW N hN => ?_) ?_; · (go_simp; (try go_bits); exact hN)))
  refine kq_then ?_
  have hb9 : w4.ownsRow w1.heap.size 5 1 v9 16 (bv (le8 f.kind ++ le8 f.id)) := o9
  clear o9 o6 c1
  replace c0 := c0 _ hR
  by_cases k1 : f.kind = 1
  · have t1 : (f.kind == 1) = true := by rw [beq_iff_eq]; exact k1
    have K1 := Lib.hid k1
    clear k1
    repeat (first | refine kw_seq ?_ | refine kw_block ?_ | refine kw_skip ?_ | refine kw_region ?_ | refine kl_nil ?_ | refine kq_then ?_ | refine kq_block ?_ | refine kw_exit ?_ | refine kq_then_exit ?_ | refine kq_block_here rfl ?_ | refine kq_block_far rfl ?_ | refine kq_again_exit ?_ | refine kw_ret ?_ | refine kq_then_ret ?_ | refine kq_block_ret ?_ | refine kq_again_ret ?_ | refine kw_ift rfl ?_ | refine kw_iff rfl ?_ | refine kl_ung rfl rfl ?_ | refine kl_skipg rfl rfl rfl rfl ?_ | refine kl_skipg0 rfl rfl rfl ?_ | (first | refine kl_move rfl rfl (.inl rfl) rfl rfl ?_ | refine kl_move rfl rfl (.inr rfl) rfl rfl ?_ | refine kl_const rfl rfl (.inl rfl) rfl ?_ | refine kl_const rfl rfl (.inr rfl) rfl ?_) | ((first | refine kl_step rfl rfl rfl fun K hK => ?_ | refine kl_step0 rfl rfl rfl fun K hK => ?_); go_simp; (try go_bits); (first | refine hK _ _ ?_ | refine hK _ ?_); clear hK K))
    clear c0
    have c2 : ∀ W, Below w1.heap.size w1 W → _ := fun W (h : Below w1.heap.size w1 W) => Keeps.of_below h _ _ (hL.get 0 rfl (frm_2 f _))
    refine kw_region_f (Below w1.heap.size w1) [true, true, true, false, true, true, false, true] (by kernel_rfl) (by kernel_rfl) hR.drew ?_
    replace hb9 : w4.drew.ownsRow _ _ _ _ _ _ := hb9
    have hR := hR.drew
    generalize w4.drew = w5 at hR hb9 ⊢
    repeat (first | refine kf_nil ?_ | refine kf_ung rfl rfl ?_ | refine kf_skipg rfl rfl rfl rfl ?_ | (first | refine kf_move rfl rfl (.inl rfl) rfl rfl ?_ | refine kf_move rfl rfl (.inr rfl) rfl rfl ?_ | refine kf_const rfl rfl (.inl rfl) rfl ?_ | refine kf_const rfl rfl (.inr rfl) rfl ?_) | (refine kf_val rfl rfl rfl ?_; apply Exists.intro; refine And.intro (fun W hW N hN => ?_) ?_; · (go_simp; (try go_bits); exact hN)))
    refine kf_ch ?_
    refine kl_call rfl rfl rfl Try.func43 rfl (by kernel_rfl) rfl ?_
    refine Calls.mono (refInt_O hR v9 16 _ f.size hb9 (by omega) his) ?_
    rintro e w6 ⟨v17, rfl, o17, hb⟩
    have hR := hb
    clear hb
    refine ⟨_, rfl, ?_⟩
    refine kl_nil ?_
    refine kq_f hR ?_
    repeat (first | refine kf_nil ?_ | refine kf_ung rfl rfl ?_ | refine kf_skipg rfl rfl rfl rfl ?_ | (first | refine kf_move rfl rfl (.inl rfl) rfl rfl ?_ | refine kf_move rfl rfl (.inr rfl) rfl rfl ?_ | refine kf_const rfl rfl (.inl rfl) rfl ?_ | refine kf_const rfl rfl (.inr rfl) rfl ?_) | (refine kf_val rfl rfl rfl ?_; apply Exists.intro; refine And.intro (fun W hW N hN => ?_) ?_; · (go_simp; (try go_bits); exact hN)))
    refine kf_ch ?_
    have hsum : Bs w6 (some ⟨g1, 4, none⟩) 32 f.sum := ⟨by rw [length_bv]; exact HS.out, fun _ => ⟨g1, 4, rfl, fun i u hu => frm_range ((hL.next hR).at_ 0 rfl) i u hu⟩⟩
    refine kl_append w1.heap.size v17 24 _ o17 (some ⟨g1, 4, none⟩) 32 32 f.sum hsum (by omega) hR.size rfl rfl rfl rfl rfl rfl ?_
    intro v20 w7 hown hg _
    have hR := below_append hR hg o17 hR.size
    have hfl : le8 f.kind ++ le8 f.id ++ le8 f.size ++ f.sum = frameBody f := by
      unfold frameBody frameTail
      rw [if_pos K1.out]
      simp
    rw [hfl] at hown
    clear hsum hg o17 hfl
    refine kl_nil ?_
    refine kq_f hR ?_
    repeat (first | refine kf_nil ?_ | refine kf_ung rfl rfl ?_ | refine kf_skipg rfl rfl rfl rfl ?_ | (first | refine kf_move rfl rfl (.inl rfl) rfl rfl ?_ | refine kf_move rfl rfl (.inr rfl) rfl rfl ?_ | refine kf_const rfl rfl (.inl rfl) rfl ?_ | refine kf_const rfl rfl (.inr rfl) rfl ?_) | (refine kf_val rfl rfl rfl ?_; apply Exists.intro; refine And.intro (fun W hW N hN => ?_) ?_; · (go_simp; (try go_bits); exact hN)))
    refine kq_block ?_
    refine kq_then ?_
    refine KW.less [3] ?_
    simp only [nrm, lk, Nat.reduceBEq, cond_true, cond_false]
    obtain ⟨A8, c8, rfl, hbod, nbod, mbod⟩ := own_B hown
    repeat (first | refine kw_seq ?_ | refine kw_block ?_ | refine kw_skip ?_ | refine kw_region ?_ | refine kl_nil ?_ | refine kq_then ?_ | refine kq_block ?_ | refine kw_exit ?_ | refine kq_then_exit ?_ | refine kq_block_here rfl ?_ | refine kq_block_far rfl ?_ | refine kq_again_exit ?_ | refine kw_ret ?_ | refine kq_then_ret ?_ | refine kq_block_ret ?_ | refine kq_again_ret ?_ | refine kw_ift rfl ?_ | refine kw_iff rfl ?_ | refine kl_ung rfl rfl ?_ | refine kl_skipg rfl rfl rfl rfl ?_ | refine kl_skipg0 rfl rfl rfl ?_ | (first | refine kl_move rfl rfl (.inl rfl) rfl rfl ?_ | refine kl_move rfl rfl (.inr rfl) rfl rfl ?_ | refine kl_const rfl rfl (.inl rfl) rfl ?_ | refine kl_const rfl rfl (.inr rfl) rfl ?_) | ((first | refine kl_step rfl rfl rfl fun K hK => ?_ | refine kl_step0 rfl rfl rfl fun K hK => ?_); go_simp; (try go_bits); (first | refine hK _ _ ?_ | refine hK _ ?_); clear hK K))
    refine kl_call rfl rfl rfl Try.func26 rfl (by kernel_rfl) rfl ?_
    refine Calls.mono (refSeal_any _ _ _ (frameBody f) _ hbod (by have := frameBody_len f HS.out HD.out; have := hbod.len; omega) nbod mbod) ?_
    rintro e wz ⟨vz, rfl, hwn, hb⟩
    refine ⟨_, rfl, ?_⟩
    rw [← hbod.len, ← length_sealed] at hwn
    replace hwn := ownsRow_base hwn (show w.heap.size ≤ _ from Nat.le_trans hL.below.size hR.size)
    have hwn : wz.ownsRow w.heap.size 5 1 vz (frameBytes f).length (bv (frameBytes f)) := hwn
    have hbz := below_then (below_then hL.below hR hL.below.size) hb (Nat.le_trans hL.below.size hR.size)
    clear hbod hb hown
    repeat (first | refine kw_seq ?_ | refine kw_block ?_ | refine kw_skip ?_ | refine kw_region ?_ | refine kl_nil ?_ | refine kq_then ?_ | refine kq_block ?_ | refine kw_exit ?_ | refine kq_then_exit ?_ | refine kq_block_here rfl ?_ | refine kq_block_far rfl ?_ | refine kq_again_exit ?_ | refine kw_ret ?_ | refine kq_then_ret ?_ | refine kq_block_ret ?_ | refine kq_again_ret ?_ | refine kw_ift rfl ?_ | refine kw_iff rfl ?_ | refine kl_ung rfl rfl ?_ | refine kl_skipg rfl rfl rfl rfl ?_ | refine kl_skipg0 rfl rfl rfl ?_ | (first | refine kl_move rfl rfl (.inl rfl) rfl rfl ?_ | refine kl_move rfl rfl (.inr rfl) rfl rfl ?_ | refine kl_const rfl rfl (.inl rfl) rfl ?_ | refine kl_const rfl rfl (.inr rfl) rfl ?_) | ((first | refine kl_step rfl rfl rfl fun K hK => ?_ | refine kl_step0 rfl rfl rfl fun K hK => ?_); go_simp; (try go_bits); (first | refine hK _ _ ?_ | refine hK _ ?_); clear hK K))
    exact kq_ret1 rfl rfl ⟨_, rfl, hwn, hbz⟩
  by_cases k2 : f.kind = 2
  · have t1 : (f.kind == 1) = false := by rw [beq_eq_false_iff_ne]; exact k1
    have t2 : (f.kind == 2) = true := by rw [beq_iff_eq]; exact k2
    have K1 := Lib.hid k1
    have K2 := Lib.hid k2
    clear k1 k2
    repeat (first | refine kw_seq ?_ | refine kw_block ?_ | refine kw_skip ?_ | refine kw_region ?_ | refine kl_nil ?_ | refine kq_then ?_ | refine kq_block ?_ | refine kw_exit ?_ | refine kq_then_exit ?_ | refine kq_block_here rfl ?_ | refine kq_block_far rfl ?_ | refine kq_again_exit ?_ | refine kw_ret ?_ | refine kq_then_ret ?_ | refine kq_block_ret ?_ | refine kq_again_ret ?_ | refine kw_ift rfl ?_ | refine kw_iff rfl ?_ | refine kl_ung rfl rfl ?_ | refine kl_skipg rfl rfl rfl rfl ?_ | refine kl_skipg0 rfl rfl rfl ?_ | (first | refine kl_move rfl rfl (.inl rfl) rfl rfl ?_ | refine kl_move rfl rfl (.inr rfl) rfl rfl ?_ | refine kl_const rfl rfl (.inl rfl) rfl ?_ | refine kl_const rfl rfl (.inr rfl) rfl ?_) | ((first | refine kl_step rfl rfl rfl fun K hK => ?_ | refine kl_step0 rfl rfl rfl fun K hK => ?_); go_simp; (try go_bits); (first | refine hK _ _ ?_ | refine hK _ ?_); clear hK K))
    clear c0
    have c3 : ∀ W, Below w1.heap.size w1 W → _ := fun W (h : Below w1.heap.size w1 W) => Keeps.of_below h _ _ (hL.get 0 rfl (frm_3 f _))
    have c36 : ∀ W, Below w1.heap.size w1 W → _ := fun W (h : Below w1.heap.size w1 W) => Keeps.of_below h _ _ (hL.get 0 rfl (frm_36 f _ HS.out))
    have hcv := fun W (h : Below w1.heap.size w1 W) => convB (c := cD) (hBD.keep (.of_below h))
    refine kw_region_f (Below w1.heap.size w1) [true, true, true, false, true, true, true, false, true] (by kernel_rfl) (by kernel_rfl) hR.drew ?_
    replace hb9 : w4.drew.ownsRow _ _ _ _ _ _ := hb9
    have hR := hR.drew
    generalize w4.drew = w5 at hR hb9 ⊢
    repeat (first | refine kf_nil ?_ | refine kf_ung rfl rfl ?_ | refine kf_skipg rfl rfl rfl rfl ?_ | (first | refine kf_move rfl rfl (.inl rfl) rfl rfl ?_ | refine kf_move rfl rfl (.inr rfl) rfl rfl ?_ | refine kf_const rfl rfl (.inl rfl) rfl ?_ | refine kf_const rfl rfl (.inr rfl) rfl ?_) | (refine kf_val rfl rfl rfl ?_; apply Exists.intro; refine And.intro (fun W hW N hN => ?_) ?_; · (go_simp; (try go_bits); exact hN)))
    refine kf_ch ?_
    refine kl_call rfl rfl rfl Try.func43 rfl (by kernel_rfl) rfl ?_
    refine Calls.mono (refInt_O hR v9 16 _ f.at_ hb9 (by omega) hia) ?_
    rintro e w6 ⟨v26, rfl, o26, hb⟩
    have hR := hb
    clear hb
    refine ⟨_, rfl, ?_⟩
    refine kl_nil ?_
    refine kq_f hR ?_
    repeat (first | refine kf_nil ?_ | refine kf_ung rfl rfl ?_ | refine kf_skipg rfl rfl rfl rfl ?_ | (first | refine kf_move rfl rfl (.inl rfl) rfl rfl ?_ | refine kf_move rfl rfl (.inr rfl) rfl rfl ?_ | refine kf_const rfl rfl (.inl rfl) rfl ?_ | refine kf_const rfl rfl (.inr rfl) rfl ?_) | (refine kf_val rfl rfl rfl ?_; apply Exists.intro; refine And.intro (fun W hW N hN => ?_) ?_; · (go_simp; (try go_bits); exact hN)))
    refine kf_ch ?_
    refine kl_call rfl rfl rfl Try.func44 rfl (by kernel_rfl) rfl ?_
    refine Calls.mono (refText_O hR v26 (16 + 8) _ f.data o26 (by omega) (by have := HD.out; omega)) ?_
    rintro e w8 ⟨v8, rfl, hown, hb⟩
    have hR := hb
    have hfl : le8 f.kind ++ le8 f.id ++ le8 f.at_ ++ textBytes f.data = frameBody f := by
      unfold frameBody frameTail
      rw [if_neg K1.out, if_pos K2.out]
      simp
    rw [hfl] at hown
    clear hb hfl
    refine ⟨_, rfl, ?_⟩
    refine kl_nil ?_
    refine kq_f hR ?_
    repeat (first | refine kf_nil ?_ | refine kf_ung rfl rfl ?_ | refine kf_skipg rfl rfl rfl rfl ?_ | (first | refine kf_move rfl rfl (.inl rfl) rfl rfl ?_ | refine kf_move rfl rfl (.inr rfl) rfl rfl ?_ | refine kf_const rfl rfl (.inl rfl) rfl ?_ | refine kf_const rfl rfl (.inr rfl) rfl ?_) | (refine kf_val rfl rfl rfl ?_; apply Exists.intro; refine And.intro (fun W hW N hN => ?_) ?_; · (go_simp; (try go_bits); exact hN)))
    refine kq_block ?_
    refine kq_then ?_
    refine KW.less [3] ?_
    simp only [nrm, lk, Nat.reduceBEq, cond_true, cond_false]
    obtain ⟨A8, c8, rfl, hbod, nbod, mbod⟩ := own_B hown
    repeat (first | refine kw_seq ?_ | refine kw_block ?_ | refine kw_skip ?_ | refine kw_region ?_ | refine kl_nil ?_ | refine kq_then ?_ | refine kq_block ?_ | refine kw_exit ?_ | refine kq_then_exit ?_ | refine kq_block_here rfl ?_ | refine kq_block_far rfl ?_ | refine kq_again_exit ?_ | refine kw_ret ?_ | refine kq_then_ret ?_ | refine kq_block_ret ?_ | refine kq_again_ret ?_ | refine kw_ift rfl ?_ | refine kw_iff rfl ?_ | refine kl_ung rfl rfl ?_ | refine kl_skipg rfl rfl rfl rfl ?_ | refine kl_skipg0 rfl rfl rfl ?_ | (first | refine kl_move rfl rfl (.inl rfl) rfl rfl ?_ | refine kl_move rfl rfl (.inr rfl) rfl rfl ?_ | refine kl_const rfl rfl (.inl rfl) rfl ?_ | refine kl_const rfl rfl (.inr rfl) rfl ?_) | ((first | refine kl_step rfl rfl rfl fun K hK => ?_ | refine kl_step0 rfl rfl rfl fun K hK => ?_); go_simp; (try go_bits); (first | refine hK _ _ ?_ | refine hK _ ?_); clear hK K))
    refine kl_call rfl rfl rfl Try.func26 rfl (by kernel_rfl) rfl ?_
    refine Calls.mono (refSeal_any _ _ _ (frameBody f) _ hbod (by have := frameBody_len f HS.out HD.out; have := hbod.len; omega) nbod mbod) ?_
    rintro e wz ⟨vz, rfl, hwn, hb⟩
    refine ⟨_, rfl, ?_⟩
    rw [← hbod.len, ← length_sealed] at hwn
    replace hwn := ownsRow_base hwn (show w.heap.size ≤ _ from Nat.le_trans hL.below.size hR.size)
    have hwn : wz.ownsRow w.heap.size 5 1 vz (frameBytes f).length (bv (frameBytes f)) := hwn
    have hbz := below_then (below_then hL.below hR hL.below.size) hb (Nat.le_trans hL.below.size hR.size)
    clear hbod hb hown
    repeat (first | refine kw_seq ?_ | refine kw_block ?_ | refine kw_skip ?_ | refine kw_region ?_ | refine kl_nil ?_ | refine kq_then ?_ | refine kq_block ?_ | refine kw_exit ?_ | refine kq_then_exit ?_ | refine kq_block_here rfl ?_ | refine kq_block_far rfl ?_ | refine kq_again_exit ?_ | refine kw_ret ?_ | refine kq_then_ret ?_ | refine kq_block_ret ?_ | refine kq_again_ret ?_ | refine kw_ift rfl ?_ | refine kw_iff rfl ?_ | refine kl_ung rfl rfl ?_ | refine kl_skipg rfl rfl rfl rfl ?_ | refine kl_skipg0 rfl rfl rfl ?_ | (first | refine kl_move rfl rfl (.inl rfl) rfl rfl ?_ | refine kl_move rfl rfl (.inr rfl) rfl rfl ?_ | refine kl_const rfl rfl (.inl rfl) rfl ?_ | refine kl_const rfl rfl (.inr rfl) rfl ?_) | ((first | refine kl_step rfl rfl rfl fun K hK => ?_ | refine kl_step0 rfl rfl rfl fun K hK => ?_); go_simp; (try go_bits); (first | refine hK _ _ ?_ | refine hK _ ?_); clear hK K))
    exact kq_ret1 rfl rfl ⟨_, rfl, hwn, hbz⟩
  · have t1 : (f.kind == 1) = false := by rw [beq_eq_false_iff_ne]; exact k1
    have t2 : (f.kind == 2) = false := by rw [beq_eq_false_iff_ne]; exact k2
    have hown : w4.ownsRow w1.heap.size 5 1 v9 16 (bv (frameBody f)) := by
      unfold frameBody frameTail
      rw [if_neg k1, if_neg k2, List.append_nil]
      exact hb9
    clear k1 k2 hb9
    obtain ⟨A8, c8, rfl, hbod, nbod, mbod⟩ := own_B hown
    repeat (first | refine kw_seq ?_ | refine kw_block ?_ | refine kw_skip ?_ | refine kw_region ?_ | refine kl_nil ?_ | refine kq_then ?_ | refine kq_block ?_ | refine kw_exit ?_ | refine kq_then_exit ?_ | refine kq_block_here rfl ?_ | refine kq_block_far rfl ?_ | refine kq_again_exit ?_ | refine kw_ret ?_ | refine kq_then_ret ?_ | refine kq_block_ret ?_ | refine kq_again_ret ?_ | refine kw_ift rfl ?_ | refine kw_iff rfl ?_ | refine kl_ung rfl rfl ?_ | refine kl_skipg rfl rfl rfl rfl ?_ | refine kl_skipg0 rfl rfl rfl ?_ | (first | refine kl_move rfl rfl (.inl rfl) rfl rfl ?_ | refine kl_move rfl rfl (.inr rfl) rfl rfl ?_ | refine kl_const rfl rfl (.inl rfl) rfl ?_ | refine kl_const rfl rfl (.inr rfl) rfl ?_) | ((first | refine kl_step rfl rfl rfl fun K hK => ?_ | refine kl_step0 rfl rfl rfl fun K hK => ?_); go_simp; (try go_bits); (first | refine hK _ _ ?_ | refine hK _ ?_); clear hK K))
    refine kl_call rfl rfl rfl Try.func26 rfl (by kernel_rfl) rfl ?_
    refine Calls.mono (refSeal_any _ _ _ (frameBody f) _ hbod (by have := frameBody_len f HS.out HD.out; have := hbod.len; omega) nbod mbod) ?_
    rintro e wz ⟨vz, rfl, hwn, hb⟩
    refine ⟨_, rfl, ?_⟩
    rw [← hbod.len, ← length_sealed] at hwn
    replace hwn := ownsRow_base hwn (show w.heap.size ≤ _ from Nat.le_trans hL.below.size hR.size)
    have hwn : wz.ownsRow w.heap.size 5 1 vz (frameBytes f).length (bv (frameBytes f)) := hwn
    have hbz := below_then (below_then hL.below hR hL.below.size) hb (Nat.le_trans hL.below.size hR.size)
    clear hbod hb hown
    repeat (first | refine kw_seq ?_ | refine kw_block ?_ | refine kw_skip ?_ | refine kw_region ?_ | refine kl_nil ?_ | refine kq_then ?_ | refine kq_block ?_ | refine kw_exit ?_ | refine kq_then_exit ?_ | refine kq_block_here rfl ?_ | refine kq_block_far rfl ?_ | refine kq_again_exit ?_ | refine kw_ret ?_ | refine kq_then_ret ?_ | refine kq_block_ret ?_ | refine kq_again_ret ?_ | refine kw_ift rfl ?_ | refine kw_iff rfl ?_ | refine kl_ung rfl rfl ?_ | refine kl_skipg rfl rfl rfl rfl ?_ | refine kl_skipg0 rfl rfl rfl ?_ | (first | refine kl_move rfl rfl (.inl rfl) rfl rfl ?_ | refine kl_move rfl rfl (.inr rfl) rfl rfl ?_ | refine kl_const rfl rfl (.inl rfl) rfl ?_ | refine kl_const rfl rfl (.inr rfl) rfl ?_) | ((first | refine kl_step rfl rfl rfl fun K hK => ?_ | refine kl_step0 rfl rfl rfl fun K hK => ?_); go_simp; (try go_bits); (first | refine hK _ _ ?_ | refine hK _ ?_); clear hK K))
    exact kq_ret1 rfl rfl ⟨_, rfl, hwn, hbz⟩
end Go.Proofs.Ytfhlnadhcalkkaa
