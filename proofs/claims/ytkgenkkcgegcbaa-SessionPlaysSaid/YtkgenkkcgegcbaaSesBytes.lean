/- crc.Seal and the reference's Seal: what each returns. session.Bytes: a frame's bytes. -/
import Derived.Test.YtkgenkkcgegcbaaChecked
import Derived.Test.YtkgenkkcgegcbaaOpen
import Derived.Test.YtkgenkkcgegcbaaConcat
import Derived.Test.YtkgenkkcgegcbaaSesFrmP
import Derived.Test.YtkgenkkcgegcbaaCodeText
import Derived.Test.YtkgenkkcgegcbaaKnF
import Derived.Test.YtkgenkkcgegcbaaKnR
import Derived.Test.YtkgenkkcgegcbaaLay
namespace Go.Proofs.Ytkgenkkcgegcbaa
open Go.RowKit

theorem seal_none (A : Option Addr) (n c : Nat) (w : World) (hn : 65535 < n) (hn2 : n ≤ 140737488355328) :
    Calls Try.prog 41 #[.slice A n c] w fun e w' => e = .returned (.slice none 0 0) ∧ w = w' := by
  go_enter Try.func41, Try.ntmps41
  go_wp2
  go_ret
  exact ⟨rfl, rfl⟩

theorem seal_any (A : Option Addr) (n c : Nat) (l : List UInt8) (w : World) (hA : Bs w A n l) (hn : n ≤ 65535) (hc : n ≤ c) (hc2 : c ≤ 9223372036854775807) :
    Calls Try.prog 41 #[.slice A n c] w fun e w' => ∃ v, e = .returned v ∧ w'.ownsRow w.heap.size 5 1 v (n + 6) (bv (sealed l)) ∧ Below w.heap.size w w' := by
  go_enter Try.func41, Try.ntmps41
  go_wp2_with (go_at_call 63; refine (crcSum_any _ _ _ [l] _ (Ps.lit1 _ rfl hA hc hc2) (by omega)).mono ?_; rintro e w1 ⟨rfl, rfl⟩)
  refine (concat_any _ _ _ [sealHead l, l] _ ?hP (by omega) ?hs).mono ?_
  case hP =>
    refine Ps.lit2 _ (by simp) (Bs.lit _ (by simp) (sealHead l) rfl ?_) (by omega) (by omega) ((hA.alloc _).alloc _) hc hc2
    have hl := hA.len
    have hh := (crc l).isLt
    simp only [bv, sealHead, List.map_cons, List.map_nil, u8n_toNat, hl]
    rw [Nat.mod_eq_of_lt (a := n / 256) (by omega), Nat.mod_eq_of_lt (a := (crc l).toNat / 16777216) (by omega)]
    simp
  case hs => have hl := hA.len; simp [length_sealHead]; omega
  rintro e w2 ⟨v2, rfl, hown, hb⟩
  go_wp2
  go_ret
  refine ⟨_, rfl, ?_, ?_⟩
  · have hl := hA.len
    have e : [sealHead l, l].flatten = sealed l := by simp [sealed]
    rw [e, length_sealed, hl] at hown
    exact ownsRow_base hown (by simp; omega)
  · exact below_then ((((Below.refl _ w).alloc (Nat.le_refl _) _).alloc (by simp) _).alloc (by simp; omega) _) hb (by simp; omega)

end Go.Proofs.Ytkgenkkcgegcbaa
namespace Go.Proofs.Ytkgenkkcgegcbaa
open Go.RowKit
attribute [local go_sem] ev_tmp ev_const ev_func ev_global lk_hit lk_miss uponK_value uponK_skip look_tmp look_const look_global look_func valP_value
theorem codeInt_B (A : Option Addr) (n c : Nat) (l : List UInt8) (x : Int) (w : World) (hA : Bs w A n l) (hn : n ≤ 1099511627776) (hx : I64 x) :
    Calls Try.prog 38 #[.slice A n c, .int .i64 x] w fun e w' => ∃ A' c', e = .returned (.slice A' (n + 8) c') ∧ Bs w' A' (n + 8) (l ++ le8 x) ∧ n + 8 ≤ c' ∧ c' ≤ 9223372036854775807 ∧ Below w.heap.size w w' :=
  Calls.mono (codeInt_any A n c l x w hA hn hx) fun e w' ⟨v, he, hown, hb⟩ => by
    obtain ⟨A', c', rfl, h1, h2, h3, _⟩ := own_slice hown
    exact ⟨A', c', he, h3, h1, by simpa [maxLen] using h2, hb⟩
def BytesP (l : List UInt8) (w : World) (e : Ending) (w' : World) : Prop := ∃ v, e = .returned v ∧ w'.ownsRow w.heap.size 5 1 v l.length (bv l) ∧ Below w.heap.size w w'
theorem frm_data {w : World} {f : Frm} {D : Value} (hM : FrmM w f D) : ∃ A n c, D = .slice A n c ∧ Bs w A n f.data ∧ n ≤ c ∧ c ≤ 9223372036854775807 := hM.data
set_option maxRecDepth 100000 in
set_option maxHeartbeats 1000000 in
theorem bytes17_any (f : Frm) (D : Value) (w : World) (hM : FrmM w f D) (hd : f.data.length ≤ 60000) :
    Calls Try.prog 23 #[.agg (frmV f D).toArray] w (BytesP (frameBytes f) w) := by
  have HD := Lib.hid hd
  have HS := Lib.hid hM.sum
  have hik := hM.kind
  have hii := hM.id
  have his := hM.size
  have hia := hM.at_
  obtain ⟨AD, nD, cD, rfl, hBD, _, _⟩ := hM.data
  refine calls_kw Try.func23 rfl Try.ntmps23 rfl [(0, .agg (frmV f (.slice AD nD cD)).toArray)] rfl ?_
  refine kw_seq ?_
  refine kw_region ?_
  refine kl_boxL (Lay.start w) rfl rfl rfl rfl rfl ?_
  intro g1 w1 eg1 hb1 hL
  replace hBD := hBD.keep (.of_below hb1)
  clear eg1 hb1 hM hd
  repeat (first | refine kw_seq ?_ | refine kw_block ?_ | refine kw_skip ?_ | refine kw_region ?_ | refine kl_nil ?_ | refine kq_then ?_ | refine kq_block ?_ | refine kw_exit ?_ | refine kq_then_exit ?_ | refine kq_block_here rfl ?_ | refine kq_block_far rfl ?_ | refine kq_again_exit ?_ | refine kw_ret ?_ | refine kq_then_ret ?_ | refine kq_block_ret ?_ | refine kq_again_ret ?_ | refine kw_ift rfl ?_ | refine kw_iff rfl ?_ | refine kl_ung rfl rfl ?_ | refine kl_skipg rfl rfl rfl rfl ?_ | refine kl_skipg0 rfl rfl rfl ?_ | (first | refine kl_move rfl rfl (.inl rfl) rfl rfl ?_ | refine kl_move rfl rfl (.inr rfl) rfl rfl ?_ | refine kl_const rfl rfl (.inl rfl) rfl ?_ | refine kl_const rfl rfl (.inr rfl) rfl ?_) | ((first | refine kl_step rfl rfl rfl fun K hK => ?_ | refine kl_step0 rfl rfl rfl fun K hK => ?_); go_simp; (try go_bits); (first | refine hK _ _ ?_ | refine hK _ ?_); clear hK K))
  have c0 : ∀ W, Keeps w1 W → _ := fun W (h : Keeps w1 W) => h _ _ (hL.get 0 rfl (frm_0 f _))
  have c1 : ∀ W, Keeps w1 W → _ := fun W (h : Keeps w1 W) => h _ _ (hL.get 0 rfl (frm_1 f _))
  refine kw_region_f (Keeps w1) [true, true, false, true, true, false, true] (by kernel_rfl) (by kernel_rfl) (.drew _) ?_
  have hL := hL.next (Below.refl _ w1).drew
  have hK : Keeps w1 w1.drew := .drew _
  replace hBD := hBD.keep (.drew w1)
  generalize w1.drew = w2 at hL hK hBD ⊢
  repeat (first | refine kf_nil ?_ | refine kf_ung rfl rfl ?_ | refine kf_skipg rfl rfl rfl rfl ?_ | (first | refine kf_move rfl rfl (.inl rfl) rfl rfl ?_ | refine kf_move rfl rfl (.inr rfl) rfl rfl ?_ | refine kf_const rfl rfl (.inl rfl) rfl ?_ | refine kf_const rfl rfl (.inr rfl) rfl ?_) | (refine kf_val rfl rfl rfl ?_; apply Exists.intro; refine And.intro (fun W hW N hN => ?_) ?_; · (go_simp; (try go_bits); exact hN)))
  refine kf_ch ?_
  refine kl_call rfl rfl rfl Try.func38 rfl (by kernel_rfl) rfl ?_
  refine Calls.mono (codeInt_B none 0 0 [] f.kind _ (Bs.nil _ _) (by omega) hik) ?_
  rintro e w3 ⟨A6, c6, rfl, h6, n6, m6, hb⟩
  have hbA := hb
  have hL := hL.next hb
  have hK := hK.trans (.of_below hb)
  clear hb
  refine ⟨_, rfl, ?_⟩
  refine kl_nil ?_
  refine kq_f hK ?_
  repeat (first | refine kf_nil ?_ | refine kf_ung rfl rfl ?_ | refine kf_skipg rfl rfl rfl rfl ?_ | (first | refine kf_move rfl rfl (.inl rfl) rfl rfl ?_ | refine kf_move rfl rfl (.inr rfl) rfl rfl ?_ | refine kf_const rfl rfl (.inl rfl) rfl ?_ | refine kf_const rfl rfl (.inr rfl) rfl ?_) | (refine kf_val rfl rfl rfl ?_; apply Exists.intro; refine And.intro (fun W hW N hN => ?_) ?_; · (go_simp; (try go_bits); exact hN)))
  refine kf_ch ?_
  refine kl_call rfl rfl rfl Try.func38 rfl (by kernel_rfl) rfl ?_
  refine Calls.mono (codeInt_B A6 (0 + 8) c6 _ f.id _ h6 (by omega) hii) ?_
  rintro e w4 ⟨A9, c9, rfl, h9, n9, m9, hb⟩
  have hbB := hb
  have hL := hL.next hb
  have hK := hK.trans (.of_below hb)
  clear hb
  refine ⟨_, rfl, ?_⟩
  refine kl_nil ?_
  refine kq_f hK ?_
  repeat (first | refine kf_nil ?_ | refine kf_ung rfl rfl ?_ | refine kf_skipg rfl rfl rfl rfl ?_ | (first | refine kf_move rfl rfl (.inl rfl) rfl rfl ?_ | refine kf_move rfl rfl (.inr rfl) rfl rfl ?_ | refine kf_const rfl rfl (.inl rfl) rfl ?_ | refine kf_const rfl rfl (.inr rfl) rfl ?_) | (refine kf_val rfl rfl rfl ?_; apply Exists.intro; refine And.intro (fun W hW N hN => ?_) ?_; · (go_simp; (try go_bits); exact hN)))
  refine kq_then ?_
  have hb9 : Bs w4 A9 16 (le8 f.kind ++ le8 f.id) := h9
  rw [show (0 + 8 + 8 : Nat) = 16 from rfl] at n9 ⊢
  replace c0 := c0 _ hK
  replace hBD := hBD.keep ((Keeps.of_below hbA).trans (.of_below hbB))
  clear h6 n6 m6 h9 c1 hK
  by_cases k1 : f.kind = 1
  · have t1 : (f.kind == 1) = true := by rw [beq_iff_eq]; exact k1
    have K1 := Lib.hid k1
    clear k1
    repeat (first | refine kw_seq ?_ | refine kw_block ?_ | refine kw_skip ?_ | refine kw_region ?_ | refine kl_nil ?_ | refine kq_then ?_ | refine kq_block ?_ | refine kw_exit ?_ | refine kq_then_exit ?_ | refine kq_block_here rfl ?_ | refine kq_block_far rfl ?_ | refine kq_again_exit ?_ | refine kw_ret ?_ | refine kq_then_ret ?_ | refine kq_block_ret ?_ | refine kq_again_ret ?_ | refine kw_ift rfl ?_ | refine kw_iff rfl ?_ | refine kl_ung rfl rfl ?_ | refine kl_skipg rfl rfl rfl rfl ?_ | refine kl_skipg0 rfl rfl rfl ?_ | (first | refine kl_move rfl rfl (.inl rfl) rfl rfl ?_ | refine kl_move rfl rfl (.inr rfl) rfl rfl ?_ | refine kl_const rfl rfl (.inl rfl) rfl ?_ | refine kl_const rfl rfl (.inr rfl) rfl ?_) | ((first | refine kl_step rfl rfl rfl fun K hK => ?_ | refine kl_step0 rfl rfl rfl fun K hK => ?_); go_simp; (try go_bits); (first | refine hK _ _ ?_ | refine hK _ ?_); clear hK K))
    clear c0
    have c2 : ∀ W, Keeps w4 W → _ := fun W (h : Keeps w4 W) => h _ _ (hL.get 0 rfl (frm_2 f _))
    refine kw_region_f (Keeps w4) [true, true, true, false, true, true, false, false, true] (by kernel_rfl) (by kernel_rfl) (.drew _) ?_
    have hL := hL.next (Below.refl _ w4).drew
    have hK : Keeps w4 w4.drew := .drew _
    replace hb9 := hb9.keep (.drew w4)
    generalize w4.drew = w5 at hL hK hb9 ⊢
    repeat (first | refine kf_nil ?_ | refine kf_ung rfl rfl ?_ | refine kf_skipg rfl rfl rfl rfl ?_ | (first | refine kf_move rfl rfl (.inl rfl) rfl rfl ?_ | refine kf_move rfl rfl (.inr rfl) rfl rfl ?_ | refine kf_const rfl rfl (.inl rfl) rfl ?_ | refine kf_const rfl rfl (.inr rfl) rfl ?_) | (refine kf_val rfl rfl rfl ?_; apply Exists.intro; refine And.intro (fun W hW N hN => ?_) ?_; · (go_simp; (try go_bits); exact hN)))
    refine kf_ch ?_
    refine kl_call rfl rfl rfl Try.func38 rfl (by kernel_rfl) rfl ?_
    refine Calls.mono (codeInt_B A9 16 c9 _ f.size _ hb9 (by omega) his) ?_
    rintro e w6 ⟨A17, c17, rfl, h17, n17, m17, hb⟩
    have hL := hL.next hb
    have hK := hK.trans (.of_below hb)
    clear hb
    refine ⟨_, rfl, ?_⟩
    refine kl_nil ?_
    refine kq_f hK ?_
    repeat (first | refine kf_nil ?_ | refine kf_ung rfl rfl ?_ | refine kf_skipg rfl rfl rfl rfl ?_ | (first | refine kf_move rfl rfl (.inl rfl) rfl rfl ?_ | refine kf_move rfl rfl (.inr rfl) rfl rfl ?_ | refine kf_const rfl rfl (.inl rfl) rfl ?_ | refine kf_const rfl rfl (.inr rfl) rfl ?_) | (refine kf_val rfl rfl rfl ?_; apply Exists.intro; refine And.intro (fun W hW N hN => ?_) ?_; · (go_simp; (try go_bits); exact hN)))
    refine kf_ch ?_
    ((first | refine kl_step rfl rfl rfl fun K hK => ?_ | refine kl_step0 rfl rfl rfl fun K hK => ?_); go_simp; (try go_bits); (first | refine hK _ _ ?_ | refine hK _ ?_); clear hK K)
    refine kl_nil ?_
    have hsum : Bs w6 (some ⟨g1, 4, none⟩) 32 f.sum := ⟨by rw [length_bv]; exact HS.out, fun _ => ⟨g1, 4, rfl, fun i u hu => frm_range (hL.at_ 0 rfl) i u hu⟩⟩
    have hP := Ps.lit2 (w := w6) 22 rfl h17 n17 m17 hsum (Nat.le_refl 32) (by omega)
    have hb : Below w6.heap.size w6 (w6.alloc (.cells #[.slice A17 (16 + 8) c17, .slice (some ⟨g1, 4, none⟩) 32 32] 22)) := (Below.refl _ _).alloc (Nat.le_refl _) _
    have hL := hL.next hb
    have hK := hK.trans (.of_below hb)
    clear h17 n17 m17 hsum hb
    generalize w6.alloc (.cells #[.slice A17 24 c17, .slice (some ⟨g1, 4, none⟩) 32 32] 22) = w7 at *
    generalize w6.heap.size = g7 at *
    refine kq_f hK ?_
    have hfl : [le8 f.kind ++ le8 f.id ++ le8 f.size, f.sum].flatten = frameBody f := by
      unfold frameBody frameTail
      rw [if_pos K1.out]
      simp
    repeat (first | refine kf_nil ?_ | refine kf_ung rfl rfl ?_ | refine kf_skipg rfl rfl rfl rfl ?_ | (first | refine kf_move rfl rfl (.inl rfl) rfl rfl ?_ | refine kf_move rfl rfl (.inr rfl) rfl rfl ?_ | refine kf_const rfl rfl (.inl rfl) rfl ?_ | refine kf_const rfl rfl (.inr rfl) rfl ?_) | (refine kf_val rfl rfl rfl ?_; apply Exists.intro; refine And.intro (fun W hW N hN => ?_) ?_; · (go_simp; (try go_bits); exact hN)))
    refine kf_ch ?_
    refine kl_call rfl rfl rfl Try.func39 rfl (by kernel_rfl) rfl ?_
    refine Calls.mono (concat_any _ _ _ _ _ hP (by omega) (by rw [hfl]; have := frameBody_len f HS.out HD.out; omega)) ?_
    rintro e w8 ⟨v8, rfl, hown, hb⟩
    have hL := hL.next hb
    have hK := hK.trans (.of_below hb)
    rw [hfl] at hown
    obtain ⟨A8, c8, rfl, hbod, nbod, mbod⟩ := own_B hown
    clear hown hP hfl
    clear hb
    refine ⟨_, rfl, ?_⟩
    refine kl_nil ?_
    refine kq_f hK ?_
    repeat (first | refine kf_nil ?_ | refine kf_ung rfl rfl ?_ | refine kf_skipg rfl rfl rfl rfl ?_ | (first | refine kf_move rfl rfl (.inl rfl) rfl rfl ?_ | refine kf_move rfl rfl (.inr rfl) rfl rfl ?_ | refine kf_const rfl rfl (.inl rfl) rfl ?_ | refine kf_const rfl rfl (.inr rfl) rfl ?_) | (refine kf_val rfl rfl rfl ?_; apply Exists.intro; refine And.intro (fun W hW N hN => ?_) ?_; · (go_simp; (try go_bits); exact hN)))
    refine kq_block ?_
    refine kq_then ?_
    refine KW.less [3] ?_
    simp only [nrm, lk, Nat.reduceBEq, cond_true, cond_false]
    repeat (first | refine kw_seq ?_ | refine kw_block ?_ | refine kw_skip ?_ | refine kw_region ?_ | refine kl_nil ?_ | refine kq_then ?_ | refine kq_block ?_ | refine kw_exit ?_ | refine kq_then_exit ?_ | refine kq_block_here rfl ?_ | refine kq_block_far rfl ?_ | refine kq_again_exit ?_ | refine kw_ret ?_ | refine kq_then_ret ?_ | refine kq_block_ret ?_ | refine kq_again_ret ?_ | refine kw_ift rfl ?_ | refine kw_iff rfl ?_ | refine kl_ung rfl rfl ?_ | refine kl_skipg rfl rfl rfl rfl ?_ | refine kl_skipg0 rfl rfl rfl ?_ | (first | refine kl_move rfl rfl (.inl rfl) rfl rfl ?_ | refine kl_move rfl rfl (.inr rfl) rfl rfl ?_ | refine kl_const rfl rfl (.inl rfl) rfl ?_ | refine kl_const rfl rfl (.inr rfl) rfl ?_) | ((first | refine kl_step rfl rfl rfl fun K hK => ?_ | refine kl_step0 rfl rfl rfl fun K hK => ?_); go_simp; (try go_bits); (first | refine hK _ _ ?_ | refine hK _ ?_); clear hK K))
    refine kl_call rfl rfl rfl Try.func41 rfl (by kernel_rfl) rfl ?_
    refine Calls.mono (seal_any _ _ _ (frameBody f) _ hbod (by have := frameBody_len f HS.out HD.out; have := hbod.len; omega) nbod mbod) ?_
    rintro e wz ⟨vz, rfl, hown, hb⟩
    refine ⟨_, rfl, ?_⟩
    have hbz := (hL.next hb).below
    rw [← hbod.len, ← length_sealed] at hown
    replace hown := ownsRow_base hown (show w.heap.size ≤ _ from hL.below.size)
    have hown : wz.ownsRow w.heap.size 5 1 vz (frameBytes f).length (bv (frameBytes f)) := hown
    clear hbod hb
    repeat (first | refine kw_seq ?_ | refine kw_block ?_ | refine kw_skip ?_ | refine kw_region ?_ | refine kl_nil ?_ | refine kq_then ?_ | refine kq_block ?_ | refine kw_exit ?_ | refine kq_then_exit ?_ | refine kq_block_here rfl ?_ | refine kq_block_far rfl ?_ | refine kq_again_exit ?_ | refine kw_ret ?_ | refine kq_then_ret ?_ | refine kq_block_ret ?_ | refine kq_again_ret ?_ | refine kw_ift rfl ?_ | refine kw_iff rfl ?_ | refine kl_ung rfl rfl ?_ | refine kl_skipg rfl rfl rfl rfl ?_ | refine kl_skipg0 rfl rfl rfl ?_ | (first | refine kl_move rfl rfl (.inl rfl) rfl rfl ?_ | refine kl_move rfl rfl (.inr rfl) rfl rfl ?_ | refine kl_const rfl rfl (.inl rfl) rfl ?_ | refine kl_const rfl rfl (.inr rfl) rfl ?_) | ((first | refine kl_step rfl rfl rfl fun K hK => ?_ | refine kl_step0 rfl rfl rfl fun K hK => ?_); go_simp; (try go_bits); (first | refine hK _ _ ?_ | refine hK _ ?_); clear hK K))
    exact kq_ret1 rfl rfl ⟨_, rfl, hown, hbz⟩
  by_cases k2 : f.kind = 2
  · have t1 : (f.kind == 1) = false := by rw [beq_eq_false_iff_ne]; exact k1
    have t2 : (f.kind == 2) = true := by rw [beq_iff_eq]; exact k2
    have K1 := Lib.hid k1
    have K2 := Lib.hid k2
    clear k1 k2
    repeat (first | refine kw_seq ?_ | refine kw_block ?_ | refine kw_skip ?_ | refine kw_region ?_ | refine kl_nil ?_ | refine kq_then ?_ | refine kq_block ?_ | refine kw_exit ?_ | refine kq_then_exit ?_ | refine kq_block_here rfl ?_ | refine kq_block_far rfl ?_ | refine kq_again_exit ?_ | refine kw_ret ?_ | refine kq_then_ret ?_ | refine kq_block_ret ?_ | refine kq_again_ret ?_ | refine kw_ift rfl ?_ | refine kw_iff rfl ?_ | refine kl_ung rfl rfl ?_ | refine kl_skipg rfl rfl rfl rfl ?_ | refine kl_skipg0 rfl rfl rfl ?_ | (first | refine kl_move rfl rfl (.inl rfl) rfl rfl ?_ | refine kl_move rfl rfl (.inr rfl) rfl rfl ?_ | refine kl_const rfl rfl (.inl rfl) rfl ?_ | refine kl_const rfl rfl (.inr rfl) rfl ?_) | ((first | refine kl_step rfl rfl rfl fun K hK => ?_ | refine kl_step0 rfl rfl rfl fun K hK => ?_); go_simp; (try go_bits); (first | refine hK _ _ ?_ | refine hK _ ?_); clear hK K))
    clear c0
    have c3 : ∀ W, Keeps w4 W → _ := fun W (h : Keeps w4 W) => h _ _ (hL.get 0 rfl (frm_3 f _))
    have c36 : ∀ W, Keeps w4 W → _ := fun W (h : Keeps w4 W) => h _ _ (hL.get 0 rfl (frm_36 f _ HS.out))
    have hcv := fun W (h : Keeps w4 W) => convB (c := cD) (hBD.keep h)
    refine kw_region_f (Keeps w4) [true, true, true, false, true, true, true, false, true] (by kernel_rfl) (by kernel_rfl) (.drew _) ?_
    have hL := hL.next (Below.refl _ w4).drew
    have hK : Keeps w4 w4.drew := .drew _
    replace hb9 := hb9.keep (.drew w4)
    generalize w4.drew = w5 at hL hK hb9 ⊢
    repeat (first | refine kf_nil ?_ | refine kf_ung rfl rfl ?_ | refine kf_skipg rfl rfl rfl rfl ?_ | (first | refine kf_move rfl rfl (.inl rfl) rfl rfl ?_ | refine kf_move rfl rfl (.inr rfl) rfl rfl ?_ | refine kf_const rfl rfl (.inl rfl) rfl ?_ | refine kf_const rfl rfl (.inr rfl) rfl ?_) | (refine kf_val rfl rfl rfl ?_; apply Exists.intro; refine And.intro (fun W hW N hN => ?_) ?_; · (go_simp; (try go_bits); exact hN)))
    refine kf_ch ?_
    refine kl_call rfl rfl rfl Try.func38 rfl (by kernel_rfl) rfl ?_
    refine Calls.mono (codeInt_B A9 16 c9 _ f.at_ _ hb9 (by omega) hia) ?_
    rintro e w6 ⟨A27, c27, rfl, h27, n27, m27, hb⟩
    have hL := hL.next hb
    have hK := hK.trans (.of_below hb)
    clear hb
    refine ⟨_, rfl, ?_⟩
    refine kl_nil ?_
    refine kq_f hK ?_
    repeat (first | refine kf_nil ?_ | refine kf_ung rfl rfl ?_ | refine kf_skipg rfl rfl rfl rfl ?_ | (first | refine kf_move rfl rfl (.inl rfl) rfl rfl ?_ | refine kf_move rfl rfl (.inr rfl) rfl rfl ?_ | refine kf_const rfl rfl (.inl rfl) rfl ?_ | refine kf_const rfl rfl (.inr rfl) rfl ?_) | (refine kf_val rfl rfl rfl ?_; apply Exists.intro; refine And.intro (fun W hW N hN => ?_) ?_; · (go_simp; (try go_bits); exact hN)))
    refine kf_ch ?_
    refine kl_call rfl rfl rfl Try.func40 rfl (by kernel_rfl) rfl ?_
    refine Calls.mono (codeText_any A27 (16 + 8) c27 _ f.data _ h27 (by omega) n27 m27 (by have := HD.out; omega)) ?_
    rintro e w8 ⟨v8, rfl, hown, hb⟩
    have hL := hL.next hb
    have hK := hK.trans (.of_below hb)
    have hfl : le8 f.kind ++ le8 f.id ++ le8 f.at_ ++ textBytes f.data = frameBody f := by
      unfold frameBody frameTail
      rw [if_neg K1.out, if_pos K2.out]
      simp
    rw [hfl] at hown
    obtain ⟨A8, c8, rfl, hbod, nbod, mbod⟩ := own_B hown
    clear hown hfl
    clear hb
    refine ⟨_, rfl, ?_⟩
    refine kl_nil ?_
    refine kq_f hK ?_
    repeat (first | refine kf_nil ?_ | refine kf_ung rfl rfl ?_ | refine kf_skipg rfl rfl rfl rfl ?_ | (first | refine kf_move rfl rfl (.inl rfl) rfl rfl ?_ | refine kf_move rfl rfl (.inr rfl) rfl rfl ?_ | refine kf_const rfl rfl (.inl rfl) rfl ?_ | refine kf_const rfl rfl (.inr rfl) rfl ?_) | (refine kf_val rfl rfl rfl ?_; apply Exists.intro; refine And.intro (fun W hW N hN => ?_) ?_; · (go_simp; (try go_bits); exact hN)))
    refine kq_block ?_
    refine kq_then ?_
    refine KW.less [3] ?_
    simp only [nrm, lk, Nat.reduceBEq, cond_true, cond_false]
    repeat (first | refine kw_seq ?_ | refine kw_block ?_ | refine kw_skip ?_ | refine kw_region ?_ | refine kl_nil ?_ | refine kq_then ?_ | refine kq_block ?_ | refine kw_exit ?_ | refine kq_then_exit ?_ | refine kq_block_here rfl ?_ | refine kq_block_far rfl ?_ | refine kq_again_exit ?_ | refine kw_ret ?_ | refine kq_then_ret ?_ | refine kq_block_ret ?_ | refine kq_again_ret ?_ | refine kw_ift rfl ?_ | refine kw_iff rfl ?_ | refine kl_ung rfl rfl ?_ | refine kl_skipg rfl rfl rfl rfl ?_ | refine kl_skipg0 rfl rfl rfl ?_ | (first | refine kl_move rfl rfl (.inl rfl) rfl rfl ?_ | refine kl_move rfl rfl (.inr rfl) rfl rfl ?_ | refine kl_const rfl rfl (.inl rfl) rfl ?_ | refine kl_const rfl rfl (.inr rfl) rfl ?_) | ((first | refine kl_step rfl rfl rfl fun K hK => ?_ | refine kl_step0 rfl rfl rfl fun K hK => ?_); go_simp; (try go_bits); (first | refine hK _ _ ?_ | refine hK _ ?_); clear hK K))
    refine kl_call rfl rfl rfl Try.func41 rfl (by kernel_rfl) rfl ?_
    refine Calls.mono (seal_any _ _ _ (frameBody f) _ hbod (by have := frameBody_len f HS.out HD.out; have := hbod.len; omega) nbod mbod) ?_
    rintro e wz ⟨vz, rfl, hown, hb⟩
    refine ⟨_, rfl, ?_⟩
    have hbz := (hL.next hb).below
    rw [← hbod.len, ← length_sealed] at hown
    replace hown := ownsRow_base hown (show w.heap.size ≤ _ from hL.below.size)
    have hown : wz.ownsRow w.heap.size 5 1 vz (frameBytes f).length (bv (frameBytes f)) := hown
    clear hbod hb
    repeat (first | refine kw_seq ?_ | refine kw_block ?_ | refine kw_skip ?_ | refine kw_region ?_ | refine kl_nil ?_ | refine kq_then ?_ | refine kq_block ?_ | refine kw_exit ?_ | refine kq_then_exit ?_ | refine kq_block_here rfl ?_ | refine kq_block_far rfl ?_ | refine kq_again_exit ?_ | refine kw_ret ?_ | refine kq_then_ret ?_ | refine kq_block_ret ?_ | refine kq_again_ret ?_ | refine kw_ift rfl ?_ | refine kw_iff rfl ?_ | refine kl_ung rfl rfl ?_ | refine kl_skipg rfl rfl rfl rfl ?_ | refine kl_skipg0 rfl rfl rfl ?_ | (first | refine kl_move rfl rfl (.inl rfl) rfl rfl ?_ | refine kl_move rfl rfl (.inr rfl) rfl rfl ?_ | refine kl_const rfl rfl (.inl rfl) rfl ?_ | refine kl_const rfl rfl (.inr rfl) rfl ?_) | ((first | refine kl_step rfl rfl rfl fun K hK => ?_ | refine kl_step0 rfl rfl rfl fun K hK => ?_); go_simp; (try go_bits); (first | refine hK _ _ ?_ | refine hK _ ?_); clear hK K))
    exact kq_ret1 rfl rfl ⟨_, rfl, hown, hbz⟩
  · have t1 : (f.kind == 1) = false := by rw [beq_eq_false_iff_ne]; exact k1
    have t2 : (f.kind == 2) = false := by rw [beq_eq_false_iff_ne]; exact k2
    have hbod : Bs w4 A9 16 (frameBody f) := by
      unfold frameBody frameTail
      rw [if_neg k1, if_neg k2, List.append_nil]
      exact hb9
    have nbod := n9
    have mbod := m9
    clear k1 k2
    repeat (first | refine kw_seq ?_ | refine kw_block ?_ | refine kw_skip ?_ | refine kw_region ?_ | refine kl_nil ?_ | refine kq_then ?_ | refine kq_block ?_ | refine kw_exit ?_ | refine kq_then_exit ?_ | refine kq_block_here rfl ?_ | refine kq_block_far rfl ?_ | refine kq_again_exit ?_ | refine kw_ret ?_ | refine kq_then_ret ?_ | refine kq_block_ret ?_ | refine kq_again_ret ?_ | refine kw_ift rfl ?_ | refine kw_iff rfl ?_ | refine kl_ung rfl rfl ?_ | refine kl_skipg rfl rfl rfl rfl ?_ | refine kl_skipg0 rfl rfl rfl ?_ | (first | refine kl_move rfl rfl (.inl rfl) rfl rfl ?_ | refine kl_move rfl rfl (.inr rfl) rfl rfl ?_ | refine kl_const rfl rfl (.inl rfl) rfl ?_ | refine kl_const rfl rfl (.inr rfl) rfl ?_) | ((first | refine kl_step rfl rfl rfl fun K hK => ?_ | refine kl_step0 rfl rfl rfl fun K hK => ?_); go_simp; (try go_bits); (first | refine hK _ _ ?_ | refine hK _ ?_); clear hK K))
    refine kl_call rfl rfl rfl Try.func41 rfl (by kernel_rfl) rfl ?_
    refine Calls.mono (seal_any _ _ _ (frameBody f) _ hbod (by have := frameBody_len f HS.out HD.out; have := hbod.len; omega) nbod mbod) ?_
    rintro e wz ⟨vz, rfl, hown, hb⟩
    refine ⟨_, rfl, ?_⟩
    have hbz := (hL.next hb).below
    rw [← hbod.len, ← length_sealed] at hown
    replace hown := ownsRow_base hown (show w.heap.size ≤ _ from hL.below.size)
    have hown : wz.ownsRow w.heap.size 5 1 vz (frameBytes f).length (bv (frameBytes f)) := hown
    clear hbod hb
    repeat (first | refine kw_seq ?_ | refine kw_block ?_ | refine kw_skip ?_ | refine kw_region ?_ | refine kl_nil ?_ | refine kq_then ?_ | refine kq_block ?_ | refine kw_exit ?_ | refine kq_then_exit ?_ | refine kq_block_here rfl ?_ | refine kq_block_far rfl ?_ | refine kq_again_exit ?_ | refine kw_ret ?_ | refine kq_then_ret ?_ | refine kq_block_ret ?_ | refine kq_again_ret ?_ | refine kw_ift rfl ?_ | refine kw_iff rfl ?_ | refine kl_ung rfl rfl ?_ | refine kl_skipg rfl rfl rfl rfl ?_ | refine kl_skipg0 rfl rfl rfl ?_ | (first | refine kl_move rfl rfl (.inl rfl) rfl rfl ?_ | refine kl_move rfl rfl (.inr rfl) rfl rfl ?_ | refine kl_const rfl rfl (.inl rfl) rfl ?_ | refine kl_const rfl rfl (.inr rfl) rfl ?_) | ((first | refine kl_step rfl rfl rfl fun K hK => ?_ | refine kl_step0 rfl rfl rfl fun K hK => ?_); go_simp; (try go_bits); (first | refine hK _ _ ?_ | refine hK _ ?_); clear hK K))
    exact kq_ret1 rfl rfl ⟨_, rfl, hown, hbz⟩
end Go.Proofs.Ytkgenkkcgegcbaa
