/- SessionCuts: the walk. -/
import Derived.Test.YtonjpjiphcbemaaRegionS
import Derived.Test.YtonjpjiphcbemaaSesOrdK
import Derived.Test.YtonjpjiphcbemaaKnG
import Derived.Test.YtonjpjiphcbemaaKnOps
import Derived.Test.YtonjpjiphcbemaaKnR
namespace Go.Proofs.Ytonjpjiphcbemaa
open Go.RowKit
attribute [local go_sem] ev_tmp ev_const ev_func ev_global lk_hit lk_miss uponK_value uponK_skip look_tmp look_const look_global look_func valP_value
set_option maxRecDepth 100000 in
set_option maxHeartbeats 2000000 in
theorem sessionCuts_top (f : Frm) (D : Value) (x y : Int) (w : World) (hM : FrmM w f D) (hx : -9223372036854775808 ≤ x ∧ x ≤ 9223372036854775807) (hy : -9223372036854775808 ≤ y ∧ y ≤ 9223372036854775807) :
    Calls Try.prog 9 #[.agg (frmV f D).toArray, .int .i64 x, .int .i64 y] w (LawP w) := by
  have HS := Lib.hid hM.sum
  clear hx hy
  refine calls_kw Try.func9 rfl Try.ntmps9 rfl [(0, .agg (frmV f D).toArray), (1, .int .i64 x), (2, .int .i64 y)] rfl ?_
  refine kw_seq ?_
  refine kw_region ?_
  refine kl_boxL (Lay.start w) rfl rfl rfl rfl rfl ?_
  intro g3 w1 eg1 hb1 hL
  have HM := Lib.hid (hM.keep (.of_below hb1))
  clear eg1 hb1 hM
  repeat (first | refine kw_seq ?_ | refine kw_block ?_ | refine kw_skip ?_ | refine kw_region ?_ | refine kl_nil ?_ | refine kq_then ?_ | refine kq_block ?_ | refine kw_exit ?_ | refine kq_then_exit ?_ | refine kq_block_here rfl ?_ | refine kq_block_far rfl ?_ | refine kq_again_exit ?_ | refine kw_ret ?_ | refine kq_then_ret ?_ | refine kq_block_ret ?_ | refine kq_again_ret ?_ | refine kw_ift rfl ?_ | refine kw_iff rfl ?_ | refine kl_ung rfl rfl ?_ | refine kl_skipg rfl rfl rfl rfl ?_ | refine kl_skipg0 rfl rfl rfl ?_ | (first | refine kl_move rfl rfl (.inl rfl) rfl rfl ?_ | refine kl_move rfl rfl (.inr rfl) rfl rfl ?_ | refine kl_const rfl rfl (.inl rfl) rfl ?_ | refine kl_const rfl rfl (.inr rfl) rfl ?_) | ((first | refine kl_step rfl rfl rfl fun K hK => ?_ | refine kl_step0 rfl rfl rfl fun K hK => ?_); go_simp; (try go_bits); (first | refine hK _ _ ?_ | refine hK _ ?_); clear hK K))
  refine kl_call rfl rfl rfl Try.func11 rfl (by kernel_rfl) rfl ?_
  refine Calls.mono (known17_any _) ?_
  rintro e w2 ⟨rfl, hb⟩
  refine ⟨_, rfl, ?_⟩
  have hL := hL.next hb
  have HM := Lib.hid (HM.out.keep (.of_below hb))
  clear hb
  repeat (first | refine kw_seq ?_ | refine kw_block ?_ | refine kw_skip ?_ | refine kw_region ?_ | refine kl_nil ?_ | refine kq_then ?_ | refine kq_block ?_ | refine kw_exit ?_ | refine kq_then_exit ?_ | refine kq_block_here rfl ?_ | refine kq_block_far rfl ?_ | refine kq_again_exit ?_ | refine kw_ret ?_ | refine kq_then_ret ?_ | refine kq_block_ret ?_ | refine kq_again_ret ?_ | refine kw_ift rfl ?_ | refine kw_iff rfl ?_ | refine kl_ung rfl rfl ?_ | refine kl_skipg rfl rfl rfl rfl ?_ | refine kl_skipg0 rfl rfl rfl ?_ | refine kl_getL hL 0 rfl Try.underlying36 rfl (infoF _ _ HS.out) rfl rfl rfl rfl rfl ?_ | (first | refine kl_move rfl rfl (.inl rfl) rfl rfl ?_ | refine kl_move rfl rfl (.inr rfl) rfl rfl ?_ | refine kl_const rfl rfl (.inl rfl) rfl ?_ | refine kl_const rfl rfl (.inr rfl) rfl ?_) | ((first | refine kl_step rfl rfl rfl fun K hK => ?_ | refine kl_step0 rfl rfl rfl fun K hK => ?_); go_simp; (try go_bits); (first | refine hK _ _ ?_ | refine hK _ ?_); clear hK K))
  refine kl_call rfl rfl rfl Try.func22 rfl (by kernel_rfl) rfl ?_
  refine Calls.mono (few17_any f D w2 HM.out) ?_
  rintro e w3 ⟨rfl, hb⟩
  have hL := hL.next hb
  have HM := Lib.hid (HM.out.keep (.of_below hb))
  clear hb
  refine ⟨_, rfl, ?_⟩
  by_cases hfew : f.data.length ≤ 120
  case neg =>
    have t1 : decide (f.data.length ≤ 120) = false := decide_eq_false hfew
    clear hfew
    repeat (first | refine kw_seq ?_ | refine kw_block ?_ | refine kw_skip ?_ | refine kw_region ?_ | refine kl_nil ?_ | refine kq_then ?_ | refine kq_block ?_ | refine kw_exit ?_ | refine kq_then_exit ?_ | refine kq_block_here rfl ?_ | refine kq_block_far rfl ?_ | refine kq_again_exit ?_ | refine kw_ret ?_ | refine kq_then_ret ?_ | refine kq_block_ret ?_ | refine kq_again_ret ?_ | refine kw_ift rfl ?_ | refine kw_iff rfl ?_ | refine kl_ung rfl rfl ?_ | refine kl_skipg rfl rfl rfl rfl ?_ | refine kl_skipg0 rfl rfl rfl ?_ | (first | refine kl_move rfl rfl (.inl rfl) rfl rfl ?_ | refine kl_move rfl rfl (.inr rfl) rfl rfl ?_ | refine kl_const rfl rfl (.inl rfl) rfl ?_ | refine kl_const rfl rfl (.inr rfl) rfl ?_) | ((first | refine kl_step rfl rfl rfl fun K hK => ?_ | refine kl_step0 rfl rfl rfl fun K hK => ?_); go_simp; (try go_bits); (first | refine hK _ _ ?_ | refine hK _ ?_); clear hK K))
    exact kq_ret1 rfl rfl ⟨rfl, hL.below⟩
  have t1 : decide (f.data.length ≤ 120) = true := decide_eq_true hfew
  have HFEW := Lib.hid hfew
  clear hfew
  repeat (first | refine kw_seq ?_ | refine kw_block ?_ | refine kw_skip ?_ | refine kw_region ?_ | refine kl_nil ?_ | refine kq_then ?_ | refine kq_block ?_ | refine kw_exit ?_ | refine kq_then_exit ?_ | refine kq_block_here rfl ?_ | refine kq_block_far rfl ?_ | refine kq_again_exit ?_ | refine kw_ret ?_ | refine kq_then_ret ?_ | refine kq_block_ret ?_ | refine kq_again_ret ?_ | refine kw_ift rfl ?_ | refine kw_iff rfl ?_ | refine kl_ung rfl rfl ?_ | refine kl_skipg rfl rfl rfl rfl ?_ | refine kl_skipg0 rfl rfl rfl ?_ | refine kl_getL hL 0 rfl Try.underlying36 rfl (infoF _ _ HS.out) rfl rfl rfl rfl rfl ?_ | (first | refine kl_move rfl rfl (.inl rfl) rfl rfl ?_ | refine kl_move rfl rfl (.inr rfl) rfl rfl ?_ | refine kl_const rfl rfl (.inl rfl) rfl ?_ | refine kl_const rfl rfl (.inr rfl) rfl ?_) | ((first | refine kl_step rfl rfl rfl fun K hK => ?_ | refine kl_step0 rfl rfl rfl fun K hK => ?_); go_simp; (try go_bits); (first | refine hK _ _ ?_ | refine hK _ ?_); clear hK K))
  refine kl_call rfl rfl rfl Try.func33 rfl (by kernel_rfl) rfl ?_
  refine Calls.mono (good17_any f D w3 HM.out (by have := HFEW.out; omega)) ?_
  rintro e w4 ⟨D4, rfl, hM4, hb, _⟩
  have hL := hL.next hb
  clear hb t1 HM
  obtain ⟨F, hF⟩ : ∃ F, goodF f = F := ⟨_, rfl⟩
  have hFd := goodF_data f
  rw [hF] at hM4 hFd ⊢
  have HFS := Lib.hid hM4.sum
  have HFD : Hid (F.data.length ≤ 60000) := Lib.hid (by omega)
  clear hF hFd
  refine ⟨_, rfl, ?_⟩
  refine kl_call rfl rfl rfl Try.func27 rfl (by kernel_rfl) rfl ?_
  refine Calls.mono (bytes17_any F D4 w4 hM4 HFD.out) ?_
  rintro e w5 ⟨v5, rfl, hown, hb⟩
  have hL := hL.next hb
  obtain ⟨A7, c7, rfl, hB7, hc7, hc7'⟩ := own_B hown
  have hlb := frameBody_len F HFS.out HFD.out
  have hle : (frameBytes F).length = (frameBody F).length + 6 := by unfold frameBytes; rw [length_sealed]
  obtain ⟨B, hBf⟩ : ∃ B, frameBytes F = B := ⟨_, rfl⟩
  rw [hBf] at hB7 hc7 hle ⊢
  have HBF := Lib.hid hBf
  obtain ⟨n, hnB⟩ : ∃ n, B.length = n := ⟨_, rfl⟩
  rw [hnB] at hB7 hc7 hle ⊢
  have HNB := Lib.hid hnB
  have hn6 : 6 ≤ n := by omega
  have hnm : n ≤ 60040 := by omega
  clear hb hown hM4 hlb hle hBf hnB
  refine ⟨_, rfl, ?_⟩
  repeat (first | refine kw_seq ?_ | refine kw_skip ?_ | refine kw_region ?_ | refine kl_nil ?_ | refine kq_then ?_ | refine kq_block ?_ | refine kw_exit ?_ | refine kq_then_exit ?_ | refine kq_block_here rfl ?_ | refine kq_block_far rfl ?_ | refine kq_again_exit ?_ | refine kw_ret ?_ | refine kq_then_ret ?_ | refine kq_block_ret ?_ | refine kq_again_ret ?_ | refine kw_ift rfl ?_ | refine kw_iff rfl ?_ | refine kl_ung rfl rfl ?_ | refine kl_skipg rfl rfl rfl rfl ?_ | refine kl_skipg0 rfl rfl rfl ?_ | (first | refine kl_move rfl rfl (.inl rfl) rfl rfl ?_ | refine kl_move rfl rfl (.inr rfl) rfl rfl ?_ | refine kl_const rfl rfl (.inl rfl) rfl ?_ | refine kl_const rfl rfl (.inr rfl) rfl ?_) | ((first | refine kl_step rfl rfl rfl fun K hK => ?_ | refine kl_step0 rfl rfl rfl fun K hK => ?_); go_simp; (try go_bits); (first | refine hK _ _ ?_ | refine hK _ ?_); clear hK K))
  refine KW.less [1, 2, 7, 8] ?_
  simp only [nrm, lk, Nat.reduceBEq, cond_true, cond_false]
  refine kw_block ?_
  refine kw_loop (fun m L wr => ∃ k, k ≤ n ∧ m = n - k ∧ Lay w wr [(g3, (frmV f D).toArray, 36)] ∧ Hid (Bs wr A7 n B) ∧
    L = [(1, .int .i64 x), (2, .int .i64 y), (7, .slice A7 n c7), (8, .int .i64 (k : Int))]) ⟨0, Nat.zero_le _, rfl, hL, hB7, rfl⟩ ?_
  clear hL hB7
  rintro m L wr ⟨k, hk, rfl, hL, hB, rfl⟩
  by_cases hlt : k < n
  · have t1 : decide ((k : Int) < (n : Int)) = true := by rw [decide_eq_true_eq]; omega
    have t1' : decide (k < n) = true := decide_eq_true hlt
    have k0 : (0 : Int) ≤ k := by omega
    have k1 : (k : Int) ≤ c7 := by omega
    have hBk := hB.out.to_ (k := k) (by omega)
    have hPk : Hid (parseF (B.take k) = (zeroFrm, 8)) := Lib.hid (by
      have hb := HBF.out
      subst hb
      exact parse_cut F HFS.out HFD.out k (by rw [HNB.out]; exact hlt))
    repeat (first | refine kw_seq ?_ | refine kw_block ?_ | refine kw_skip ?_ | refine kw_region ?_ | refine kl_nil ?_ | refine kq_then ?_ | refine kq_block ?_ | refine kw_exit ?_ | refine kq_then_exit ?_ | refine kq_block_here rfl ?_ | refine kq_block_far rfl ?_ | refine kq_again_exit ?_ | refine kw_ret ?_ | refine kq_then_ret ?_ | refine kq_block_ret ?_ | refine kq_again_ret ?_ | refine kw_ift rfl ?_ | refine kw_iff rfl ?_ | refine kl_ung rfl rfl ?_ | refine kl_skipg rfl rfl rfl rfl ?_ | refine kl_skipg0 rfl rfl rfl ?_ | (first | refine kl_move rfl rfl (.inl rfl) rfl rfl ?_ | refine kl_move rfl rfl (.inr rfl) rfl rfl ?_ | refine kl_const rfl rfl (.inl rfl) rfl ?_ | refine kl_const rfl rfl (.inr rfl) rfl ?_) | ((first | refine kl_step rfl rfl rfl fun K hK => ?_ | refine kl_step0 rfl rfl rfl fun K hK => ?_); go_simp; (try go_bits); (first | refine hK _ _ ?_ | refine hK _ ?_); clear hK K))
    refine kl_call rfl rfl rfl Try.func30 rfl (by kernel_rfl) rfl ?_
    refine Calls.mono (parse_any A7 k c7 _ wr hBk (by omega) (by omega) hc7') ?_
    rintro e w6 ⟨D6, rfl, hM6, hb⟩
    have hL := hL.next hb
    have hB := Lib.hid (hB.out.keep (.of_below hb))
    rw [hPk.out] at hM6 ⊢
    obtain ⟨A6, n6, c6, rfl, _, _, _⟩ := hM6.data
    clear hb hM6 hBk hPk t1 t1' k0 k1
    refine ⟨_, rfl, ?_⟩
    repeat (first | refine kw_seq ?_ | refine kw_skip ?_ | refine kw_region ?_ | refine kl_nil ?_ | refine kq_then ?_ | refine kq_block ?_ | refine kw_exit ?_ | refine kq_then_exit ?_ | refine kq_block_here rfl ?_ | refine kq_block_far rfl ?_ | refine kq_again_exit ?_ | refine kw_ret ?_ | refine kq_then_ret ?_ | refine kq_block_ret ?_ | refine kq_again_ret ?_ | refine kw_ift rfl ?_ | refine kw_iff rfl ?_ | refine kl_ung rfl rfl ?_ | refine kl_skipg rfl rfl rfl rfl ?_ | refine kl_skipg0 rfl rfl rfl ?_ | (first | refine kl_move rfl rfl (.inl rfl) rfl rfl ?_ | refine kl_move rfl rfl (.inr rfl) rfl rfl ?_ | refine kl_const rfl rfl (.inl rfl) rfl ?_ | refine kl_const rfl rfl (.inr rfl) rfl ?_) | ((first | refine kl_step rfl rfl rfl fun K hK => ?_ | refine kl_step0 rfl rfl rfl fun K hK => ?_); go_simp; (try go_bits); (first | refine hK _ _ ?_ | refine hK _ ?_); clear hK K))
    refine kl_varL (d := 9) (y := 35) (cells := (frmV zeroFrm (.slice A6 n6 c6)).toArray) hL frmZero (infoF zeroFrm _ z32_len) (sizeZF zeroFrm _ z32_len) (frmV_one zeroFrm _ rfl) rfl rfl rfl rfl rfl rfl rfl rfl rfl ?_
    intro g9 w7 eg hb hL
    have hL := hL.pop
    have hB := Lib.hid (hB.out.keep (.of_below hb))
    clear eg hb
    repeat (first | refine kw_seq ?_ | refine kw_block ?_ | refine kw_skip ?_ | refine kw_region ?_ | refine kl_nil ?_ | refine kq_then ?_ | refine kq_block ?_ | refine kw_exit ?_ | refine kq_then_exit ?_ | refine kq_block_here rfl ?_ | refine kq_block_far rfl ?_ | refine kq_again_exit ?_ | refine kw_ret ?_ | refine kq_then_ret ?_ | refine kq_block_ret ?_ | refine kq_again_ret ?_ | refine kw_ift rfl ?_ | refine kw_iff rfl ?_ | refine kl_ung rfl rfl ?_ | refine kl_skipg rfl rfl rfl rfl ?_ | refine kl_skipg0 rfl rfl rfl ?_ | (first | refine kl_move rfl rfl (.inl rfl) rfl rfl ?_ | refine kl_move rfl rfl (.inr rfl) rfl rfl ?_ | refine kl_const rfl rfl (.inl rfl) rfl ?_ | refine kl_const rfl rfl (.inr rfl) rfl ?_) | ((first | refine kl_step rfl rfl rfl fun K hK => ?_ | refine kl_step0 rfl rfl rfl fun K hK => ?_); go_simp; (try go_bits); (first | refine hK _ _ ?_ | refine hK _ ?_); clear hK K))
    refine kq_again (n - (k + 1)) [1, 2, 7, 8] (by omega) ?_
    simp only [nrm, lk, Nat.reduceBEq, cond_true, cond_false]
    exact ⟨k + 1, by omega, rfl, hL, hB, by simp only [Int.natCast_add]; rfl⟩
  · obtain rfl : k = n := by omega
    have t1 : decide ((k : Int) < (k : Int)) = false := by rw [decide_eq_false_iff_not]; omega
    have t1' : decide (k < k) = false := decide_eq_false hlt
    have hB := hB.out
    clear hlt hk
    repeat (first | refine kw_seq ?_ | refine kw_region ?_ | refine kl_nil ?_ | refine kq_then ?_ | refine kq_block ?_ | refine kw_exit ?_ | refine kq_then_exit ?_ | refine kq_block_here rfl ?_ | refine kq_again_exit ?_ | refine kw_iff rfl ?_ | (first | refine kl_move rfl rfl (.inl rfl) rfl rfl ?_ | refine kl_move rfl rfl (.inr rfl) rfl rfl ?_ | refine kl_const rfl rfl (.inl rfl) rfl ?_ | refine kl_const rfl rfl (.inr rfl) rfl ?_) | ((first | refine kl_step rfl rfl rfl fun K hK => ?_ | refine kl_step0 rfl rfl rfl fun K hK => ?_); go_simp; (try go_bits); (first | refine hK _ _ ?_ | refine hK _ ?_); clear hK K))
    refine kl_clone _ rfl A7 k c7 B hB (by omega) rfl rfl rfl rfl rfl rfl ?_
    intro v1 w6 hown hb
    clear t1 t1'
    ((first | refine kl_step rfl rfl rfl fun K hK => ?_ | refine kl_step0 rfl rfl rfl fun K hK => ?_); go_simp; (try go_bits); (first | refine hK _ _ ?_ | refine hK _ ?_); clear hK K)
    have hb7 : Below wr.heap.size wr (w6.alloc (.cells #[.int .u8 0] 5)) := below_two hb ((Below.refl _ _).alloc (Nat.le_refl _) _)
    have hown7 := own_below hown (show Below w6.heap.size w6 (w6.alloc (.cells #[.int .u8 0] 5)) from (Below.refl _ _).alloc (Nat.le_refl _) _)
    have hlit : Bs (w6.alloc (.cells #[.int .u8 0] 5)) (some ⟨w6.heap.size, 0, none⟩) 1 [0] := Bs.lit 5 rfl [0] rfl rfl
    refine kl_append wr.heap.size v1 k B hown7 (some ⟨w6.heap.size, 0, none⟩) 1 1 [0] hlit (by omega) hb7.size rfl rfl rfl rfl rfl rfl ?_
    intro v2 w8 hown8 hg8 _
    have hb8 := below_append hb7 hg8 hown7 hb7.size
    have hL := hL.next hb8
    have hB := hB.keep (.of_below hb8)
    clear hb7 hown7 hlit hb hown hg8 hb8
    obtain ⟨A2, c2, rfl, hB2, hc2, hc2'⟩ := own_B hown8
    clear hown8
    have hPm : Hid (parseF (B ++ [0]) = (zeroFrm, 9)) := Lib.hid (by
      have hb := HBF.out
      subst hb
      exact parse_more F HFS.out HFD.out [0] (by simp))
    refine kl_call rfl rfl rfl Try.func30 rfl (by kernel_rfl) rfl ?_
    refine Calls.mono (parse_any A2 (k + 1) c2 _ w8 hB2 (by omega) hc2 hc2') ?_
    rintro e w9 ⟨D9, rfl, hM9, hb⟩
    have hL := hL.next hb
    have hB := hB.keep (.of_below hb)
    rw [hPm.out] at hM9 ⊢
    obtain ⟨A9, n9, c9, rfl, _, _, _⟩ := hM9.data
    clear hb hM9 hB2 hc2 hc2' hPm
    refine ⟨_, rfl, ?_⟩
    repeat (first | refine kw_seq ?_ | refine kw_skip ?_ | refine kw_region ?_ | refine kl_nil ?_ | refine kq_then ?_ | refine kq_block ?_ | refine kw_exit ?_ | refine kq_then_exit ?_ | refine kq_block_here rfl ?_ | refine kq_block_far rfl ?_ | refine kq_again_exit ?_ | refine kw_ret ?_ | refine kq_then_ret ?_ | refine kq_block_ret ?_ | refine kq_again_ret ?_ | refine kw_ift rfl ?_ | refine kw_iff rfl ?_ | refine kl_ung rfl rfl ?_ | refine kl_skipg rfl rfl rfl rfl ?_ | refine kl_skipg0 rfl rfl rfl ?_ | (first | refine kl_move rfl rfl (.inl rfl) rfl rfl ?_ | refine kl_move rfl rfl (.inr rfl) rfl rfl ?_ | refine kl_const rfl rfl (.inl rfl) rfl ?_ | refine kl_const rfl rfl (.inr rfl) rfl ?_) | ((first | refine kl_step rfl rfl rfl fun K hK => ?_ | refine kl_step0 rfl rfl rfl fun K hK => ?_); go_simp; (try go_bits); (first | refine hK _ _ ?_ | refine hK _ ?_); clear hK K))
    refine kl_varL (d := 11) (y := 46) (cells := (frmV zeroFrm (.slice A9 n9 c9)).toArray) hL frmZero (infoF zeroFrm _ z32_len) (sizeZF zeroFrm _ z32_len) (frmV_one zeroFrm _ rfl) rfl rfl rfl rfl rfl rfl rfl rfl rfl ?_
    intro g11 w10 eg hb hL
    have hL := hL.pop
    replace hB := hB.keep (.of_below hb)
    clear eg hb
    repeat (first | refine kw_seq ?_ | refine kw_region ?_ | refine kl_nil ?_ | refine kq_then ?_ | (first | refine kl_move rfl rfl (.inl rfl) rfl rfl ?_ | refine kl_move rfl rfl (.inr rfl) rfl rfl ?_ | refine kl_const rfl rfl (.inl rfl) rfl ?_ | refine kl_const rfl rfl (.inr rfl) rfl ?_) | ((first | refine kl_step rfl rfl rfl fun K hK => ?_ | refine kl_step0 rfl rfl rfl fun K hK => ?_); go_simp; (try go_bits); (first | refine hK _ _ ?_ | refine hK _ ?_); clear hK K))
    refine kl_clone _ rfl A7 k c7 B hB (by omega) rfl rfl rfl rfl rfl rfl ?_
    intro v13 w11 hown hb
    have hgx := hown
    obtain ⟨gx, cx, rfl, d1, d2, d3, d4⟩ := own_form hown (by omega)
    have hL0 := hL
    have hL := hL.next hb
    have ngx : ∀ p ∈ [(g3, (frmV f D).toArray, 36)], p.1 ≠ gx := fun p hp => by
      have := hL0.vars.lt p hp
      omega
    have hge : w.heap.size ≤ gx := Nat.le_trans hL0.below.size d1
    have HOWN := Lib.hid hown
    clear hb hown hgx hL0
    have t3 : decide ((k : Int) < 3) = false := by rw [decide_eq_false_iff_not]; omega
    have t3' : decide (k < 3) = false := by rw [decide_eq_false_iff_not]; omega
    repeat (first | refine kw_seq ?_ | refine kw_region ?_ | refine kl_nil ?_ | refine kq_then ?_ | refine kw_iff rfl ?_ | refine kw_skip ?_ | (first | refine kl_move rfl rfl (.inl rfl) rfl rfl ?_ | refine kl_move rfl rfl (.inr rfl) rfl rfl ?_ | refine kl_const rfl rfl (.inl rfl) rfl ?_ | refine kl_const rfl rfl (.inr rfl) rfl ?_) | ((first | refine kl_step rfl rfl rfl fun K hK => ?_ | refine kl_step0 rfl rfl rfl fun K hK => ?_); go_simp; (try go_bits); (first | refine hK _ _ ?_ | refine hK _ ?_); clear hK K))
    obtain ⟨K2, hK2⟩ : ∃ K2, k = K2 + 2 := ⟨k - 2, by omega⟩
    have s1 : (k : Int) - 2 = (K2 : Int) := by omega
    have s2 : IntKind.i64.wrap ((k : Int) - 2) = (K2 : Int) := by rw [s1, IntWalk.i64_in _ (by omega)]
    have HK2 := Lib.hid hK2
    have hK2b : K2 ≤ 60040 := by omega
    have hK20 : 0 < K2 := by omega
    have hi := within_lt x K2 (by omega)
    have hs8 := within_lt y 8 (by omega)
    obtain ⟨i, hie⟩ : ∃ i, within x K2 = i := ⟨_, rfl⟩
    obtain ⟨s, hse⟩ : ∃ s, within y 8 = s := ⟨_, rfl⟩
    rw [hie] at hi
    rw [hse] at hs8
    have HIE := Lib.hid hie
    have HSE := Lib.hid hse
    have hik : 2 + i < k := by omega
    have i0 : (0 : Int) ≤ 2 + (i : Int) := by omega
    have i1 : 2 + (i : Int) < k := by omega
    have i2 : 2 + (i : Int) < cx := by omega
    have q0 : (0 : Int) ≤ s := by omega
    have q1 : (s : Int) < 8 := by omega
    obtain ⟨x0, hx0⟩ : ∃ x0, B[2 + i]? = some x0 := ⟨_, List.getElem?_eq_getElem (by rw [HNB.out]; exact hik)⟩
    have HX0 := Lib.hid hx0
    obtain ⟨x1, hx1⟩ : ∃ x1, x0 ^^^ oneBit s = x1 := ⟨_, rfl⟩
    have hex := u8_xor_u x0 (oneBit s)
    rw [hx1] at hex
    have HX1 := Lib.hid hx1
    have hbit : IntKind.u8.wrap ((2 : Int) ^ s) = ((oneBit s).toNat : Int) := oneBit_code2 s hs8
    have hbit2 : ((2 : Int) ^ s % 256) = ((oneBit s).toNat : Int) := by
      have h := oneBit_code s hs8
      rwa [Int.toNat_natCast, Nat.min_eq_left (by omega)] at h
    have hPt : Hid ((parseF (B.set (2 + i) x1)).2 = 10) := Lib.hid (by
      have hb := HBF.out
      subst hb
      have hne : x0 ≠ x1 := by rw [← hx1]; exact xor_other x0 _ (oneBit_ne s hs8)
      exact parse_turned F HFS.out HFD.out i x0 x1 (by rw [HNB.out]; omega) hx0 hne)
    clear hie hse hx1 hx0 hK2 s1 t3 t3' hB
    refine KW.less [1, 2, 12, 13, 15] ?_
    simp only [nrm, lk, Nat.reduceBEq, cond_true, cond_false]
    have hL := hL.next (Below.refl _ w11).drew
    have HOWN : Hid (w11.drew.ownsRow w10.heap.size 5 1 (.slice (some ⟨gx, 0, none⟩) k cx) k (bv B)) := HOWN
    have ccx := own_cell HOWN.out HX0.out
    have ffx := own_free (j := 2 + i) HOWN.out
    have fin : KW Try.prog (restAt Try.f9 17) (bodyPost Try.prog Try.f9 (LawP w)) 80 [(12, .int .i64 9), (13, .slice (some ⟨gx, 0, none⟩) k cx)] (w11.drew.setCell ⟨gx, 2 + i, none⟩ (.int .u8 (x1.toNat : Int))) := by
      conv => arg 2; whnf
      have hB2 := (own_B (own_set HOWN.out (2 + i) x1))
      obtain ⟨A', c', e', hB2, _, _⟩ := hB2
      injection e' with e1 e2 e3
      subst e1; subst e3
      have hLs : Lay w (w11.drew.setCell ⟨gx, 2 + i, none⟩ (.int .u8 (x1.toNat : Int))) [(g3, (frmV f D).toArray, 36)] := ⟨hL.below.setCell hge _, hL.vars.grown (grown_set _ _ _ _) ngx⟩
      generalize w11.drew.setCell ⟨gx, 2 + i, none⟩ (.int .u8 (x1.toNat : Int)) = w12 at *
      clear ccx ffx hL hex hbit hbit2 i0 i1 i2 s2
      repeat (first | refine kw_seq ?_ | refine kw_block ?_ | refine kw_skip ?_ | refine kw_region ?_ | refine kl_nil ?_ | refine kq_then ?_ | refine kq_block ?_ | refine kw_exit ?_ | refine kq_then_exit ?_ | refine kq_block_here rfl ?_ | refine kq_block_far rfl ?_ | refine kq_again_exit ?_ | refine kw_ret ?_ | refine kq_then_ret ?_ | refine kq_block_ret ?_ | refine kq_again_ret ?_ | refine kw_ift rfl ?_ | refine kw_iff rfl ?_ | refine kl_ung rfl rfl ?_ | refine kl_skipg rfl rfl rfl rfl ?_ | refine kl_skipg0 rfl rfl rfl ?_ | (first | refine kl_move rfl rfl (.inl rfl) rfl rfl ?_ | refine kl_move rfl rfl (.inr rfl) rfl rfl ?_ | refine kl_const rfl rfl (.inl rfl) rfl ?_ | refine kl_const rfl rfl (.inr rfl) rfl ?_) | ((first | refine kl_step rfl rfl rfl fun K hK => ?_ | refine kl_step0 rfl rfl rfl fun K hK => ?_); go_simp; (try go_bits); (first | refine hK _ _ ?_ | refine hK _ ?_); clear hK K))
      refine kl_call rfl rfl rfl Try.func30 rfl (by kernel_rfl) rfl ?_
      refine Calls.mono (parse_any (some ⟨gx, 0, none⟩) k cx _ w12 hB2 (by omega) d3 d4) ?_
      rintro e w13 ⟨D13, rfl, hM13, hb⟩
      have hL := hLs.next hb
      rw [hPt.out]
      have HS13 := Lib.hid hM13.sum
      obtain ⟨A13, n13, c13, rfl, _, _, _⟩ := hM13.data
      generalize (parseF (B.set (2 + i) x1)).1 = F13 at *
      clear hb hM13 hB2 hLs
      refine ⟨_, rfl, ?_⟩
      repeat (first | refine kw_seq ?_ | refine kw_skip ?_ | refine kw_region ?_ | refine kl_nil ?_ | refine kq_then ?_ | refine kq_block ?_ | refine kw_exit ?_ | refine kq_then_exit ?_ | refine kq_block_here rfl ?_ | refine kq_block_far rfl ?_ | refine kq_again_exit ?_ | refine kw_ret ?_ | refine kq_then_ret ?_ | refine kq_block_ret ?_ | refine kq_again_ret ?_ | refine kw_ift rfl ?_ | refine kw_iff rfl ?_ | refine kl_ung rfl rfl ?_ | refine kl_skipg rfl rfl rfl rfl ?_ | refine kl_skipg0 rfl rfl rfl ?_ | (first | refine kl_move rfl rfl (.inl rfl) rfl rfl ?_ | refine kl_move rfl rfl (.inr rfl) rfl rfl ?_ | refine kl_const rfl rfl (.inl rfl) rfl ?_ | refine kl_const rfl rfl (.inr rfl) rfl ?_) | ((first | refine kl_step rfl rfl rfl fun K hK => ?_ | refine kl_step0 rfl rfl rfl fun K hK => ?_); go_simp; (try go_bits); (first | refine hK _ _ ?_ | refine hK _ ?_); clear hK K))
      refine kl_varL (d := 14) (y := 72) (cells := (frmV F13 (.slice A13 n13 c13)).toArray) hL frmZero (infoF F13 _ HS13.out) (sizeZF F13 _ HS13.out) (frmV_one F13 _ rfl) rfl rfl rfl rfl rfl rfl rfl rfl rfl ?_
      intro g14 w14 eg hb hL
      clear eg hb
      repeat (first | refine kw_seq ?_ | refine kw_block ?_ | refine kw_skip ?_ | refine kw_region ?_ | refine kl_nil ?_ | refine kq_then ?_ | refine kq_block ?_ | refine kw_exit ?_ | refine kq_then_exit ?_ | refine kq_block_here rfl ?_ | refine kq_block_far rfl ?_ | refine kq_again_exit ?_ | refine kw_ret ?_ | refine kq_then_ret ?_ | refine kq_block_ret ?_ | refine kq_again_ret ?_ | refine kw_ift rfl ?_ | refine kw_iff rfl ?_ | refine kl_ung rfl rfl ?_ | refine kl_skipg rfl rfl rfl rfl ?_ | refine kl_skipg0 rfl rfl rfl ?_ | (first | refine kl_move rfl rfl (.inl rfl) rfl rfl ?_ | refine kl_move rfl rfl (.inr rfl) rfl rfl ?_ | refine kl_const rfl rfl (.inl rfl) rfl ?_ | refine kl_const rfl rfl (.inr rfl) rfl ?_) | ((first | refine kl_step rfl rfl rfl fun K hK => ?_ | refine kl_step0 rfl rfl rfl fun K hK => ?_); go_simp; (try go_bits); (first | refine hK _ _ ?_ | refine hK _ ?_); clear hK K))
      exact kq_ret1 rfl rfl ⟨rfl, hL.below⟩
    have FIN := Lib.hid fin
    clear fin
    refine kw_region_g (fun _ => True) [true, true, true, true, true, false, true, true, false, true, false, true, true, true, true, false] [0, 1, 2, 3, 4, 5, 6, 7, 9, 14] [[8, 10, 11, 12, 13, 15], [10, 8, 11, 12, 13, 15]] (by kernel_rfl) (by kernel_rfl) trivial ?_
    simp only [pickO, pickF, nthO, nthB]
    repeat (first | refine kf_nil ?_ | refine kf_ung rfl rfl ?_ | refine kf_skipg rfl rfl rfl rfl ?_ | (first | refine kf_move rfl rfl (.inl rfl) rfl rfl ?_ | refine kf_move rfl rfl (.inr rfl) rfl rfl ?_ | refine kf_const rfl rfl (.inl rfl) rfl ?_ | refine kf_const rfl rfl (.inr rfl) rfl ?_) | (refine kf_val rfl rfl rfl ?_; apply Exists.intro; refine And.intro (fun W hW N hN => ?_) ?_; · (go_simp; (try go_bits); exact hN)))
    refine kf_ch ?_
    refine kl_call rfl rfl rfl Try.func12 rfl (by kernel_rfl) rfl ?_
    refine Calls.mono (within_any x K2 _ _ rfl (by omega) (by omega)) ?_
    rintro e _ ⟨rfl, rfl⟩
    rw [HIE.out]
    refine ⟨_, rfl, ?_⟩
    refine kl_nil ?_
    refine kq_f trivial ?_
    repeat (first | refine kf_nil ?_ | refine kf_ung rfl rfl ?_ | refine kf_skipg rfl rfl rfl rfl ?_ | (first | refine kf_move rfl rfl (.inl rfl) rfl rfl ?_ | refine kf_move rfl rfl (.inr rfl) rfl rfl ?_ | refine kf_const rfl rfl (.inl rfl) rfl ?_ | refine kf_const rfl rfl (.inr rfl) rfl ?_) | (refine kf_val rfl rfl rfl ?_; apply Exists.intro; refine And.intro (fun W hW N hN => ?_) ?_; · (go_simp; (try go_bits); exact hN)))
    refine kq_fork2 ?_ ?_ <;> simp only [pickO, pickF, nthO, nthB]
    · refine kf_ch ?_
      ((first | refine kl_step rfl rfl rfl fun K hK => ?_ | refine kl_step0 rfl rfl rfl fun K hK => ?_); go_simp; (try go_bits); (first | refine hK _ _ ?_ | refine hK _ ?_); clear hK K)
      refine kl_nil ?_
      refine kq_f trivial ?_
      refine kf_ch ?_
      refine kl_call rfl rfl rfl Try.func12 rfl (by kernel_rfl) rfl ?_
      refine Calls.mono (within_any y 8 _ _ rfl (by omega) (by omega)) ?_
      rintro e _ ⟨rfl, rfl⟩
      rw [HSE.out]
      refine ⟨_, rfl, ?_⟩
      refine kl_nil ?_
      refine kq_f trivial ?_
      repeat (first | refine kf_nil ?_ | refine kf_ung rfl rfl ?_ | refine kf_skipg rfl rfl rfl rfl ?_ | (first | refine kf_move rfl rfl (.inl rfl) rfl rfl ?_ | refine kf_move rfl rfl (.inr rfl) rfl rfl ?_ | refine kf_const rfl rfl (.inl rfl) rfl ?_ | refine kf_const rfl rfl (.inr rfl) rfl ?_) | (refine kf_val rfl rfl rfl ?_; apply Exists.intro; refine And.intro (fun W hW N hN => ?_) ?_; · (go_simp; (try go_bits); exact hN)))
      refine kf_ch ?_
      ((first | refine kl_step rfl rfl rfl fun K hK => ?_ | refine kl_step0 rfl rfl rfl fun K hK => ?_); go_simp; (try go_bits); (first | refine hK _ _ ?_ | refine hK _ ?_); clear hK K)
      refine kl_nil ?_
      refine kq_f trivial ?_
      refine kf_nil ?_
      refine kq_then ?_
      refine KW.less [12, 13] ?_
      simp only [nrm, lk, Nat.reduceBEq, cond_true, cond_false]
      exact FIN.out
    · refine kf_ch ?_
      refine kl_call rfl rfl rfl Try.func12 rfl (by kernel_rfl) rfl ?_
      refine Calls.mono (within_any y 8 _ _ rfl (by omega) (by omega)) ?_
      rintro e _ ⟨rfl, rfl⟩
      rw [HSE.out]
      refine ⟨_, rfl, ?_⟩
      refine kl_nil ?_
      refine kq_f trivial ?_
      refine kf_ch ?_
      ((first | refine kl_step rfl rfl rfl fun K hK => ?_ | refine kl_step0 rfl rfl rfl fun K hK => ?_); go_simp; (try go_bits); (first | refine hK _ _ ?_ | refine hK _ ?_); clear hK K)
      refine kl_nil ?_
      refine kq_f trivial ?_
      repeat (first | refine kf_nil ?_ | refine kf_ung rfl rfl ?_ | refine kf_skipg rfl rfl rfl rfl ?_ | (first | refine kf_move rfl rfl (.inl rfl) rfl rfl ?_ | refine kf_move rfl rfl (.inr rfl) rfl rfl ?_ | refine kf_const rfl rfl (.inl rfl) rfl ?_ | refine kf_const rfl rfl (.inr rfl) rfl ?_) | (refine kf_val rfl rfl rfl ?_; apply Exists.intro; refine And.intro (fun W hW N hN => ?_) ?_; · (go_simp; (try go_bits); exact hN)))
      refine kf_ch ?_
      ((first | refine kl_step rfl rfl rfl fun K hK => ?_ | refine kl_step0 rfl rfl rfl fun K hK => ?_); go_simp; (try go_bits); (first | refine hK _ _ ?_ | refine hK _ ?_); clear hK K)
      refine kl_nil ?_
      refine kq_f trivial ?_
      refine kf_nil ?_
      refine kq_then ?_
      refine KW.less [12, 13] ?_
      simp only [nrm, lk, Nat.reduceBEq, cond_true, cond_false]
      exact FIN.out
end Go.Proofs.Ytonjpjiphcbemaa
