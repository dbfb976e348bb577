/- SessionOrders: the walk behind a chunk. -/
import Derived.Test.YtonjpjiphcbemaaSesOrdK
import Derived.Test.YtonjpjiphcbemaaSesKnown
namespace Go.Proofs.Ytonjpjiphcbemaa
open Go.RowKit
attribute [local go_sem] ev_tmp ev_const ev_func ev_global lk_hit lk_miss uponK_value uponK_skip look_tmp look_const look_global look_func
set_option maxRecDepth 100000 in
set_option maxHeartbeats 4000000 in
theorem orders_end {w wr : World} {g7 gg g14 n q N k c L1 : Nat} {A : Option Addr} {v2 v12 D Gv D2 G2 : Value} {b : List UInt8} {s s2 : Ses} {G : List Bool} {x : Bool} {Q : Exit → Act → World → Prop} (h0 : 0 < n) (hn : n ≤ 300) (hq : 0 < q) (hk : k < N) (hN : N ≤ 300) (hA : Bs w A n b) (hx : G[k]? = some x) (hO : OrdI b q s2 (G.set k true)) (hS : s.sum.length = 32) (hM : SesM wr s2 D2 G2) (h1 : L1 = cnt false (G.set k true)) (ag : Apart gg D2 G2) (a7 : Apart g7 D2 G2)
  (hL : Lay w wr [(g14, (sesV s2 D2 G2).toArray, 30), (gg, (bls G).toArray, 4), (g7, (sesV s D Gv).toArray, 30)])
  (hQ : ∀ (w' : World) (D' G' : Value) (s' : Ses) (L1 : Nat), OrdI b q s' (G.set k true) → SesM w' s' D' G' → L1 = cnt false (G.set k true) → Lay w w' [(gg, (bls (G.set k true)).toArray, 4), (g7, (sesV s' D' G').toArray, 30)] → KQ Q .normal 154 [(0, .slice A n c), (1, .int .i64 (q : Int)), (2, v2), (7, .pointer (some ⟨g7, 0, none⟩)), (9, .int .i64 (N : Int)), (10, .slice (some ⟨gg, 0, none⟩) N N), (11, .int .i64 (L1 : Int)), (12, v12)] w') :
    KW Try.prog (restAt Try.f3 24) Q 154 [(0, .slice A n c), (1, .int .i64 (q : Int)), (2, v2), (7, .pointer (some ⟨g7, 0, none⟩)), (9, .int .i64 (N : Int)), (10, .slice (some ⟨gg, 0, none⟩) N N), (11, .int .i64 (L1 : Int)), (12, v12), (13, .int .i64 (k : Int)), (14, .pointer (some ⟨g14, 0, none⟩))] wr := by
  conv => arg 2; whnf
  have HA := Lib.hid hA
  have HO := Lib.hid hO
  have HS := Lib.hid hS
  have HS2 := Lib.hid hM.sum
  have H1 := Lib.hid h1
  have HQ := Lib.hid hQ
  have hlN := hA.len
  have HLN := Lib.hid hlN
  have k0 : (0 : Int) ≤ k := by omega
  have k1 : (k : Int) < N := by omega
  have cx := hL.get 1 rfl (bls_at hx)
  have fx := hL.free 1 rfl k
  have hM3 := hM.far (j := k) ag (.bool true)
  have hL3 := hL.cell 1 rfl k (.bool true)
  replace hL3 : Lay w (wr.setCell ⟨gg, k, none⟩ (.bool true)) [(g14, (sesV s2 D2 G2).toArray, 30), (gg, ((bls G).set k (.bool true)).toArray, 4), (g7, (sesV s D Gv).toArray, 30)] := hL3
  rw [bls_set] at hL3
  clear hA hO hS h1 hQ hlN hM hL hx
  repeat (first | refine kw_seq ?_ | refine kw_block ?_ | refine kw_skip ?_ | refine kw_region ?_ | refine kl_nil ?_ | refine kq_then ?_ | refine kq_block ?_ | refine kw_exit ?_ | refine kq_then_exit ?_ | refine kq_block_here rfl ?_ | refine kq_block_far rfl ?_ | refine kq_again_exit ?_ | refine kw_ret ?_ | refine kq_then_ret ?_ | refine kq_block_ret ?_ | refine kq_again_ret ?_ | refine kw_ift rfl ?_ | refine kw_iff rfl ?_ | refine kl_ung rfl rfl ?_ | refine kl_skipg rfl rfl rfl rfl ?_ | refine kl_skipg0 rfl rfl rfl ?_ | (first | refine kl_move rfl rfl (.inl rfl) rfl rfl ?_ | refine kl_move rfl rfl (.inr rfl) rfl rfl ?_ | refine kl_const rfl rfl (.inl rfl) rfl ?_ | refine kl_const rfl rfl (.inr rfl) rfl ?_) | ((first | refine kl_step rfl rfl rfl fun K hK => ?_ | refine kl_step0 rfl rfl rfl fun K hK => ?_); go_simp; (try go_bits); (first | refine hK _ _ ?_ | refine hK _ ?_); clear hK K))
  clear cx fx
  have HM := Lib.hid hM3
  have hL := hL3
  clear hM3 hL3
  generalize wr.setCell ⟨gg, k, none⟩ (.bool true) = w1 at *
  repeat (first | refine kw_seq ?_ | refine kw_block ?_ | refine kw_skip ?_ | refine kw_region ?_ | refine kl_nil ?_ | refine kq_then ?_ | refine kq_block ?_ | refine kw_exit ?_ | refine kq_then_exit ?_ | refine kq_block_here rfl ?_ | refine kq_block_far rfl ?_ | refine kq_again_exit ?_ | refine kw_ret ?_ | refine kq_then_ret ?_ | refine kq_block_ret ?_ | refine kq_again_ret ?_ | refine kw_ift rfl ?_ | refine kw_iff rfl ?_ | refine kl_ung rfl rfl ?_ | refine kl_skipg rfl rfl rfl rfl ?_ | refine kl_skipg0 rfl rfl rfl ?_ | refine kl_getL hL 0 rfl Try.underlying30 rfl (infoS _ _ _ HS2.out) rfl rfl rfl rfl rfl ?_ | (first | refine kl_move rfl rfl (.inl rfl) rfl rfl ?_ | refine kl_move rfl rfl (.inr rfl) rfl rfl ?_ | refine kl_const rfl rfl (.inl rfl) rfl ?_ | refine kl_const rfl rfl (.inr rfl) rfl ?_) | ((first | refine kl_step rfl rfl rfl fun K hK => ?_ | refine kl_step0 rfl rfl rfl fun K hK => ?_); go_simp; (try go_bits); (first | refine hK _ _ ?_ | refine hK _ ?_); clear hK K))
  refine kl_putL (cells := (sesV s2 D2 G2).toArray) hL 2 rfl (infoS s2 D2 G2 HS2.out) (sizeS s s2 _ _ _ _ HS.out HS2.out) (sesV_one _ _ _ HM.out.data.one HM.out.got.one) rfl rfl rfl rfl rfl (fun hL' => ?_)
  have HM := Lib.hid (HM.out.farRow a7 (sesV s2 D2 G2).toArray)
  have hL := hL'.pop
  clear hL'
  generalize w1.setRow g7 (sesV s2 D2 G2).toArray = w2 at *
  replace hL : Lay w w2 [(gg, (bls (G.set k true)).toArray, 4), (g7, (sesV s2 D2 G2).toArray, 30)] := hL
  repeat (first | refine kw_seq ?_ | refine kw_block ?_ | refine kw_skip ?_ | refine kw_region ?_ | refine kl_nil ?_ | refine kq_then ?_ | refine kq_block ?_ | refine kw_exit ?_ | refine kq_then_exit ?_ | refine kq_block_here rfl ?_ | refine kq_block_far rfl ?_ | refine kq_again_exit ?_ | refine kw_ret ?_ | refine kq_then_ret ?_ | refine kq_block_ret ?_ | refine kq_again_ret ?_ | refine kw_ift rfl ?_ | refine kw_iff rfl ?_ | refine kl_ung rfl rfl ?_ | refine kl_skipg rfl rfl rfl rfl ?_ | refine kl_skipg0 rfl rfl rfl ?_ | refine kl_getL hL 1 rfl Try.underlying30 rfl (infoS _ _ _ HS2.out) rfl rfl rfl rfl rfl ?_ | (first | refine kl_move rfl rfl (.inl rfl) rfl rfl ?_ | refine kl_move rfl rfl (.inr rfl) rfl rfl ?_ | refine kl_const rfl rfl (.inl rfl) rfl ?_ | refine kl_const rfl rfl (.inr rfl) rfl ?_) | ((first | refine kl_step rfl rfl rfl fun K hK => ?_ | refine kl_step0 rfl rfl rfl fun K hK => ?_); go_simp; (try go_bits); (first | refine hK _ _ ?_ | refine hK _ ?_); clear hK K))
  refine kl_call rfl rfl rfl Try.func16 rfl (by kernel_rfl) rfl ?_
  refine Calls.mono (whole_any s2 D2 G2 w2 HM.out (by rw [HO.out.gl]; have := HLN.out; omega) (by rw [HO.out.dl]; have := HLN.out; omega)) ?_
  rintro e w3 ⟨V, rfl, hV, hb3⟩
  have hL := hL.next hb3
  have HM := Lib.hid (HM.out.keep (.of_below hb3))
  have hw := ord_whole hq HO.out
  rw [← H1.out] at hw
  by_cases hl : L1 = 0
  · obtain ⟨_, hE, hB⟩ := hw.1 hl
    rw [hB] at hV
    rw [hE]
    obtain ⟨AV, mV, cV, rfl, hVb, _, _⟩ := hV
    have hcv1 := convB (c := cV) hVb
    have hcv2 := convB (c := c) (HA.out.keep (.of_below hL.below))
    have t1 : ((L1 : Int) == 0) = true := by rw [beq_iff_eq]; omega
    refine ⟨_, rfl, ?_⟩
    clear hb3 hVb hw hE hB hl
    repeat (first | refine kw_seq ?_ | refine kw_block ?_ | refine kw_skip ?_ | refine kw_region ?_ | refine kl_nil ?_ | refine kq_then ?_ | refine kq_block ?_ | refine kw_exit ?_ | refine kq_then_exit ?_ | refine kq_block_here rfl ?_ | refine kq_block_far rfl ?_ | refine kq_again_exit ?_ | refine kw_ret ?_ | refine kq_then_ret ?_ | refine kq_block_ret ?_ | refine kq_again_ret ?_ | refine kw_ift rfl ?_ | refine kw_iff rfl ?_ | refine kl_ung rfl rfl ?_ | refine kl_skipg rfl rfl rfl rfl ?_ | refine kl_skipg0 rfl rfl rfl ?_ | (first | refine kl_move rfl rfl (.inl rfl) rfl rfl ?_ | refine kl_move rfl rfl (.inr rfl) rfl rfl ?_ | refine kl_const rfl rfl (.inl rfl) rfl ?_ | refine kl_const rfl rfl (.inr rfl) rfl ?_) | ((first | refine kl_step rfl rfl rfl fun K hK => ?_ | refine kl_step0 rfl rfl rfl fun K hK => ?_); go_simp; (try go_bits); (first | refine hK _ _ ?_ | refine hK _ ?_); clear hK K))
    refine KQ.less [0, 1, 2, 7, 9, 10, 11, 12] ?_
    simp only [nrm, lk, Nat.reduceBEq, cond_true, cond_false]
    exact HQ.out w3 D2 G2 s2 L1 HO.out HM.out H1.out hL
  · obtain ⟨hE, hB⟩ := hw.2 hl
    rw [hB] at hV
    rw [hE]
    obtain ⟨AV, mV, cV, rfl, hVb, _, _⟩ := hV
    have t1 : ((L1 : Int) == 0) = false := by rw [beq_eq_false_iff_ne]; omega
    refine ⟨_, rfl, ?_⟩
    clear hb3 hVb hw hE hB hl
    repeat (first | refine kw_seq ?_ | refine kw_block ?_ | refine kw_skip ?_ | refine kw_region ?_ | refine kl_nil ?_ | refine kq_then ?_ | refine kq_block ?_ | refine kw_exit ?_ | refine kq_then_exit ?_ | refine kq_block_here rfl ?_ | refine kq_block_far rfl ?_ | refine kq_again_exit ?_ | refine kw_ret ?_ | refine kq_then_ret ?_ | refine kq_block_ret ?_ | refine kq_again_ret ?_ | refine kw_ift rfl ?_ | refine kw_iff rfl ?_ | refine kl_ung rfl rfl ?_ | refine kl_skipg rfl rfl rfl rfl ?_ | refine kl_skipg0 rfl rfl rfl ?_ | (first | refine kl_move rfl rfl (.inl rfl) rfl rfl ?_ | refine kl_move rfl rfl (.inr rfl) rfl rfl ?_ | refine kl_const rfl rfl (.inl rfl) rfl ?_ | refine kl_const rfl rfl (.inr rfl) rfl ?_) | ((first | refine kl_step rfl rfl rfl fun K hK => ?_ | refine kl_step0 rfl rfl rfl fun K hK => ?_); go_simp; (try go_bits); (first | refine hK _ _ ?_ | refine hK _ ?_); clear hK K))
    refine KQ.less [0, 1, 2, 7, 9, 10, 11, 12] ?_
    simp only [nrm, lk, Nat.reduceBEq, cond_true, cond_false]
    exact HQ.out w3 D2 G2 s2 L1 HO.out HM.out H1.out hL
end Go.Proofs.Ytonjpjiphcbemaa
