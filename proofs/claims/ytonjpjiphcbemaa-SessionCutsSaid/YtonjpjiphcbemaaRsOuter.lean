/- The document's sum: the pieces, one behind the other. -/
import Derived.Test.YtonjpjiphcbemaaRs4
import Derived.Test.YtonjpjiphcbemaaRs5
import Derived.Test.YtonjpjiphcbemaaRs6
import Derived.Test.YtonjpjiphcbemaaRs7
namespace Go.Proofs.Ytonjpjiphcbemaa
open Go.RowKit
attribute [local go_sem] ev_tmp ev_const ev_func ev_global lk_hit lk_miss uponK_value uponK_skip look_tmp look_const look_global look_func
set_option maxRecDepth 100000 in
set_option maxHeartbeats 1600000 in
theorem rs_outer {Q : Exit → Act → World → Prop} {w wr : World} {b o q c5 T g2 g3 g4 g8 : Nat} {P : List UInt8} {W : List W32} (ha : Ap w b g2 g3 g4 g8) (hbl : b < wr.heap.size) (hq47 : q ≤ 1099511627776 + 72) (hqc : q ≤ c5) (hc5 : c5 ≤ 9223372036854775807) (HT : Hid (q = 64 * T)) (hW : Hid (W.length = 64))
    (h : Sh w b o q P g2 g3 g4 g8 (blks P 0).words W wr)
    (hQ : ∀ wr', Below w.heap.size w wr' → wr'.heap[g2]? = some (.cells (bv z32).toArray 27 (0, 0)) → wr'.heap[g4]? = some (.cells (wv (blks P T).words).toArray 78 (0, 0)) → KQ Q .normal 278 [(2, .pointer (some ⟨g2, 0, none⟩)), (4, .pointer (some ⟨g4, 0, none⟩))] wr') :
    KW Try.prog (blockOf Try.f14 4) Q 278 [(2, .pointer (some ⟨g2, 0, none⟩)), (3, .pointer (some ⟨g3, 0, none⟩)), (4, .pointer (some ⟨g4, 0, none⟩)), (5, .slice (some ⟨b, o, none⟩) q c5), (8, .pointer (some ⟨g8, 0, none⟩)), (9, .int .i64 0)] wr := by
  conv => arg 2; whnf
  have HQ := Lib.hid hQ
  clear hQ
  refine kw_block ?_
  refine kw_loop (fun m L' wr => ∃ (j p : Nat) (W : List W32), j ≤ T ∧ m = T - j ∧ Hid (p = 64 * j) ∧ p ≤ q ∧ b < wr.heap.size ∧ L' = [(2, .pointer (some ⟨g2, 0, none⟩)), (3, .pointer (some ⟨g3, 0, none⟩)), (4, .pointer (some ⟨g4, 0, none⟩)), (5, .slice (some ⟨b, o, none⟩) q c5), (8, .pointer (some ⟨g8, 0, none⟩)), (9, .int .i64 (p : Int))] ∧ Hid (W.length = 64) ∧ Sh w b o q P g2 g3 g4 g8 (blks P j).words W wr) ⟨0, 0, W, by omega, rfl, rfl, by omega, hbl, rfl, hW, h⟩ ?_
  clear h wr hbl hW W
  rintro m L' wr ⟨j, p, W, hjT, rfl, hp, hpq, hbl, rfl, hW, h⟩
  have HS := Lib.hid h
  clear h
  have hp64 := hp.out
  have hT64 := HT.out
  by_cases hlt : p < q
  · have hlt' : (p : Int) < q := by omega
    have hpq64 : p + 64 ≤ q := by omega
    have hjT1 : j + 1 ≤ T := by omega
    obtain ⟨B, hBp⟩ : ∃ B, (P.drop (64 * j)).take 64 = B := ⟨_, rfl⟩
    have HB := Lib.hid hBp
    clear hp64 hT64 hBp
    repeat (first | refine kw_seq ?_ | refine kw_skip ?_ | refine kw_region ?_ | refine kl_nil ?_ | refine kq_then ?_ | refine kq_block ?_ | refine kw_exit ?_ | refine kq_then_exit ?_ | refine kq_block_here rfl ?_ | refine kq_block_far rfl ?_ | refine kq_again_exit ?_ | refine kw_ret ?_ | refine kq_then_ret ?_ | refine kq_block_ret ?_ | refine kq_again_ret ?_ | refine kw_ift rfl ?_ | refine kw_iff rfl ?_ | refine kl_ung rfl rfl ?_ | refine kl_skipg rfl rfl rfl rfl ?_ | refine kl_skipg0 rfl rfl rfl ?_ | (first | refine kl_move rfl rfl (.inl rfl) rfl rfl ?_ | refine kl_move rfl rfl (.inr rfl) rfl rfl ?_ | refine kl_const rfl rfl (.inl rfl) rfl ?_ | refine kl_const rfl rfl (.inr rfl) rfl ?_) | ((first | refine kl_step rfl rfl rfl fun K hK => ?_ | refine kl_step0 rfl rfl rfl fun K hK => ?_); go_simp; (try go_bits); (first | refine hK _ _ ?_ | refine hK _ ?_); clear hK K))
    refine kw_block ?_
    repeat (first | refine kw_seq ?_ | refine kw_skip ?_ | refine kw_region ?_ | refine kl_nil ?_ | refine kq_then ?_ | refine kq_block ?_ | refine kw_exit ?_ | refine kq_then_exit ?_ | refine kq_block_here rfl ?_ | refine kq_block_far rfl ?_ | refine kq_again_exit ?_ | refine kw_ret ?_ | refine kq_then_ret ?_ | refine kq_block_ret ?_ | refine kq_again_ret ?_ | refine kw_ift rfl ?_ | refine kw_iff rfl ?_ | refine kl_ung rfl rfl ?_ | refine kl_skipg rfl rfl rfl rfl ?_ | refine kl_skipg0 rfl rfl rfl ?_ | (first | refine kl_move rfl rfl (.inl rfl) rfl rfl ?_ | refine kl_move rfl rfl (.inr rfl) rfl rfl ?_ | refine kl_const rfl rfl (.inl rfl) rfl ?_ | refine kl_const rfl rfl (.inr rfl) rfl ?_) | ((first | refine kl_step rfl rfl rfl fun K hK => ?_ | refine kl_step0 rfl rfl rfl fun K hK => ?_); go_simp; (try go_bits); (first | refine hK _ _ ?_ | refine hK _ ?_); clear hK K))
    refine KW.less [2, 3, 4, 5, 8, 9, 10] ?_
    simp only [nrm, lk, Nat.reduceBEq, cond_true, cond_false]
    refine rs_loop4 ha hq47 hqc hc5 hpq64 hp HB hW HS.out fun wr4 h4 => ?_
    repeat (first | refine kw_seq ?_ | refine kw_skip ?_ | refine kw_region ?_ | refine kl_nil ?_ | refine kq_then ?_ | refine kq_block ?_ | refine kw_exit ?_ | refine kq_then_exit ?_ | refine kq_block_here rfl ?_ | refine kq_block_far rfl ?_ | refine kq_again_exit ?_ | refine kw_ret ?_ | refine kq_then_ret ?_ | refine kq_block_ret ?_ | refine kq_again_ret ?_ | refine kw_ift rfl ?_ | refine kw_iff rfl ?_ | refine kl_ung rfl rfl ?_ | refine kl_skipg rfl rfl rfl rfl ?_ | refine kl_skipg0 rfl rfl rfl ?_ | (first | refine kl_move rfl rfl (.inl rfl) rfl rfl ?_ | refine kl_move rfl rfl (.inr rfl) rfl rfl ?_ | refine kl_const rfl rfl (.inl rfl) rfl ?_ | refine kl_const rfl rfl (.inr rfl) rfl ?_) | ((first | refine kl_step rfl rfl rfl fun K hK => ?_ | refine kl_step0 rfl rfl rfl fun K hK => ?_); go_simp; (try go_bits); (first | refine hK _ _ ?_ | refine hK _ ?_); clear hK K))
    refine KW.less [2, 3, 4, 5, 8, 9, 12] ?_
    simp only [nrm, lk, Nat.reduceBEq, cond_true, cond_false]
    refine rs_loop5 ha hW h4 fun wr5 h5 => ?_
    clear HS h4
    have HS := Lib.hid h5
    have H4 := Lib.hid h5.h4
    clear h5
    refine kq_then ?_
    refine kw_seq ?_
    refine kw_region ?_
    refine kl_load_row 78 g4 _ _ _ _ H4.out st8Under rfl (infoR _ rfl) rfl rfl rfl rfl rfl ?_
    refine kl_alloc_row 78 st8Zero rfl rfl rfl rfl ?_
    refine kl_store_row 78 wr5.heap.size (wv (blks P j).words).toArray 78 (wv z8).toArray (heap_alloc_new _ _) (infoR _ rfl) (size8 _ _ z8_len rfl) (wv_one _) rfl rfl rfl rfl rfl ?_
    obtain ⟨w9, hw9⟩ : ∃ w9, w9 = (wr5.alloc (.cells (wv z8).toArray 78)).setRow wr5.heap.size (wv (blks P j).words).toArray := ⟨_, rfl⟩
    have hb9 : Below wr5.heap.size wr5 w9 := by rw [hw9]; exact below_setRow ((Below.refl _ _).alloc (Nat.le_refl _) _) (Nat.le_refl _) _
    have h15 : w9.heap[wr5.heap.size]? = some (.cells (wv (blks P j).words).toArray 78 (0, 0)) := by rw [hw9]; exact setRow_block (heap_alloc_new _ _)
    rw [← hw9]
    clear hw9
    have hS := HS.out
    have m2 := lt_of_at hS.h2
    have m3 := lt_of_at hS.h3
    have m4 := lt_of_at hS.h4
    have m8 := lt_of_at hS.h8
    have mb : b < wr5.heap.size := bs_lt hS.B (by omega)
    have hsz := hS.below.size
    obtain ⟨g15, hg15⟩ : ∃ g, wr5.heap.size = g := ⟨_, rfl⟩
    rw [hg15] at h15 m2 m3 m4 m8 mb hsz ⊢
    have ha15 : A15 w b g2 g3 g4 g8 g15 := ⟨by omega, by omega, by omega, by omega, by omega, hsz⟩
    have hS9 := hS.next hb9
    clear m2 m3 m4 m8 mb hsz hg15 hb9 H4 HS hS
    have HS := Lib.hid hS9
    have H15 := Lib.hid h15
    clear hS9 h15
    repeat (first | refine kw_seq ?_ | refine kw_skip ?_ | refine kw_region ?_ | refine kl_nil ?_ | refine kq_then ?_ | refine kq_block ?_ | refine kw_exit ?_ | refine kq_then_exit ?_ | refine kq_block_here rfl ?_ | refine kq_block_far rfl ?_ | refine kq_again_exit ?_ | refine kw_ret ?_ | refine kq_then_ret ?_ | refine kq_block_ret ?_ | refine kq_again_ret ?_ | refine kw_ift rfl ?_ | refine kw_iff rfl ?_ | refine kl_ung rfl rfl ?_ | refine kl_skipg rfl rfl rfl rfl ?_ | refine kl_skipg0 rfl rfl rfl ?_ | (first | refine kl_move rfl rfl (.inl rfl) rfl rfl ?_ | refine kl_move rfl rfl (.inr rfl) rfl rfl ?_ | refine kl_const rfl rfl (.inl rfl) rfl ?_ | refine kl_const rfl rfl (.inr rfl) rfl ?_) | ((first | refine kl_step rfl rfl rfl fun K hK => ?_ | refine kl_step0 rfl rfl rfl fun K hK => ?_); go_simp; (try go_bits); (first | refine hK _ _ ?_ | refine hK _ ?_); clear hK K))
    refine KW.less [2, 3, 4, 5, 8, 9, 15, 16] ?_
    simp only [nrm, lk, Nat.reduceBEq, cond_true, cond_false]
    refine rs_loop6 (B := B) (s0 := blks P j) ha ha15 rfl (length_wl B 64) HS.out H15.out fun wr6 h6 h15 => ?_
    clear HS H15
    have HS := Lib.hid h6
    have H15 := Lib.hid h15
    clear h6 h15
    repeat (first | refine kw_seq ?_ | refine kw_skip ?_ | refine kw_region ?_ | refine kl_nil ?_ | refine kq_then ?_ | refine kq_block ?_ | refine kw_exit ?_ | refine kq_then_exit ?_ | refine kq_block_here rfl ?_ | refine kq_block_far rfl ?_ | refine kq_again_exit ?_ | refine kw_ret ?_ | refine kq_then_ret ?_ | refine kq_block_ret ?_ | refine kq_again_ret ?_ | refine kw_ift rfl ?_ | refine kw_iff rfl ?_ | refine kl_ung rfl rfl ?_ | refine kl_skipg rfl rfl rfl rfl ?_ | refine kl_skipg0 rfl rfl rfl ?_ | (first | refine kl_move rfl rfl (.inl rfl) rfl rfl ?_ | refine kl_move rfl rfl (.inr rfl) rfl rfl ?_ | refine kl_const rfl rfl (.inl rfl) rfl ?_ | refine kl_const rfl rfl (.inr rfl) rfl ?_) | ((first | refine kl_step rfl rfl rfl fun K hK => ?_ | refine kl_step0 rfl rfl rfl fun K hK => ?_); go_simp; (try go_bits); (first | refine hK _ _ ?_ | refine hK _ ?_); clear hK K))
    refine KW.less [2, 3, 4, 5, 8, 9, 15, 20] ?_
    simp only [nrm, lk, Nat.reduceBEq, cond_true, cond_false]
    refine rs_loop7 ha ha15 HS.out H15.out fun wr7 h7 => ?_
    have hF : addSt (blks P j) (rounds B (blks P j) 64) = blks P (j + 1) := by
      rw [← blks_next, HB.out]
      rfl
    rw [hF] at h7
    clear hF HS H15
    have HS := Lib.hid h7
    clear h7
    have ep : IntKind.i64.wrap ((p : Int) + 64) = p + 64 := IntWalk.i64_in _ (by omega)
    repeat (first | refine kw_seq ?_ | refine kw_skip ?_ | refine kw_region ?_ | refine kl_nil ?_ | refine kq_then ?_ | refine kq_block ?_ | refine kw_exit ?_ | refine kq_then_exit ?_ | refine kq_block_here rfl ?_ | refine kq_block_far rfl ?_ | refine kq_again_exit ?_ | refine kw_ret ?_ | refine kq_then_ret ?_ | refine kq_block_ret ?_ | refine kq_again_ret ?_ | refine kw_ift rfl ?_ | refine kw_iff rfl ?_ | refine kl_ung rfl rfl ?_ | refine kl_skipg rfl rfl rfl rfl ?_ | refine kl_skipg0 rfl rfl rfl ?_ | (first | refine kl_move rfl rfl (.inl rfl) rfl rfl ?_ | refine kl_move rfl rfl (.inr rfl) rfl rfl ?_ | refine kl_const rfl rfl (.inl rfl) rfl ?_ | refine kl_const rfl rfl (.inr rfl) rfl ?_) | ((first | refine kl_step rfl rfl rfl fun K hK => ?_ | refine kl_step0 rfl rfl rfl fun K hK => ?_); go_simp; (try go_bits); (first | refine hK _ _ ?_ | refine hK _ ?_); clear hK K))
    refine kq_again (T - (j + 1)) [2, 3, 4, 5, 8, 9] (by omega) ?_
    simp only [nrm, lk, Nat.reduceBEq, cond_true, cond_false]
    refine ⟨j + 1, p + 64, wl B 64, hjT1, rfl, by have := hp.out; show p + 64 = 64 * (j + 1); omega, hpq64, bs_lt HS.out.B (by omega), by congr 1, length_wl B 64, HS.out⟩
  · obtain rfl : p = q := by omega
    obtain rfl : j = T := by omega
    clear hp64 hT64
    repeat (first | refine kw_seq ?_ | refine kw_skip ?_ | refine kw_region ?_ | refine kl_nil ?_ | refine kq_then ?_ | refine kq_block ?_ | refine kw_exit ?_ | refine kq_then_exit ?_ | refine kq_block_here rfl ?_ | refine kq_block_far rfl ?_ | refine kq_again_exit ?_ | refine kw_ret ?_ | refine kq_then_ret ?_ | refine kq_block_ret ?_ | refine kq_again_ret ?_ | refine kw_ift rfl ?_ | refine kw_iff rfl ?_ | refine kl_ung rfl rfl ?_ | refine kl_skipg rfl rfl rfl rfl ?_ | refine kl_skipg0 rfl rfl rfl ?_ | (first | refine kl_move rfl rfl (.inl rfl) rfl rfl ?_ | refine kl_move rfl rfl (.inr rfl) rfl rfl ?_ | refine kl_const rfl rfl (.inl rfl) rfl ?_ | refine kl_const rfl rfl (.inr rfl) rfl ?_) | ((first | refine kl_step rfl rfl rfl fun K hK => ?_ | refine kl_step0 rfl rfl rfl fun K hK => ?_); go_simp; (try go_bits); (first | refine hK _ _ ?_ | refine hK _ ?_); clear hK K))
    refine KQ.less [2, 4] ?_
    simp only [nrm, lk, Nat.reduceBEq, cond_true, cond_false]
    have h := HS.out
    exact HQ.out _ h.below h.h2 h.h4
end Go.Proofs.Ytonjpjiphcbemaa
