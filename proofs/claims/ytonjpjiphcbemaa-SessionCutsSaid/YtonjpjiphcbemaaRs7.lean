/- The document's sum: the rounds are added. -/
import Derived.Test.YtonjpjiphcbemaaRs
namespace Go.Proofs.Ytonjpjiphcbemaa
open Go.RowKit
attribute [local go_sem] ev_tmp ev_const ev_func ev_global lk_hit lk_miss uponK_value uponK_skip look_tmp look_const look_global look_func
set_option maxRecDepth 100000 in
set_option maxHeartbeats 1600000 in
theorem rs_loop7 {Q : Exit → Act → World → Prop} {w wr : World} {b o q c5 p g2 g3 g4 g8 g15 : Nat} {P : List UInt8} {L : List W32} {s0 t : ShaSt} (ha : Ap w b g2 g3 g4 g8) (ha15 : A15 w b g2 g3 g4 g8 g15)
    (h : Sh w b o q P g2 g3 g4 g8 s0.words L wr) (h15 : wr.heap[g15]? = some (.cells (wv t.words).toArray 78 (0, 0)))
    (hQ : ∀ wr', Sh w b o q P g2 g3 g4 g8 (addSt s0 t).words L wr' → KQ Q .normal 278 [(2, .pointer (some ⟨g2, 0, none⟩)), (3, .pointer (some ⟨g3, 0, none⟩)), (4, .pointer (some ⟨g4, 0, none⟩)), (5, .slice (some ⟨b, o, none⟩) q c5), (8, .pointer (some ⟨g8, 0, none⟩)), (9, .int .i64 (p : Int))] wr') :
    KW Try.prog (blockOf Try.f14 12) Q 278 [(2, .pointer (some ⟨g2, 0, none⟩)), (3, .pointer (some ⟨g3, 0, none⟩)), (4, .pointer (some ⟨g4, 0, none⟩)), (5, .slice (some ⟨b, o, none⟩) q c5), (8, .pointer (some ⟨g8, 0, none⟩)), (9, .int .i64 (p : Int)), (15, .pointer (some ⟨g15, 0, none⟩)), (20, .int .i64 0)] wr := by
  conv => arg 2; whnf
  have HQ := Lib.hid hQ
  clear hQ
  refine kw_block ?_
  refine kw_loop (fun m L' wr => ∃ (k : Nat), k ≤ 8 ∧ m = 8 - k ∧ L' = [(2, .pointer (some ⟨g2, 0, none⟩)), (3, .pointer (some ⟨g3, 0, none⟩)), (4, .pointer (some ⟨g4, 0, none⟩)), (5, .slice (some ⟨b, o, none⟩) q c5), (8, .pointer (some ⟨g8, 0, none⟩)), (9, .int .i64 (p : Int)), (15, .pointer (some ⟨g15, 0, none⟩)), (20, .int .i64 (k : Int))] ∧ Sh w b o q P g2 g3 g4 g8 (addW s0.words t.words k) L wr ∧ wr.heap[g15]? = some (.cells (wv t.words).toArray 78 (0, 0))) ⟨0, by omega, rfl, rfl, h, h15⟩ ?_
  clear h h15 wr
  rintro m L' wr ⟨k, hk, rfl, rfl, h, h15⟩
  have HS := Lib.hid h
  have H15 := Lib.hid h15
  by_cases hlt7 : k < 8
  · have hk1 : (k : Int) < 8 := by omega
    have hk0 : (0 : Int) ≤ k := by omega
    have hlen : k < (addW s0.words t.words k).length := by rw [length_addW s0.words t.words rfl k hk]; exact hlt7
    have ct := wv_cell h.h4 hlen
    have cs := wv_cell h15 (i := k) hlt7
    have hst := addW_set s0.words t.words rfl k hlt7
    rw [addW_get s0.words t.words rfl k hlt7] at ct
    obtain ⟨xt, hxt⟩ : ∃ x, s0.words.getD k 0 = x := ⟨_, rfl⟩
    obtain ⟨xs, hxs⟩ : ∃ x, t.words.getD k 0 = x := ⟨_, rfl⟩
    rw [hxt] at ct hst
    rw [hxs] at cs hst
    have HST := Lib.hid hst
    have HXT := Lib.hid hxt
    clear hst hxt hxs h h15
    have HL := Lib.hid hlen
    clear hlen
    repeat (first | refine kw_seq ?_ | refine kw_block ?_ | refine kw_skip ?_ | refine kw_region ?_ | refine kl_nil ?_ | refine kq_then ?_ | refine kq_block ?_ | refine kw_exit ?_ | refine kq_then_exit ?_ | refine kq_block_here rfl ?_ | refine kq_block_far rfl ?_ | refine kq_again_exit ?_ | refine kw_ret ?_ | refine kq_then_ret ?_ | refine kq_block_ret ?_ | refine kq_again_ret ?_ | refine kw_ift rfl ?_ | refine kw_iff rfl ?_ | refine kl_ung rfl rfl ?_ | refine kl_skipg rfl rfl rfl rfl ?_ | refine kl_skipg0 rfl rfl rfl ?_ | (first | refine kl_move rfl rfl (.inl rfl) rfl rfl ?_ | refine kl_move rfl rfl (.inr rfl) rfl rfl ?_ | refine kl_const rfl rfl (.inl rfl) rfl ?_ | refine kl_const rfl rfl (.inr rfl) rfl ?_) | ((first | refine kl_step rfl rfl rfl fun K hK => ?_ | refine kl_step0 rfl rfl rfl fun K hK => ?_); go_simp; (try go_bits); (first | refine hK _ _ ?_ | refine hK _ ?_); clear hK K))
    refine KW.less [2, 3, 4, 5, 8, 9, 15, 20] ?_
    simp only [nrm, lk, Nat.reduceBEq, cond_true, cond_false]
    refine kw_region_xt 8 [none, none, none, none, none, none, none, none]
      [[(20, none)], [(4, none), (231, some 0)], [(232, some 1)], [(20, none)], [(15, none), (234, some 3)], [(235, some 4)], [(233, some 2), (236, some 5)], [(4, none), (231, some 0)]]
      [2, 3, 4, 5, 8, 9, 15, 20] (by kernel_rfl) (by kernel_rfl) (by kernel_rfl) (by kernel_rfl) (by kernel_rfl)
      trivial ?_
    repeat (first | apply exs_none | apply exs_some)
    refine exs_nil (And.intro ?v3_vc ?v3_fin)
    case v3_vc =>
      refine ⟨?_, ?_, ?_, ?_, ?_, ?_, ?_, ?_, trivial⟩
      · exact vk_mov rfl (.inl rfl) fun A W _ h => h.1 _ rfl
      · refine vk_none rfl fun A W hR h N hN => ?_
        refine vk_of N ?_
        obtain ⟨h4, h231, _⟩ := h
        have h4 := h4 _ rfl
        replace h231 : A.tmps[231]?.getD undef = _ := h231
        go_simp
        (try go_bits)
        exact hN _ _ (Below.refl _ _) rfl
      · refine vk_none rfl fun A W hR h N hN => ?_
        refine vk_of N ?_
        obtain ⟨h232, _⟩ := h
        replace h232 : A.tmps[232]?.getD undef = _ := h232
        have ct := Keeps.of_below hR _ _ ct
        have cs := Keeps.of_below hR _ _ cs
        go_simp
        (try go_bits)
        exact hN _ _ (Below.refl _ _) rfl
      · exact vk_mov rfl (.inl rfl) fun A W _ h => h.1 _ rfl
      · refine vk_none rfl fun A W hR h N hN => ?_
        refine vk_of N ?_
        obtain ⟨h15, h234, _⟩ := h
        have h15 := h15 _ rfl
        replace h234 : A.tmps[234]?.getD undef = _ := h234
        go_simp
        (try go_bits)
        exact hN _ _ (Below.refl _ _) rfl
      · refine vk_none rfl fun A W hR h N hN => ?_
        refine vk_of N ?_
        obtain ⟨h235, _⟩ := h
        replace h235 : A.tmps[235]?.getD undef = _ := h235
        have ct := Keeps.of_below hR _ _ ct
        have cs := Keeps.of_below hR _ _ cs
        go_simp
        (try go_bits)
        exact hN _ _ (Below.refl _ _) rfl
      · refine vk_none rfl fun A W hR h N hN => ?_
        refine vk_of N ?_
        obtain ⟨h233, h236, _⟩ := h
        replace h233 : A.tmps[233]?.getD undef = _ := h233
        replace h236 : A.tmps[236]?.getD undef = _ := h236
        go_simp
        (try go_bits)
        exact hN _ _ (Below.refl _ _) rfl
      · refine vk_none rfl fun A W hR h N hN => ?_
        refine vk_of N ?_
        obtain ⟨h4, h231, _⟩ := h
        have h4 := h4 _ rfl
        replace h231 : A.tmps[231]?.getD undef = _ := h231
        go_simp
        (try go_bits)
        exact hN _ _ (Below.refl _ _) rfl
    case v3_fin =>
      intro fa fW fk hR he
      have e6 := he.2.2.2.2.2.2.1
      have e7 := he.2.2.2.2.2.2.2.1
      clear he
      replace e6 : fa.tmps[237]?.getD undef = _ := e6
      replace fk := fk.more 237 _ e6
      clear e6
      replace e7 : fa.tmps[238]?.getD undef = _ := e7
      replace fk := fk.more 238 _ e7
      clear e7
      have h := HS.out.next hR
      have h15 := below_at hR H15.out
      have ct := Keeps.of_below hR _ _ ct
      clear HS H15 cs
      have f1 : fW.frozen? ⟨g4, k, none⟩ = false := free_of_block h.h4
      have a1 := Lib.hid (add_code' xt xs)
      have HS := Lib.hid h
      have H15 := Lib.hid h15
      clear h hR h15
      refine kl_of _ _ ?_ fk
      clear fk fa
      simp only [nrm, lk, Nat.reduceBEq, cond_true, cond_false, List.take_succ_cons, List.take_zero, List.drop_succ_cons, List.drop_zero]
      repeat (first | refine kw_seq ?_ | refine kw_block ?_ | refine kw_skip ?_ | refine kw_region ?_ | refine kl_nil ?_ | refine kq_then ?_ | refine kq_block ?_ | refine kw_exit ?_ | refine kq_then_exit ?_ | refine kq_block_here rfl ?_ | refine kq_block_far rfl ?_ | refine kq_again_exit ?_ | refine kw_ret ?_ | refine kq_then_ret ?_ | refine kq_block_ret ?_ | refine kq_again_ret ?_ | refine kw_ift rfl ?_ | refine kw_iff rfl ?_ | refine kl_ung rfl rfl ?_ | refine kl_skipg rfl rfl rfl rfl ?_ | refine kl_skipg0 rfl rfl rfl ?_ | (first | refine kl_move rfl rfl (.inl rfl) rfl rfl ?_ | refine kl_move rfl rfl (.inr rfl) rfl rfl ?_ | refine kl_const rfl rfl (.inl rfl) rfl ?_ | refine kl_const rfl rfl (.inr rfl) rfl ?_) | ((first | refine kl_step rfl rfl rfl fun K hK => ?_ | refine kl_step0 rfl rfl rfl fun K hK => ?_); go_simp; (try go_bits); (first | refine hK _ _ ?_ | refine hK _ ?_); clear hK K))
      refine kq_again (8 - (k + 1)) [2, 3, 4, 5, 8, 9, 15, 20] (by omega) ?_
      simp only [nrm, lk, Nat.reduceBEq, cond_true, cond_false]
      refine ⟨k + 1, by omega, rfl, by congr 1, ?_, ?_⟩
      · rw [a1.out, ← HST.out]
        exact HS.out.set4 ha k _
      · rw [Below.heap_setCell _ _ _ _ (Ne.symm ha15.n4)]; exact H15.out
  · obtain rfl : k = 8 := by omega
    clear h h15
    repeat (first | refine kw_seq ?_ | refine kw_block ?_ | refine kw_skip ?_ | refine kw_region ?_ | refine kl_nil ?_ | refine kq_then ?_ | refine kq_block ?_ | refine kw_exit ?_ | refine kq_then_exit ?_ | refine kq_block_here rfl ?_ | refine kq_block_far rfl ?_ | refine kq_again_exit ?_ | refine kw_ret ?_ | refine kq_then_ret ?_ | refine kq_block_ret ?_ | refine kq_again_ret ?_ | refine kw_ift rfl ?_ | refine kw_iff rfl ?_ | refine kl_ung rfl rfl ?_ | refine kl_skipg rfl rfl rfl rfl ?_ | refine kl_skipg0 rfl rfl rfl ?_ | (first | refine kl_move rfl rfl (.inl rfl) rfl rfl ?_ | refine kl_move rfl rfl (.inr rfl) rfl rfl ?_ | refine kl_const rfl rfl (.inl rfl) rfl ?_ | refine kl_const rfl rfl (.inr rfl) rfl ?_) | ((first | refine kl_step rfl rfl rfl fun K hK => ?_ | refine kl_step0 rfl rfl rfl fun K hK => ?_); go_simp; (try go_bits); (first | refine hK _ _ ?_ | refine hK _ ?_); clear hK K))
    refine KQ.less [2, 3, 4, 5, 8, 9] ?_
    simp only [nrm, lk, Nat.reduceBEq, cond_true, cond_false]
    have h := HS.out
    rw [addW_allR] at h
    exact HQ.out _ h
end Go.Proofs.Ytonjpjiphcbemaa
