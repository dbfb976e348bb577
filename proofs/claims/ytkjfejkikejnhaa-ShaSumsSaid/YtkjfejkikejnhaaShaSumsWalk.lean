/- ShaSums: the walk. -/
import Derived.Test.YtkjfejkikejnhaaShaEq
import Derived.Test.YtkjfejkikejnhaaShaRef
import Derived.Test.YtkjfejkikejnhaaWithin3
import Derived.Test.YtkjfejkikejnhaaKnOps
import Derived.Test.YtkjfejkikejnhaaRefHex
namespace Go.Proofs.Ytkjfejkikejnhaa
open Go.RowKit
attribute [local go_sem] ev_tmp ev_const ev_func ev_global lk_hit lk_miss uponK_value uponK_skip look_tmp look_const look_global look_func
set_option maxRecDepth 100000 in
set_option maxHeartbeats 4000000 in
theorem shaSums_top (A : Option Addr) (n c : Nat) (ls : List (List UInt8)) (z : Int) (h : List UInt8) (w : World) (hA : Ps w A n ls) (hnc : n ≤ c) (hc : c ≤ 140737488351232) (hz : -9223372036854775808 ≤ z ∧ z ≤ 9223372036854775807) (hl : h.length = 32) :
    Calls Try.prog 3 #[.slice A n c, .int .i64 z, .agg (bv h).toArray] w fun e w' => e = .returned (.bool true) ∧ Below w.heap.size w w' := by
  have HN := Lib.hid hA.len
  have HL := Lib.hid hl
  have IH := Lib.hid (infoH h hl)
  have HZ := Lib.hid hz
  clear hl hz
  refine calls_kw Try.func3 rfl Try.ntmps3 rfl [(0, .slice A n c), (1, .int .i64 z), (2, .agg (bv h).toArray)] rfl ?_
  repeat (first | refine kw_seq ?_ | refine kw_block ?_ | refine kw_skip ?_ | refine kw_region ?_ | refine kl_nil ?_ | refine kq_then ?_ | refine kq_block ?_ | refine kw_exit ?_ | refine kq_then_exit ?_ | refine kq_block_here rfl ?_ | refine kq_block_far rfl ?_ | refine kq_again_exit ?_ | refine kw_ret ?_ | refine kq_then_ret ?_ | refine kq_block_ret ?_ | refine kq_again_ret ?_ | refine kw_ift rfl ?_ | refine kw_iff rfl ?_ | refine kl_ung rfl rfl ?_ | refine kl_skipg rfl rfl rfl rfl ?_ | refine kl_skipg0 rfl rfl rfl ?_ | (first | refine kl_move rfl rfl (.inl rfl) rfl rfl ?_ | refine kl_move rfl rfl (.inr rfl) rfl rfl ?_ | refine kl_const rfl rfl (.inl rfl) rfl ?_ | refine kl_const rfl rfl (.inr rfl) rfl ?_) | ((first | refine kl_step rfl rfl rfl fun K hK => ?_ | refine kl_step0 rfl rfl rfl fun K hK => ?_); go_simp; (try go_bits); (first | refine hK _ _ ?_ | refine hK _ ?_); clear hK K))
  obtain ⟨w0, hw0⟩ : ∃ w0, w0 = w.alloc (.cells (bv h).toArray 24) := ⟨_, rfl⟩
  have hb0 : Below w.heap.size w w0 := by rw [hw0]; exact (Below.refl _ _).alloc (Nat.le_refl _) _
  have h5 : w0.heap[w.heap.size]? = some (.cells (bv h).toArray 24 (0, 0)) := by rw [hw0]; exact heap_alloc_new _ _
  rw [← hw0]
  clear hw0
  obtain ⟨g5, hg5⟩ : ∃ g, w.heap.size = g := ⟨_, rfl⟩
  have HG5 := Lib.hid hg5
  rw [hg5] at h5
  clear hg5
  have H5 := Lib.hid h5
  clear h5
  rw [HG5.out]
  refine kl_call rfl rfl rfl Try.func8 rfl (by kernel_rfl) rfl ?_
  refine Calls.mono (known_any _) ?_
  rintro e w1 ⟨rfl, hb1⟩
  refine ⟨_, rfl, ?_⟩
  have H5 := Lib.hid (below_at hb1 H5.out)
  have hb1 := below_two hb0 hb1
  clear hb0
  by_cases hn : 10 < n
  · have d1 : decide ((10 : Int) < n) = true := by rw [decide_eq_true_eq]; omega
    repeat (first | refine kw_seq ?_ | refine kw_block ?_ | refine kw_skip ?_ | refine kw_region ?_ | refine kl_nil ?_ | refine kq_then ?_ | refine kq_block ?_ | refine kw_exit ?_ | refine kq_then_exit ?_ | refine kq_block_here rfl ?_ | refine kq_block_far rfl ?_ | refine kq_again_exit ?_ | refine kw_ret ?_ | refine kq_then_ret ?_ | refine kq_block_ret ?_ | refine kq_again_ret ?_ | refine kw_ift rfl ?_ | refine kw_iff rfl ?_ | refine kl_ung rfl rfl ?_ | refine kl_skipg rfl rfl rfl rfl ?_ | refine kl_skipg0 rfl rfl rfl ?_ | (first | refine kl_move rfl rfl (.inl rfl) rfl rfl ?_ | refine kl_move rfl rfl (.inr rfl) rfl rfl ?_ | refine kl_const rfl rfl (.inl rfl) rfl ?_ | refine kl_const rfl rfl (.inr rfl) rfl ?_) | ((first | refine kl_step rfl rfl rfl fun K hK => ?_ | refine kl_step0 rfl rfl rfl fun K hK => ?_); go_simp; (try go_bits); (first | refine hK _ _ ?_ | refine hK _ ?_); clear hK K))
    exact kq_ret1 rfl rfl ⟨rfl, by rw [HG5.out] at hb1; exact hb1⟩
  have d1 : decide ((10 : Int) < n) = false := by rw [decide_eq_false_iff_not]; omega
  repeat (first | refine kw_seq ?_ | refine kw_skip ?_ | refine kw_region ?_ | refine kl_nil ?_ | refine kq_then ?_ | refine kq_block ?_ | refine kw_exit ?_ | refine kq_then_exit ?_ | refine kq_block_here rfl ?_ | refine kq_block_far rfl ?_ | refine kq_again_exit ?_ | refine kw_ret ?_ | refine kq_then_ret ?_ | refine kq_block_ret ?_ | refine kq_again_ret ?_ | refine kw_ift rfl ?_ | refine kw_iff rfl ?_ | refine kl_ung rfl rfl ?_ | refine kl_skipg rfl rfl rfl rfl ?_ | refine kl_skipg0 rfl rfl rfl ?_ | (first | refine kl_move rfl rfl (.inl rfl) rfl rfl ?_ | refine kl_move rfl rfl (.inr rfl) rfl rfl ?_ | refine kl_const rfl rfl (.inl rfl) rfl ?_ | refine kl_const rfl rfl (.inr rfl) rfl ?_) | ((first | refine kl_step rfl rfl rfl fun K hK => ?_ | refine kl_step0 rfl rfl rfl fun K hK => ?_); go_simp; (try go_bits); (first | refine hK _ _ ?_ | refine hK _ ?_); clear hK K))
  refine KW.less [0, 1, 5, 7, 8] ?_
  simp only [nrm, lk, Nat.reduceBEq, cond_true, cond_false]
  refine kw_block ?_
  refine kw_loop (fun m L wr => ∃ (k q : Nat) (v : Value) (b : List UInt8), k ≤ n ∧ m = n - k ∧ q ≤ 200 * k ∧ Hid ((ls.take k).flatten = b) ∧ wr.ownsRow w1.heap.size 5 1 v q (bv b) ∧ Below w1.heap.size w1 wr ∧
    L = [(0, .slice A n c), (1, .int .i64 z), (5, .pointer (some ⟨g5, 0, none⟩)), (7, v), (8, .int .i64 (k : Int))]) ⟨0, 0, _, [], by omega, rfl, by omega, rfl, World.ownsRow_nil w1 _ _ _, Below.refl _ _, rfl⟩ ?_
  have hA1 := hA.keep (.of_below hb1)
  clear d1
  rintro m L wr ⟨k, q, v, b, hk, rfl, hq, hfl, hown, hb, rfl⟩
  have hsz := hb.size
  obtain ⟨A3, c3, rfl, p1, p2, p3, _⟩ := own_slice hown
  by_cases hlt : k < n
  · have hk1 : (k : Int) < n := by omega
    have hk0 : (0 : Int) ≤ k := by omega
    obtain ⟨b', o', B, m, c', l, rfl, hcell, hBl, hm, hc', hnx, hgt⟩ := hA1.next hlt
    have hcell' := Keeps.of_below hb _ _ hcell
    have hBl' := hBl.keep (.of_below hb)
    clear hcell
    by_cases hm2 : 200 < m
    · have d1 : decide ((200 : Int) < m) = true := by rw [decide_eq_true_eq]; omega
      repeat (first | refine kw_seq ?_ | refine kw_block ?_ | refine kw_skip ?_ | refine kw_region ?_ | refine kl_nil ?_ | refine kq_then ?_ | refine kq_block ?_ | refine kw_exit ?_ | refine kq_then_exit ?_ | refine kq_block_here rfl ?_ | refine kq_block_far rfl ?_ | refine kq_again_exit ?_ | refine kw_ret ?_ | refine kq_then_ret ?_ | refine kq_block_ret ?_ | refine kq_again_ret ?_ | refine kw_ift rfl ?_ | refine kw_iff rfl ?_ | refine kl_ung rfl rfl ?_ | refine kl_skipg rfl rfl rfl rfl ?_ | refine kl_skipg0 rfl rfl rfl ?_ | (first | refine kl_move rfl rfl (.inl rfl) rfl rfl ?_ | refine kl_move rfl rfl (.inr rfl) rfl rfl ?_ | refine kl_const rfl rfl (.inl rfl) rfl ?_ | refine kl_const rfl rfl (.inr rfl) rfl ?_) | ((first | refine kl_step rfl rfl rfl fun K hK => ?_ | refine kl_step0 rfl rfl rfl fun K hK => ?_); go_simp; (try go_bits); (first | refine hK _ _ ?_ | refine hK _ ?_); clear hK K))
      exact kq_ret1 rfl rfl ⟨rfl, by have h := below_then hb1 hb hb1.size; rw [HG5.out] at h; exact h⟩
    have d1 : decide ((200 : Int) < m) = false := by rw [decide_eq_false_iff_not]; omega
    repeat (first | refine kw_seq ?_ | refine kw_block ?_ | refine kw_skip ?_ | refine kw_region ?_ | refine kl_nil ?_ | refine kq_then ?_ | refine kq_block ?_ | refine kw_exit ?_ | refine kq_then_exit ?_ | refine kq_block_here rfl ?_ | refine kq_block_far rfl ?_ | refine kq_again_exit ?_ | refine kw_ret ?_ | refine kq_then_ret ?_ | refine kq_block_ret ?_ | refine kq_again_ret ?_ | refine kw_ift rfl ?_ | refine kw_iff rfl ?_ | refine kl_ung rfl rfl ?_ | refine kl_skipg rfl rfl rfl rfl ?_ | refine kl_skipg0 rfl rfl rfl ?_ | (first | refine kl_move rfl rfl (.inl rfl) rfl rfl ?_ | refine kl_move rfl rfl (.inr rfl) rfl rfl ?_ | refine kl_const rfl rfl (.inl rfl) rfl ?_ | refine kl_const rfl rfl (.inr rfl) rfl ?_) | ((first | refine kl_step rfl rfl rfl fun K hK => ?_ | refine kl_step0 rfl rfl rfl fun K hK => ?_); go_simp; (try go_bits); (first | refine hK _ _ ?_ | refine hK _ ?_); clear hK K))
    refine kl_append w1.heap.size _ q b hown B m c' l hBl' (by omega) hsz rfl rfl rfl rfl rfl rfl ?_
    intro v' w' hown' hg' _
    have hb' := below_append hb hg' hown hsz
    repeat (first | refine kw_seq ?_ | refine kw_block ?_ | refine kw_skip ?_ | refine kw_region ?_ | refine kl_nil ?_ | refine kq_then ?_ | refine kq_block ?_ | refine kw_exit ?_ | refine kq_then_exit ?_ | refine kq_block_here rfl ?_ | refine kq_block_far rfl ?_ | refine kq_again_exit ?_ | refine kw_ret ?_ | refine kq_then_ret ?_ | refine kq_block_ret ?_ | refine kq_again_ret ?_ | refine kw_ift rfl ?_ | refine kw_iff rfl ?_ | refine kl_ung rfl rfl ?_ | refine kl_skipg rfl rfl rfl rfl ?_ | refine kl_skipg0 rfl rfl rfl ?_ | (first | refine kl_move rfl rfl (.inl rfl) rfl rfl ?_ | refine kl_move rfl rfl (.inr rfl) rfl rfl ?_ | refine kl_const rfl rfl (.inl rfl) rfl ?_ | refine kl_const rfl rfl (.inr rfl) rfl ?_) | ((first | refine kl_step rfl rfl rfl fun K hK => ?_ | refine kl_step0 rfl rfl rfl fun K hK => ?_); go_simp; (try go_bits); (first | refine hK _ _ ?_ | refine hK _ ?_); clear hK K))
    refine kq_again (n - (k + 1)) [0, 1, 5, 7, 8] (by omega) ?_
    simp only [nrm, lk, Nat.reduceBEq, cond_true, cond_false]
    refine ⟨k + 1, q + m, v', b ++ l, by omega, rfl, by omega, ?_, hown', hb', by congr 1⟩
    show _ = _
    rw [hnx.out, List.flatten_append, hfl.out]
    simp
  · obtain rfl : k = n := by omega
    have hfl : Hid (ls.flatten = b) := by show _ = _; rw [← hfl.out, hA1.all]
    have hbl : b.length = q := by rw [← length_bv]; simpa using hown.1
    have e1 : IntKind.i64.wrap ((q : Int) + 1) = q + 1 := IntWalk.i64_in _ (by omega)
    have HBL := Lib.hid hbl
    have hc3 : c3 ≤ 9223372036854775807 := by simpa [maxLen] using p2
    have hB3 : Bs wr A3 q b := p3
    have hP := hA1.keep (.of_below hb)
    have H5 := Lib.hid (below_at hb H5.out)
    have hbb := below_then hb1 hb hb1.size
    clear hbl hown p2 p3 hb
    repeat (first | refine kw_seq ?_ | refine kw_block ?_ | refine kw_skip ?_ | refine kw_region ?_ | refine kl_nil ?_ | refine kq_then ?_ | refine kq_block ?_ | refine kw_exit ?_ | refine kq_then_exit ?_ | refine kq_block_here rfl ?_ | refine kq_block_far rfl ?_ | refine kq_again_exit ?_ | refine kw_ret ?_ | refine kq_then_ret ?_ | refine kq_block_ret ?_ | refine kq_again_ret ?_ | refine kw_ift rfl ?_ | refine kw_iff rfl ?_ | refine kl_ung rfl rfl ?_ | refine kl_skipg rfl rfl rfl rfl ?_ | refine kl_skipg0 rfl rfl rfl ?_ | (first | refine kl_move rfl rfl (.inl rfl) rfl rfl ?_ | refine kl_move rfl rfl (.inr rfl) rfl rfl ?_ | refine kl_const rfl rfl (.inl rfl) rfl ?_ | refine kl_const rfl rfl (.inr rfl) rfl ?_) | ((first | refine kl_step rfl rfl rfl fun K hK => ?_ | refine kl_step0 rfl rfl rfl fun K hK => ?_); go_simp; (try go_bits); (first | refine hK _ _ ?_ | refine hK _ ?_); clear hK K))
    refine kl_call rfl rfl rfl Try.func9 rfl (by kernel_rfl) rfl ?_
    refine Calls.mono (within_any z (q + 1) _ _ (by omega) (by omega) (by omega)) ?_
    rintro e _ ⟨rfl, rfl⟩
    refine ⟨_, rfl, ?_⟩
    have hj := within_lt z (q + 1) (by omega)
    obtain ⟨j, hjE⟩ : ∃ j, within z (q + 1) = j := ⟨_, rfl⟩
    rw [hjE] at hj ⊢
    clear hjE e1
    have j0 : (0 : Int) ≤ j := by omega
    have j1 : (j : Int) ≤ q := by omega
    have j2 : (j : Int) ≤ c3 := by omega
    have j3 : (q : Int) ≤ c3 := by omega
    have hsum : ls.flatten.length ≤ 1099511627776 := by rw [hfl.out, HBL.out]; omega
    have HSUM := Lib.hid hsum
    have hsp : Hid ([b.take j, b.drop j].flatten = b) := by show _ = _; simp
    have hsp2 : Hid ([b, []].flatten = b) := by show _ = _; simp
    have hlen : Hid (b.length ≤ 1099511627776) := by show b.length ≤ _; rw [HBL.out]; omega
    have he := fun W => eqSame W b
    clear hsum
    repeat (first | refine kw_seq ?_ | refine kw_block ?_ | refine kw_skip ?_ | refine kw_region ?_ | refine kl_nil ?_ | refine kq_then ?_ | refine kq_block ?_ | refine kw_exit ?_ | refine kq_then_exit ?_ | refine kq_block_here rfl ?_ | refine kq_block_far rfl ?_ | refine kq_again_exit ?_ | refine kw_ret ?_ | refine kq_then_ret ?_ | refine kq_block_ret ?_ | refine kq_again_ret ?_ | refine kw_ift rfl ?_ | refine kw_iff rfl ?_ | refine kl_ung rfl rfl ?_ | refine kl_skipg rfl rfl rfl rfl ?_ | refine kl_skipg0 rfl rfl rfl ?_ | (first | refine kl_move rfl rfl (.inl rfl) rfl rfl ?_ | refine kl_move rfl rfl (.inr rfl) rfl rfl ?_ | refine kl_const rfl rfl (.inl rfl) rfl ?_ | refine kl_const rfl rfl (.inr rfl) rfl ?_) | ((first | refine kl_step rfl rfl rfl fun K hK => ?_ | refine kl_step0 rfl rfl rfl fun K hK => ?_); go_simp; (try go_bits); (first | refine hK _ _ ?_ | refine hK _ ?_); clear hK K))
    refine KW.less [0, 5, 7, 9] ?_
    simp only [nrm, lk, Nat.reduceBEq, cond_true, cond_false]
    have H5R : Hid (wr.rangeAt g5 0 (bv h)) := fun j v hv => cell_of_block H5.out (by rw [Nat.zero_add, List.getElem?_toArray]; exact hv)
    refine kw_region_x [none, none, none, none, none, none, none, none, none, none, none, none, some (PsIs 2 [b.take j, b.drop j]), none, none, none, none, none, none, none, some (PsIs 2 [b, []]), none, none, none, none, none, none, none, none, none, none, none, none, none]
      [[(0, none)], [(38, some 0)], [(7, none)], [(40, some 2)], [(39, some 1), (41, some 3)], [(42, some 4)], [(43, some 5), (7, none)], [(43, some 5), (9, none)], [(43, some 5), (44, some 6), (45, some 7)], [(43, some 5), (7, none)], [(43, some 5), (9, none)], [(43, some 5), (47, some 9), (48, some 10)], [(43, some 5), (46, some 8), (49, some 11)], [(43, some 5), (50, some 12)], [(43, some 5), (7, none)], [(43, some 5), (52, some 14)], [(43, some 5), (51, some 13), (53, some 15)], [(43, some 5), (54, some 16)], [(55, some 17)], [(56, some 18), (7, none)], [(56, some 18), (57, some 19)], [(56, some 18), (58, some 20)], [(56, some 18), (7, none)], [(56, some 18), (60, some 22)], [(56, some 18), (59, some 21), (61, some 23)], [(56, some 18), (62, some 24)], [(63, some 25)], [(64, some 26), (5, none)], [(64, some 26), (65, some 27)], [(64, some 26), (5, none)], [(64, some 26), (67, some 29)], [(64, some 26), (66, some 28), (68, some 30)], [(64, some 26), (69, some 31)], [(70, some 32)]]
      [5] (by kernel_rfl) (by kernel_rfl) (by kernel_rfl) (by kernel_rfl)
      ⟨mono_psIs _ _, mono_psIs _ _, trivial⟩ ?_
    repeat (first | apply exs_none | apply exs_some)
    refine exs_nil (And.intro ?v1_vc ?v1_fin)
    case v1_vc =>
      refine ⟨?_, ?_, ?_, ?_, ?_, ?_, ?_, ?_, ?_, ?_, ?_, ?_, ?_, ?_, ?_, ?_, ?_, ?_, ?_, ?_, ?_, ?_, ?_, ?_, ?_, ?_, ?_, ?_, ?_, ?_, ?_, ?_, ?_, ?_, trivial⟩
      · exact vk_mov rfl (.inl rfl) fun A W _ h => h.1 _ rfl
      · refine vk_call rfl rfl Try.func10 rfl (by kernel_rfl) fun A W hR h => ?_
        obtain ⟨h38, _⟩ := h
        replace h38 : A.tmps[38]?.getD undef = _ := h38
        show Calls _ _ #[A.tmps[38]?.getD undef] _ _
        rw [h38]
        refine Calls.mono (shaSum_any _ _ _ ls _ (hP.keep (.of_below hR)) (by omega) HSUM.out) ?_
        rw [hfl.out]
        rintro e W' ⟨rfl, hb'⟩
        exact ⟨_, rfl, hb', rfl⟩
      · exact vk_mov rfl (.inl rfl) fun A W _ h => h.1 _ rfl
      · refine vk_call rfl rfl Try.func11 rfl (by kernel_rfl) fun A W hR h => ?_
        obtain ⟨h40, _⟩ := h
        replace h40 : A.tmps[40]?.getD undef = _ := h40
        show Calls _ _ #[A.tmps[40]?.getD undef] _ _
        rw [h40]
        refine Calls.mono (refSha_any _ _ _ b _ (hB3.keep (.of_below hR)) (by omega)) ?_
        rintro e W' ⟨rfl, hb'⟩
        exact ⟨_, rfl, hb', rfl⟩
      · refine vk_none rfl fun A W hR h N hN => ?_
        refine vk_of N ?_
        obtain ⟨h39, h41, _⟩ := h
        replace h39 : A.tmps[39]?.getD undef = _ := h39
        replace h41 : A.tmps[41]?.getD undef = _ := h41
        go_simp
        (try go_bits)
        exact hN _ _ (Below.refl _ _) rfl
      · exact vk_mov rfl (.inl rfl) fun A W _ h => h.1
      · refine vk_yes rfl rfl (fun A W _ h => h.1) fun A W hR h N hN => ?_
        refine vk_of N ?_
        obtain ⟨h43, h7, _⟩ := h
        replace h43 : A.tmps[43]?.getD undef = _ := h43
        replace h7 := h7 _ rfl
        go_simp
        (try go_bits)
        exact hN _ _ (Below.refl _ _) rfl
      · refine vk_yes rfl rfl (fun A W _ h => h.1) fun A W hR h N hN => ?_
        refine vk_of N ?_
        obtain ⟨h43, h9, _⟩ := h
        replace h43 : A.tmps[43]?.getD undef = _ := h43
        replace h9 := h9 _ rfl
        go_simp
        (try go_bits)
        exact hN _ _ (Below.refl _ _) rfl
      · refine vk_yes rfl rfl (fun A W _ h => h.1) fun A W hR h N hN => ?_
        refine vk_of N ?_
        obtain ⟨h43, h44, h45, _⟩ := h
        replace h43 : A.tmps[43]?.getD undef = _ := h43
        replace h44 : A.tmps[44]?.getD undef = _ := h44
        replace h45 : A.tmps[45]?.getD undef = _ := h45
        go_simp
        (try go_bits)
        exact hN _ _ (Below.refl _ _) rfl
      · refine vk_yes rfl rfl (fun A W _ h => h.1) fun A W hR h N hN => ?_
        refine vk_of N ?_
        obtain ⟨h43, h7, _⟩ := h
        replace h43 : A.tmps[43]?.getD undef = _ := h43
        replace h7 := h7 _ rfl
        go_simp
        (try go_bits)
        exact hN _ _ (Below.refl _ _) rfl
      · refine vk_yes rfl rfl (fun A W _ h => h.1) fun A W hR h N hN => ?_
        refine vk_of N ?_
        obtain ⟨h43, h9, _⟩ := h
        replace h43 : A.tmps[43]?.getD undef = _ := h43
        replace h9 := h9 _ rfl
        go_simp
        (try go_bits)
        exact hN _ _ (Below.refl _ _) rfl
      · refine vk_yes rfl rfl (fun A W _ h => h.1) fun A W hR h N hN => ?_
        refine vk_of N ?_
        obtain ⟨h43, h47, h48, _⟩ := h
        replace h43 : A.tmps[43]?.getD undef = _ := h43
        replace h47 : A.tmps[47]?.getD undef = _ := h47
        replace h48 : A.tmps[48]?.getD undef = _ := h48
        go_simp
        (try go_bits)
        exact hN _ _ (Below.refl _ _) rfl
      · refine vk_yes rfl rfl (fun A W _ h => h.1) fun A W hR h N hN => ?_
        refine vk_of N ?_
        obtain ⟨h43, h46, h49, _⟩ := h
        replace h43 : A.tmps[43]?.getD undef = _ := h43
        replace h46 : A.tmps[46]?.getD undef = _ := h46
        replace h49 : A.tmps[49]?.getD undef = _ := h49
        go_simp
        (try go_bits)
        exact hN _ _ ((Below.refl _ _).alloc (Nat.le_refl _) _) ⟨_, rfl, Ps.lit2 _ rfl ((hB3.keep (.of_below hR)).to_ (by omega)) (by omega) (by omega) ((hB3.keep (.of_below hR)).from_ (cap := c3) (by omega) p1) (by omega) (by omega)⟩
      · refine vk_callg rfl rfl (fun A W _ h => h.1) rfl Try.func10 rfl (by kernel_rfl) fun A W hR h => ?_
        obtain ⟨h43, h50, _⟩ := h
        replace h43 : A.tmps[43]?.getD undef = _ := h43
        obtain ⟨g, h50, hPg⟩ := h50
        show Calls _ _ #[A.tmps[50]?.getD undef] _ _
        rw [h50]
        refine Calls.mono (shaSum_any _ _ _ [b.take j, b.drop j] _ hPg (by omega) (by rw [hsp.out]; exact hlen.out)) ?_
        rw [hsp.out]
        rintro e W' ⟨rfl, hb'⟩
        exact ⟨_, rfl, hb', rfl⟩
      · refine vk_yes rfl rfl (fun A W _ h => h.1) fun A W hR h N hN => ?_
        refine vk_of N ?_
        obtain ⟨h43, h7, _⟩ := h
        replace h43 : A.tmps[43]?.getD undef = _ := h43
        replace h7 := h7 _ rfl
        go_simp
        (try go_bits)
        exact hN _ _ (Below.refl _ _) rfl
      · refine vk_callg rfl rfl (fun A W _ h => h.1) rfl Try.func11 rfl (by kernel_rfl) fun A W hR h => ?_
        obtain ⟨h43, h52, _⟩ := h
        replace h43 : A.tmps[43]?.getD undef = _ := h43
        replace h52 : A.tmps[52]?.getD undef = _ := h52
        show Calls _ _ #[A.tmps[52]?.getD undef] _ _
        rw [h52]
        refine Calls.mono (refSha_any _ _ _ b _ (hB3.keep (.of_below hR)) (by omega)) ?_
        rintro e W' ⟨rfl, hb'⟩
        exact ⟨_, rfl, hb', rfl⟩
      · refine vk_yes rfl rfl (fun A W _ h => h.1) fun A W hR h N hN => ?_
        refine vk_of N ?_
        obtain ⟨h43, h51, h53, _⟩ := h
        replace h43 : A.tmps[43]?.getD undef = _ := h43
        replace h51 : A.tmps[51]?.getD undef = _ := h51
        replace h53 : A.tmps[53]?.getD undef = _ := h53
        go_simp
        (try go_bits)
        exact hN _ _ (Below.refl _ _) rfl
      · refine vk_none rfl fun A W hR h N hN => ?_
        refine vk_of N ?_
        obtain ⟨h43, h54, _⟩ := h
        replace h43 : A.tmps[43]?.getD undef = _ := h43
        replace h54 : A.tmps[54]?.getD undef = _ := h54
        go_simp
        (try go_bits)
        exact hN _ _ (Below.refl _ _) rfl
      · exact vk_mov rfl (.inl rfl) fun A W _ h => h.1
      · refine vk_yes rfl rfl (fun A W _ h => h.1) fun A W hR h N hN => ?_
        refine vk_of N ?_
        obtain ⟨h56, h7, _⟩ := h
        replace h56 : A.tmps[56]?.getD undef = _ := h56
        replace h7 := h7 _ rfl
        go_simp
        (try go_bits)
        exact hN _ _ (Below.refl _ _) rfl
      · refine vk_yes rfl rfl (fun A W _ h => h.1) fun A W hR h N hN => ?_
        refine vk_of N ?_
        obtain ⟨h56, h57, _⟩ := h
        replace h56 : A.tmps[56]?.getD undef = _ := h56
        replace h57 : A.tmps[57]?.getD undef = _ := h57
        go_simp
        (try go_bits)
        exact hN _ _ ((Below.refl _ _).alloc (Nat.le_refl _) _) ⟨_, rfl, Ps.lit2 _ rfl (hB3.keep (.of_below hR)) (by omega) (by omega) (Bs.nil _ _) (by omega) (by omega)⟩
      · refine vk_callg rfl rfl (fun A W _ h => h.1) rfl Try.func10 rfl (by kernel_rfl) fun A W hR h => ?_
        obtain ⟨h56, h58, _⟩ := h
        replace h56 : A.tmps[56]?.getD undef = _ := h56
        obtain ⟨g, h58, hPg⟩ := h58
        show Calls _ _ #[A.tmps[58]?.getD undef] _ _
        rw [h58]
        refine Calls.mono (shaSum_any _ _ _ [b, []] _ hPg (by omega) (by rw [hsp2.out]; exact hlen.out)) ?_
        rw [hsp2.out]
        rintro e W' ⟨rfl, hb'⟩
        exact ⟨_, rfl, hb', rfl⟩
      · refine vk_yes rfl rfl (fun A W _ h => h.1) fun A W hR h N hN => ?_
        refine vk_of N ?_
        obtain ⟨h56, h7, _⟩ := h
        replace h56 : A.tmps[56]?.getD undef = _ := h56
        replace h7 := h7 _ rfl
        go_simp
        (try go_bits)
        exact hN _ _ (Below.refl _ _) rfl
      · refine vk_callg rfl rfl (fun A W _ h => h.1) rfl Try.func11 rfl (by kernel_rfl) fun A W hR h => ?_
        obtain ⟨h56, h60, _⟩ := h
        replace h56 : A.tmps[56]?.getD undef = _ := h56
        replace h60 : A.tmps[60]?.getD undef = _ := h60
        show Calls _ _ #[A.tmps[60]?.getD undef] _ _
        rw [h60]
        refine Calls.mono (refSha_any _ _ _ b _ (hB3.keep (.of_below hR)) (by omega)) ?_
        rintro e W' ⟨rfl, hb'⟩
        exact ⟨_, rfl, hb', rfl⟩
      · refine vk_yes rfl rfl (fun A W _ h => h.1) fun A W hR h N hN => ?_
        refine vk_of N ?_
        obtain ⟨h56, h59, h61, _⟩ := h
        replace h56 : A.tmps[56]?.getD undef = _ := h56
        replace h59 : A.tmps[59]?.getD undef = _ := h59
        replace h61 : A.tmps[61]?.getD undef = _ := h61
        go_simp
        (try go_bits)
        exact hN _ _ (Below.refl _ _) rfl
      · refine vk_none rfl fun A W hR h N hN => ?_
        refine vk_of N ?_
        obtain ⟨h56, h62, _⟩ := h
        replace h56 : A.tmps[56]?.getD undef = _ := h56
        replace h62 : A.tmps[62]?.getD undef = _ := h62
        go_simp
        (try go_bits)
        exact hN _ _ (Below.refl _ _) rfl
      · exact vk_mov rfl (.inl rfl) fun A W _ h => h.1
      · refine vk_yes rfl rfl (fun A W _ h => h.1) fun A W hR h N hN => ?_
        refine vk_of N ?_
        obtain ⟨h64, h5, _⟩ := h
        replace h64 : A.tmps[64]?.getD undef = _ := h64
        replace h5 := h5 _ rfl
        rw [run_loadMid (b := g5) (off := 0) 24 (.tmp 5) rfl h5 (bv h) _ (rangeAt_below (H5R.out) hR) hashUnder rfl (by rw [hashInfo, length_bv, HL.out])]
        exact hN _ _ (Below.refl _ _) rfl
      · refine vk_callg rfl rfl (fun A W _ h => h.1) rfl Try.func12 rfl (by kernel_rfl) fun A W hR h => ?_
        obtain ⟨h64, h65, _⟩ := h
        replace h64 : A.tmps[64]?.getD undef = _ := h64
        replace h65 : A.tmps[65]?.getD undef = _ := h65
        show Calls _ _ #[A.tmps[65]?.getD undef] _ _
        rw [h65]
        refine Calls.mono (shaHex_any h HL.out _) ?_
        rintro e W' ⟨rfl, hb'⟩
        exact ⟨_, rfl, hb', rfl⟩
      · refine vk_yes rfl rfl (fun A W _ h => h.1) fun A W hR h N hN => ?_
        refine vk_of N ?_
        obtain ⟨h64, h5, _⟩ := h
        replace h64 : A.tmps[64]?.getD undef = _ := h64
        replace h5 := h5 _ rfl
        rw [run_loadMid (b := g5) (off := 0) 24 (.tmp 5) rfl h5 (bv h) _ (rangeAt_below (H5R.out) hR) hashUnder rfl (by rw [hashInfo, length_bv, HL.out])]
        exact hN _ _ (Below.refl _ _) rfl
      · refine vk_callg rfl rfl (fun A W _ h => h.1) rfl Try.func13 rfl (by kernel_rfl) fun A W hR h => ?_
        obtain ⟨h64, h67, _⟩ := h
        replace h64 : A.tmps[64]?.getD undef = _ := h64
        replace h67 : A.tmps[67]?.getD undef = _ := h67
        show Calls _ _ #[A.tmps[67]?.getD undef] _ _
        rw [h67]
        refine Calls.mono (refHex_any h HL.out _) ?_
        rintro e W' ⟨rfl, hb'⟩
        exact ⟨_, rfl, hb', rfl⟩
      · refine vk_yes rfl rfl (fun A W _ h => h.1) fun A W hR h N hN => ?_
        refine vk_of N ?_
        obtain ⟨h64, h66, h68, _⟩ := h
        replace h64 : A.tmps[64]?.getD undef = _ := h64
        replace h66 : A.tmps[66]?.getD undef = _ := h66
        replace h68 : A.tmps[68]?.getD undef = _ := h68
        go_simp
        (try go_bits)
        exact hN _ _ (Below.refl _ _) rfl
      · refine vk_none rfl fun A W hR h N hN => ?_
        refine vk_of N ?_
        obtain ⟨h64, h69, _⟩ := h
        replace h64 : A.tmps[64]?.getD undef = _ := h64
        replace h69 : A.tmps[69]?.getD undef = _ := h69
        go_simp
        (try go_bits)
        exact hN _ _ (Below.refl _ _) rfl
      · exact vk_mov rfl (.inr rfl) fun A W _ h => h.1
    case v1_fin =>
      intro fa fW fk hR he
      have e33 := he.2.2.2.2.2.2.2.2.2.2.2.2.2.2.2.2.2.2.2.2.2.2.2.2.2.2.2.2.2.2.2.2.2.1
      clear he
      replace e33 : fa.tmps[6]?.getD undef = _ := e33
      replace fk := fk.more 6 _ e33
      clear e33
      have hb := below_then hbb hR hbb.size
      refine kq_of _ _ ?_ fk
      clear fk fa
      simp only [nrm, lk, Nat.reduceBEq, cond_true, cond_false, List.take_succ_cons, List.take_zero, List.drop_succ_cons, List.drop_zero]
      repeat (first | refine kw_seq ?_ | refine kw_block ?_ | refine kw_skip ?_ | refine kw_region ?_ | refine kl_nil ?_ | refine kq_then ?_ | refine kq_block ?_ | refine kw_exit ?_ | refine kq_then_exit ?_ | refine kq_block_here rfl ?_ | refine kq_block_far rfl ?_ | refine kq_again_exit ?_ | refine kw_ret ?_ | refine kq_then_ret ?_ | refine kq_block_ret ?_ | refine kq_again_ret ?_ | refine kw_ift rfl ?_ | refine kw_iff rfl ?_ | refine kl_ung rfl rfl ?_ | refine kl_skipg rfl rfl rfl rfl ?_ | refine kl_skipg0 rfl rfl rfl ?_ | (first | refine kl_move rfl rfl (.inl rfl) rfl rfl ?_ | refine kl_move rfl rfl (.inr rfl) rfl rfl ?_ | refine kl_const rfl rfl (.inl rfl) rfl ?_ | refine kl_const rfl rfl (.inr rfl) rfl ?_) | ((first | refine kl_step rfl rfl rfl fun K hK => ?_ | refine kl_step0 rfl rfl rfl fun K hK => ?_); go_simp; (try go_bits); (first | refine hK _ _ ?_ | refine hK _ ?_); clear hK K))
      exact kq_ret1 rfl rfl ⟨rfl, by rw [HG5.out] at hb; exact hb⟩
end Go.Proofs.Ytkjfejkikejnhaa
