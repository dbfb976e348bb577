/- slices.Equal at bytes and at bools; slices.Clone at bools. -/
import Derived.Test.YtkgenkkcgegcbaaConcat
import Derived.Lib.SliceRun
namespace Go.Proofs.Ytkgenkkcgegcbaa
open Go.RowKit
attribute [local go_sem] ev_tmp ev_const ev_func ev_global lk_hit lk_miss uponK_value uponK_skip look_tmp look_const look_global look_func
theorem boolInfo : (Try.prog.info? 4).map (fun i => (i.zero, i.size, i.bytes)) = some (some (.bool false), 1, 1) := by kernel_rfl
set_option maxRecDepth 100000 in
set_option maxHeartbeats 1000000 in
theorem cloneO_any (A : Option Addr) (n c : Nat) (l : List Bool) (w : World) (hA : Vs w A n (bls l)) (hn : n ≤ 70368744177664) :
    Calls Try.prog 59 #[.slice A n c] w fun e w' => ∃ v, e = .returned v ∧ w'.ownsRow w.heap.size 4 1 v n (bls l) ∧ Below w.heap.size w w' := by
  have hnil := fun W => Lib.run_eql_slice_nil (P := Try.prog) W 30 4 A n c 0 0 Try.underlying30
  rcases A with _ | ad
  · have h0 : n = 0 := by
      rcases Nat.eq_zero_or_pos n with h | h
      · exact h
      · obtain ⟨_, _, h, _⟩ := hA.2 h; cases h
    subst h0
    have hl : l = [] := by have := hA.1; rw [length_bls] at this; exact List.eq_nil_of_length_eq_zero this
    subst hl
    clear hA
    refine calls_kw Try.func59 rfl Try.ntmps59 rfl [(0, .slice none 0 c)] rfl ?_
    repeat (first | refine kw_seq ?_ | refine kw_block ?_ | refine kw_skip ?_ | refine kw_region ?_ | refine kl_nil ?_ | refine kq_then ?_ | refine kq_block ?_ | refine kw_exit ?_ | refine kq_then_exit ?_ | refine kq_block_here rfl ?_ | refine kq_block_far rfl ?_ | refine kq_again_exit ?_ | refine kw_ret ?_ | refine kq_then_ret ?_ | refine kq_block_ret ?_ | refine kq_again_ret ?_ | refine kw_ift rfl ?_ | refine kw_iff rfl ?_ | refine kl_ung rfl rfl ?_ | refine kl_skipg rfl rfl rfl rfl ?_ | refine kl_skipg0 rfl rfl rfl ?_ | (first | refine kl_move rfl rfl (.inl rfl) rfl rfl ?_ | refine kl_move rfl rfl (.inr rfl) rfl rfl ?_ | refine kl_const rfl rfl (.inl rfl) rfl ?_ | refine kl_const rfl rfl (.inr rfl) rfl ?_) | ((first | refine kl_step rfl rfl rfl fun K hK => ?_ | refine kl_step0 rfl rfl rfl fun K hK => ?_); go_simp; (try go_bits); (first | refine hK _ _ ?_ | refine hK _ ?_); clear hK K))
    exact kq_ret1 rfl rfl ⟨_, rfl, World.ownsRow_nil _ _ _ _, Below.refl _ _⟩
  · refine calls_kw Try.func59 rfl Try.ntmps59 rfl [(0, .slice (some ad) n c)] rfl ?_
    repeat (first | refine kw_seq ?_ | refine kw_block ?_ | refine kw_skip ?_ | refine kw_region ?_ | refine kl_nil ?_ | refine kq_then ?_ | refine kq_block ?_ | refine kw_exit ?_ | refine kq_then_exit ?_ | refine kq_block_here rfl ?_ | refine kq_block_far rfl ?_ | refine kq_again_exit ?_ | refine kw_ret ?_ | refine kq_then_ret ?_ | refine kq_block_ret ?_ | refine kq_again_ret ?_ | refine kw_ift rfl ?_ | refine kw_iff rfl ?_ | refine kl_ung rfl rfl ?_ | refine kl_skipg rfl rfl rfl rfl ?_ | refine kl_skipg0 rfl rfl rfl ?_ | (first | refine kl_move rfl rfl (.inl rfl) rfl rfl ?_ | refine kl_move rfl rfl (.inr rfl) rfl rfl ?_ | refine kl_const rfl rfl (.inl rfl) rfl ?_ | refine kl_const rfl rfl (.inr rfl) rfl ?_) | ((first | refine kl_step rfl rfl rfl fun K hK => ?_ | refine kl_step0 rfl rfl rfl fun K hK => ?_); go_simp; (try go_bits); (first | refine hK _ _ ?_ | refine hK _ ?_); clear hK K))
    refine kl_appendV 30 4 (.bool false) 1 Try.underlying30 boolInfo rfl w.heap.size (.slice (some ⟨w.heap.size, 0, none⟩) 0 0) 0 [] (World.ownsRow_made w #[] 0 (Nat.le_refl _) (by simp [maxLen]) rfl) (some ad) n c (bls l) (hA.alloc _) (bls_one l) (by omega) (by omega) (by simp) rfl rfl rfl rfl rfl rfl ?_
    intro v' w' hown hg _
    rw [Nat.zero_add, List.nil_append] at hown
    have hb := ((Below.refl w.heap.size w).alloc (Nat.le_refl _) (.cells #[] 4)).grown hg (by simp) (by simp [Value.ownBlock])
    repeat (first | refine kw_seq ?_ | refine kw_block ?_ | refine kw_skip ?_ | refine kw_region ?_ | refine kl_nil ?_ | refine kq_then ?_ | refine kq_block ?_ | refine kw_exit ?_ | refine kq_then_exit ?_ | refine kq_block_here rfl ?_ | refine kq_block_far rfl ?_ | refine kq_again_exit ?_ | refine kw_ret ?_ | refine kq_then_ret ?_ | refine kq_block_ret ?_ | refine kq_again_ret ?_ | refine kw_ift rfl ?_ | refine kw_iff rfl ?_ | refine kl_ung rfl rfl ?_ | refine kl_skipg rfl rfl rfl rfl ?_ | refine kl_skipg0 rfl rfl rfl ?_ | (first | refine kl_move rfl rfl (.inl rfl) rfl rfl ?_ | refine kl_move rfl rfl (.inr rfl) rfl rfl ?_ | refine kl_const rfl rfl (.inl rfl) rfl ?_ | refine kl_const rfl rfl (.inr rfl) rfl ?_) | ((first | refine kl_step rfl rfl rfl fun K hK => ?_ | refine kl_step0 rfl rfl rfl fun K hK => ?_); go_simp; (try go_bits); (first | refine hK _ _ ?_ | refine hK _ ?_); clear hK K))
    exact kq_ret1 rfl rfl ⟨_, rfl, hown, hb⟩
set_option maxRecDepth 100000 in
set_option maxHeartbeats 1000000 in
theorem equalB_any (A A' : Option Addr) (n c n' c' : Nat) (l l' : List UInt8) (w : World) (hA : Bs w A n l) (hA' : Bs w A' n' l') (hn : n ≤ 4611686018427387904) :
    Calls Try.prog 33 #[.slice A n c, .slice A' n' c'] w fun e w' => e = .returned (.bool (decide (l = l'))) ∧ Below w.heap.size w w' := by
  have hl : l.length = n := by have := hA.1; simpa [bv] using this
  have hl' : l'.length = n' := by have := hA'.1; simpa [bv] using this
  have HL := Lib.hid hl
  have HL' := Lib.hid hl'
  clear hl hl'
  refine calls_kw Try.func33 rfl Try.ntmps33 rfl [(0, .slice A n c), (1, .slice A' n' c')] rfl ?_
  by_cases hne : n = n'
  case neg =>
    have d1 : ((n : Int) != n') = true := by rw [bne_iff_ne]; omega
    have hd : l ≠ l' := fun h => hne (by rw [← HL.out, ← HL'.out, h])
    have HD := Lib.hid hd
    clear hd
    repeat (first | refine kw_seq ?_ | refine kw_block ?_ | refine kw_skip ?_ | refine kw_region ?_ | refine kl_nil ?_ | refine kq_then ?_ | refine kq_block ?_ | refine kw_exit ?_ | refine kq_then_exit ?_ | refine kq_block_here rfl ?_ | refine kq_block_far rfl ?_ | refine kq_again_exit ?_ | refine kw_ret ?_ | refine kq_then_ret ?_ | refine kq_block_ret ?_ | refine kq_again_ret ?_ | refine kw_ift rfl ?_ | refine kw_iff rfl ?_ | refine kl_ung rfl rfl ?_ | refine kl_skipg rfl rfl rfl rfl ?_ | refine kl_skipg0 rfl rfl rfl ?_ | (first | refine kl_move rfl rfl (.inl rfl) rfl rfl ?_ | refine kl_move rfl rfl (.inr rfl) rfl rfl ?_ | refine kl_const rfl rfl (.inl rfl) rfl ?_ | refine kl_const rfl rfl (.inr rfl) rfl ?_) | ((first | refine kl_step rfl rfl rfl fun K hK => ?_ | refine kl_step0 rfl rfl rfl fun K hK => ?_); go_simp; (try go_bits); (first | refine hK _ _ ?_ | refine hK _ ?_); clear hK K))
    exact kq_ret1 rfl rfl ⟨by rw [decide_eq_false HD.out], Below.refl _ _⟩
  subst hne
  repeat (first | refine kw_seq ?_ | refine kw_skip ?_ | refine kw_region ?_ | refine kl_nil ?_ | refine kq_then ?_ | refine kq_block ?_ | refine kw_exit ?_ | refine kq_then_exit ?_ | refine kq_block_here rfl ?_ | refine kq_block_far rfl ?_ | refine kq_again_exit ?_ | refine kw_ret ?_ | refine kq_then_ret ?_ | refine kq_block_ret ?_ | refine kq_again_ret ?_ | refine kw_ift rfl ?_ | refine kw_iff rfl ?_ | refine kl_ung rfl rfl ?_ | refine kl_skipg rfl rfl rfl rfl ?_ | refine kl_skipg0 rfl rfl rfl ?_ | (first | refine kl_move rfl rfl (.inl rfl) rfl rfl ?_ | refine kl_move rfl rfl (.inr rfl) rfl rfl ?_ | refine kl_const rfl rfl (.inl rfl) rfl ?_ | refine kl_const rfl rfl (.inr rfl) rfl ?_) | ((first | refine kl_step rfl rfl rfl fun K hK => ?_ | refine kl_step0 rfl rfl rfl fun K hK => ?_); go_simp; (try go_bits); (first | refine hK _ _ ?_ | refine hK _ ?_); clear hK K))
  refine KW.less [0, 1, 12, 13] ?_
  simp only [nrm, lk, Nat.reduceBEq, cond_true, cond_false]
  refine kw_block ?_
  refine kw_loop (fun m L wr => ∃ k, k ≤ n ∧ m = n - k ∧ Below w.heap.size w wr ∧ Hid (l.take k = l'.take k) ∧ L = [(0, .slice A n c), (1, .slice A' n c'), (12, .int .i64 (n : Int)), (13, .int .i64 (k : Int))]) ⟨0, by omega, rfl, Below.refl _ _, by show _ = _; simp, rfl⟩ ?_
  rintro m L wr ⟨k, hk, rfl, hb, htk, rfl⟩
  by_cases hlt : k < n
  · have hk1 : (k : Int) < n := by omega
    have hk0 : (0 : Int) ≤ k := by omega
    obtain ⟨b, o, x, rfl, hcell, hx, hgx⟩ := hA.next hlt
    obtain ⟨b', o', y, rfl, hcell', hy, hgy⟩ := hA'.next hlt
    have c1 := Keeps.of_below hb _ _ hcell
    have c2 := Keeps.of_below hb _ _ hcell'
    clear hcell hcell'
    by_cases hxy : x = y
    · subst hxy
      repeat (first | refine kw_seq ?_ | refine kw_block ?_ | refine kw_skip ?_ | refine kw_region ?_ | refine kl_nil ?_ | refine kq_then ?_ | refine kq_block ?_ | refine kw_exit ?_ | refine kq_then_exit ?_ | refine kq_block_here rfl ?_ | refine kq_block_far rfl ?_ | refine kq_again_exit ?_ | refine kw_ret ?_ | refine kq_then_ret ?_ | refine kq_block_ret ?_ | refine kq_again_ret ?_ | refine kw_ift rfl ?_ | refine kw_iff rfl ?_ | refine kl_ung rfl rfl ?_ | refine kl_skipg rfl rfl rfl rfl ?_ | refine kl_skipg0 rfl rfl rfl ?_ | (first | refine kl_move rfl rfl (.inl rfl) rfl rfl ?_ | refine kl_move rfl rfl (.inr rfl) rfl rfl ?_ | refine kl_const rfl rfl (.inl rfl) rfl ?_ | refine kl_const rfl rfl (.inr rfl) rfl ?_) | ((first | refine kl_step rfl rfl rfl fun K hK => ?_ | refine kl_step0 rfl rfl rfl fun K hK => ?_); go_simp; (try go_bits); (first | refine hK _ _ ?_ | refine hK _ ?_); clear hK K))
      refine KW.less [0, 1, 5, 12, 13] ?_
      simp only [nrm, lk, Nat.reduceBEq, cond_true, cond_false]
      refine kw_region_x [none, none, none, none, none, none, none, none, none]
        [[(0, none)], [(5, none)], [(16, some 0), (17, some 1)], [(18, some 2)], [(1, none)], [(5, none)], [(20, some 4), (21, some 5)], [(22, some 6)], [(19, some 3), (23, some 7)]]
        [0, 1, 5, 12, 13] (by kernel_rfl) (by kernel_rfl) (by kernel_rfl) (by kernel_rfl)
        trivial ?_
      repeat (first | apply exs_none | apply exs_some)
      refine exs_nil (And.intro ?v1_vc ?v1_fin)
      case v1_vc =>
        refine ⟨?_, ?_, ?_, ?_, ?_, ?_, ?_, ?_, ?_, trivial⟩
        · exact vk_mov rfl (.inl rfl) fun A W _ h => h.1 _ rfl
        · exact vk_mov rfl (.inl rfl) fun A W _ h => h.1 _ rfl
        · refine vk_none rfl fun A W hR h N hN => ?_
          refine vk_of N ?_
          obtain ⟨h16, h17, _⟩ := h
          replace h16 : A.tmps[16]?.getD undef = _ := h16
          replace h17 : A.tmps[17]?.getD undef = _ := h17
          go_simp
          (try go_bits)
          exact hN _ _ (Below.refl _ _) rfl
        · refine vk_none rfl fun A W hR h N hN => ?_
          refine vk_of N ?_
          obtain ⟨h18, _⟩ := h
          replace h18 : A.tmps[18]?.getD undef = _ := h18
          have c1 := Keeps.of_below hR _ _ c1
          have c2 := Keeps.of_below hR _ _ c2
          go_simp
          (try go_bits)
          exact hN _ _ (Below.refl _ _) rfl
        · exact vk_mov rfl (.inl rfl) fun A W _ h => h.1 _ rfl
        · exact vk_mov rfl (.inl rfl) fun A W _ h => h.1 _ rfl
        · refine vk_none rfl fun A W hR h N hN => ?_
          refine vk_of N ?_
          obtain ⟨h20, h21, _⟩ := h
          replace h20 : A.tmps[20]?.getD undef = _ := h20
          replace h21 : A.tmps[21]?.getD undef = _ := h21
          go_simp
          (try go_bits)
          exact hN _ _ (Below.refl _ _) rfl
        · refine vk_none rfl fun A W hR h N hN => ?_
          refine vk_of N ?_
          obtain ⟨h22, _⟩ := h
          replace h22 : A.tmps[22]?.getD undef = _ := h22
          have c1 := Keeps.of_below hR _ _ c1
          have c2 := Keeps.of_below hR _ _ c2
          go_simp
          (try go_bits)
          exact hN _ _ (Below.refl _ _) rfl
        · refine vk_none rfl fun A W hR h N hN => ?_
          refine vk_of N ?_
          obtain ⟨h19, h23, _⟩ := h
          replace h19 : A.tmps[19]?.getD undef = _ := h19
          replace h23 : A.tmps[23]?.getD undef = _ := h23
          go_simp
          (try go_bits)
          exact hN _ _ (Below.refl _ _) rfl
      case v1_fin =>
        intro fa fW fk hR he
        have e8 := he.2.2.2.2.2.2.2.2.1
        clear he
        replace e8 : fa.tmps[24]?.getD undef = _ := e8
        replace fk := fk.more 24 _ e8
        clear e8
        have hb := below_then hb hR hb.size
        refine kq_of _ _ ?_ fk
        clear fk fa
        simp only [nrm, lk, Nat.reduceBEq, cond_true, cond_false, List.take_succ_cons, List.take_zero, List.drop_succ_cons, List.drop_zero]
        repeat (first | refine kw_seq ?_ | refine kw_block ?_ | refine kw_skip ?_ | refine kw_region ?_ | refine kl_nil ?_ | refine kq_then ?_ | refine kq_block ?_ | refine kw_exit ?_ | refine kq_then_exit ?_ | refine kq_block_here rfl ?_ | refine kq_block_far rfl ?_ | refine kq_again_exit ?_ | refine kw_ret ?_ | refine kq_then_ret ?_ | refine kq_block_ret ?_ | refine kq_again_ret ?_ | refine kw_ift rfl ?_ | refine kw_iff rfl ?_ | refine kl_ung rfl rfl ?_ | refine kl_skipg rfl rfl rfl rfl ?_ | refine kl_skipg0 rfl rfl rfl ?_ | (first | refine kl_move rfl rfl (.inl rfl) rfl rfl ?_ | refine kl_move rfl rfl (.inr rfl) rfl rfl ?_ | refine kl_const rfl rfl (.inl rfl) rfl ?_ | refine kl_const rfl rfl (.inr rfl) rfl ?_) | ((first | refine kl_step rfl rfl rfl fun K hK => ?_ | refine kl_step0 rfl rfl rfl fun K hK => ?_); go_simp; (try go_bits); (first | refine hK _ _ ?_ | refine hK _ ?_); clear hK K))
        refine kq_again (n - (k + 1)) [0, 1, 12, 13] (by omega) ?_
        simp only [nrm, lk, Nat.reduceBEq, cond_true, cond_false]
        exact ⟨k + 1, by omega, rfl, hb, by show _ = _; rw [hx.out, hy.out, htk.out], rfl⟩
    · have hd : l ≠ l' := fun h => hxy (by have h1 := hgx.out; rw [h, hgy.out] at h1; injection h1 with h1; exact h1.symm)
      have HD := Lib.hid hd
      have d1 : ((x.toNat : Int) != y.toNat) = true := by rw [bne_iff_ne]; intro h; exact hxy (UInt8.toNat_inj.1 (by omega))
      clear hd
      repeat (first | refine kw_seq ?_ | refine kw_block ?_ | refine kw_skip ?_ | refine kw_region ?_ | refine kl_nil ?_ | refine kq_then ?_ | refine kq_block ?_ | refine kw_exit ?_ | refine kq_then_exit ?_ | refine kq_block_here rfl ?_ | refine kq_block_far rfl ?_ | refine kq_again_exit ?_ | refine kw_ret ?_ | refine kq_then_ret ?_ | refine kq_block_ret ?_ | refine kq_again_ret ?_ | refine kw_ift rfl ?_ | refine kw_iff rfl ?_ | refine kl_ung rfl rfl ?_ | refine kl_skipg rfl rfl rfl rfl ?_ | refine kl_skipg0 rfl rfl rfl ?_ | (first | refine kl_move rfl rfl (.inl rfl) rfl rfl ?_ | refine kl_move rfl rfl (.inr rfl) rfl rfl ?_ | refine kl_const rfl rfl (.inl rfl) rfl ?_ | refine kl_const rfl rfl (.inr rfl) rfl ?_) | ((first | refine kl_step rfl rfl rfl fun K hK => ?_ | refine kl_step0 rfl rfl rfl fun K hK => ?_); go_simp; (try go_bits); (first | refine hK _ _ ?_ | refine hK _ ?_); clear hK K))
      refine KW.less [0, 1, 5, 12, 13] ?_
      simp only [nrm, lk, Nat.reduceBEq, cond_true, cond_false]
      refine kw_region_x [none, none, none, none, none, none, none, none, none]
        [[(0, none)], [(5, none)], [(16, some 0), (17, some 1)], [(18, some 2)], [(1, none)], [(5, none)], [(20, some 4), (21, some 5)], [(22, some 6)], [(19, some 3), (23, some 7)]]
        [0, 1, 5, 12, 13] (by kernel_rfl) (by kernel_rfl) (by kernel_rfl) (by kernel_rfl)
        trivial ?_
      repeat (first | apply exs_none | apply exs_some)
      refine exs_nil (And.intro ?v2_vc ?v2_fin)
      case v2_vc =>
        refine ⟨?_, ?_, ?_, ?_, ?_, ?_, ?_, ?_, ?_, trivial⟩
        · exact vk_mov rfl (.inl rfl) fun A W _ h => h.1 _ rfl
        · exact vk_mov rfl (.inl rfl) fun A W _ h => h.1 _ rfl
        · refine vk_none rfl fun A W hR h N hN => ?_
          refine vk_of N ?_
          obtain ⟨h16, h17, _⟩ := h
          replace h16 : A.tmps[16]?.getD undef = _ := h16
          replace h17 : A.tmps[17]?.getD undef = _ := h17
          go_simp
          (try go_bits)
          exact hN _ _ (Below.refl _ _) rfl
        · refine vk_none rfl fun A W hR h N hN => ?_
          refine vk_of N ?_
          obtain ⟨h18, _⟩ := h
          replace h18 : A.tmps[18]?.getD undef = _ := h18
          have c1 := Keeps.of_below hR _ _ c1
          have c2 := Keeps.of_below hR _ _ c2
          go_simp
          (try go_bits)
          exact hN _ _ (Below.refl _ _) rfl
        · exact vk_mov rfl (.inl rfl) fun A W _ h => h.1 _ rfl
        · exact vk_mov rfl (.inl rfl) fun A W _ h => h.1 _ rfl
        · refine vk_none rfl fun A W hR h N hN => ?_
          refine vk_of N ?_
          obtain ⟨h20, h21, _⟩ := h
          replace h20 : A.tmps[20]?.getD undef = _ := h20
          replace h21 : A.tmps[21]?.getD undef = _ := h21
          go_simp
          (try go_bits)
          exact hN _ _ (Below.refl _ _) rfl
        · refine vk_none rfl fun A W hR h N hN => ?_
          refine vk_of N ?_
          obtain ⟨h22, _⟩ := h
          replace h22 : A.tmps[22]?.getD undef = _ := h22
          have c1 := Keeps.of_below hR _ _ c1
          have c2 := Keeps.of_below hR _ _ c2
          go_simp
          (try go_bits)
          exact hN _ _ (Below.refl _ _) rfl
        · refine vk_none rfl fun A W hR h N hN => ?_
          refine vk_of N ?_
          obtain ⟨h19, h23, _⟩ := h
          replace h19 : A.tmps[19]?.getD undef = _ := h19
          replace h23 : A.tmps[23]?.getD undef = _ := h23
          go_simp
          (try go_bits)
          exact hN _ _ (Below.refl _ _) rfl
      case v2_fin =>
        intro fa fW fk hR he
        have e8 := he.2.2.2.2.2.2.2.2.1
        clear he
        replace e8 : fa.tmps[24]?.getD undef = _ := e8
        replace fk := fk.more 24 _ e8
        clear e8
        have hb := below_then hb hR hb.size
        refine kq_of _ _ ?_ fk
        clear fk fa
        simp only [nrm, lk, Nat.reduceBEq, cond_true, cond_false, List.take_succ_cons, List.take_zero, List.drop_succ_cons, List.drop_zero]
        repeat (first | refine kw_seq ?_ | refine kw_block ?_ | refine kw_skip ?_ | refine kw_region ?_ | refine kl_nil ?_ | refine kq_then ?_ | refine kq_block ?_ | refine kw_exit ?_ | refine kq_then_exit ?_ | refine kq_block_here rfl ?_ | refine kq_block_far rfl ?_ | refine kq_again_exit ?_ | refine kw_ret ?_ | refine kq_then_ret ?_ | refine kq_block_ret ?_ | refine kq_again_ret ?_ | refine kw_ift rfl ?_ | refine kw_iff rfl ?_ | refine kl_ung rfl rfl ?_ | refine kl_skipg rfl rfl rfl rfl ?_ | refine kl_skipg0 rfl rfl rfl ?_ | (first | refine kl_move rfl rfl (.inl rfl) rfl rfl ?_ | refine kl_move rfl rfl (.inr rfl) rfl rfl ?_ | refine kl_const rfl rfl (.inl rfl) rfl ?_ | refine kl_const rfl rfl (.inr rfl) rfl ?_) | ((first | refine kl_step rfl rfl rfl fun K hK => ?_ | refine kl_step0 rfl rfl rfl fun K hK => ?_); go_simp; (try go_bits); (first | refine hK _ _ ?_ | refine hK _ ?_); clear hK K))
        exact kq_ret1 rfl rfl ⟨by rw [decide_eq_false HD.out], hb⟩
  · obtain rfl : k = n := by omega
    have hll : l = l' := by
      have h := htk.out
      rw [List.take_of_length_le (by rw [HL.out]; exact Nat.le_refl _), List.take_of_length_le (by rw [HL'.out]; exact Nat.le_refl _)] at h
      exact h
    have HD := Lib.hid hll
    clear hll
    repeat (first | refine kw_seq ?_ | refine kw_block ?_ | refine kw_skip ?_ | refine kw_region ?_ | refine kl_nil ?_ | refine kq_then ?_ | refine kq_block ?_ | refine kw_exit ?_ | refine kq_then_exit ?_ | refine kq_block_here rfl ?_ | refine kq_block_far rfl ?_ | refine kq_again_exit ?_ | refine kw_ret ?_ | refine kq_then_ret ?_ | refine kq_block_ret ?_ | refine kq_again_ret ?_ | refine kw_ift rfl ?_ | refine kw_iff rfl ?_ | refine kl_ung rfl rfl ?_ | refine kl_skipg rfl rfl rfl rfl ?_ | refine kl_skipg0 rfl rfl rfl ?_ | (first | refine kl_move rfl rfl (.inl rfl) rfl rfl ?_ | refine kl_move rfl rfl (.inr rfl) rfl rfl ?_ | refine kl_const rfl rfl (.inl rfl) rfl ?_ | refine kl_const rfl rfl (.inr rfl) rfl ?_) | ((first | refine kl_step rfl rfl rfl fun K hK => ?_ | refine kl_step0 rfl rfl rfl fun K hK => ?_); go_simp; (try go_bits); (first | refine hK _ _ ?_ | refine hK _ ?_); clear hK K))
    exact kq_ret1 rfl rfl ⟨by rw [decide_eq_true HD.out], hb⟩
set_option maxRecDepth 100000 in
set_option maxHeartbeats 1000000 in
theorem equalO_any (A A' : Option Addr) (n c n' c' : Nat) (l l' : List Bool) (w : World) (hA : Vs w A n (bls l)) (hA' : Vs w A' n' (bls l')) (hn : n ≤ 4611686018427387904) :
    Calls Try.prog 34 #[.slice A n c, .slice A' n' c'] w fun e w' => e = .returned (.bool (decide (l = l'))) ∧ Below w.heap.size w w' := by
  have hl : l.length = n := by have := hA.1; simpa [bls] using this
  have hl' : l'.length = n' := by have := hA'.1; simpa [bls] using this
  have HL := Lib.hid hl
  have HL' := Lib.hid hl'
  clear hl hl'
  refine calls_kw Try.func34 rfl Try.ntmps34 rfl [(0, .slice A n c), (1, .slice A' n' c')] rfl ?_
  by_cases hne : n = n'
  case neg =>
    have d1 : ((n : Int) != n') = true := by rw [bne_iff_ne]; omega
    have hd : l ≠ l' := fun h => hne (by rw [← HL.out, ← HL'.out, h])
    have HD := Lib.hid hd
    clear hd
    repeat (first | refine kw_seq ?_ | refine kw_block ?_ | refine kw_skip ?_ | refine kw_region ?_ | refine kl_nil ?_ | refine kq_then ?_ | refine kq_block ?_ | refine kw_exit ?_ | refine kq_then_exit ?_ | refine kq_block_here rfl ?_ | refine kq_block_far rfl ?_ | refine kq_again_exit ?_ | refine kw_ret ?_ | refine kq_then_ret ?_ | refine kq_block_ret ?_ | refine kq_again_ret ?_ | refine kw_ift rfl ?_ | refine kw_iff rfl ?_ | refine kl_ung rfl rfl ?_ | refine kl_skipg rfl rfl rfl rfl ?_ | refine kl_skipg0 rfl rfl rfl ?_ | (first | refine kl_move rfl rfl (.inl rfl) rfl rfl ?_ | refine kl_move rfl rfl (.inr rfl) rfl rfl ?_ | refine kl_const rfl rfl (.inl rfl) rfl ?_ | refine kl_const rfl rfl (.inr rfl) rfl ?_) | ((first | refine kl_step rfl rfl rfl fun K hK => ?_ | refine kl_step0 rfl rfl rfl fun K hK => ?_); go_simp; (try go_bits); (first | refine hK _ _ ?_ | refine hK _ ?_); clear hK K))
    exact kq_ret1 rfl rfl ⟨by rw [decide_eq_false HD.out], Below.refl _ _⟩
  subst hne
  repeat (first | refine kw_seq ?_ | refine kw_skip ?_ | refine kw_region ?_ | refine kl_nil ?_ | refine kq_then ?_ | refine kq_block ?_ | refine kw_exit ?_ | refine kq_then_exit ?_ | refine kq_block_here rfl ?_ | refine kq_block_far rfl ?_ | refine kq_again_exit ?_ | refine kw_ret ?_ | refine kq_then_ret ?_ | refine kq_block_ret ?_ | refine kq_again_ret ?_ | refine kw_ift rfl ?_ | refine kw_iff rfl ?_ | refine kl_ung rfl rfl ?_ | refine kl_skipg rfl rfl rfl rfl ?_ | refine kl_skipg0 rfl rfl rfl ?_ | (first | refine kl_move rfl rfl (.inl rfl) rfl rfl ?_ | refine kl_move rfl rfl (.inr rfl) rfl rfl ?_ | refine kl_const rfl rfl (.inl rfl) rfl ?_ | refine kl_const rfl rfl (.inr rfl) rfl ?_) | ((first | refine kl_step rfl rfl rfl fun K hK => ?_ | refine kl_step0 rfl rfl rfl fun K hK => ?_); go_simp; (try go_bits); (first | refine hK _ _ ?_ | refine hK _ ?_); clear hK K))
  refine KW.less [0, 1, 12, 13] ?_
  simp only [nrm, lk, Nat.reduceBEq, cond_true, cond_false]
  refine kw_block ?_
  refine kw_loop (fun m L wr => ∃ k, k ≤ n ∧ m = n - k ∧ Below w.heap.size w wr ∧ Hid (l.take k = l'.take k) ∧ L = [(0, .slice A n c), (1, .slice A' n c'), (12, .int .i64 (n : Int)), (13, .int .i64 (k : Int))]) ⟨0, by omega, rfl, Below.refl _ _, by show _ = _; simp, rfl⟩ ?_
  rintro m L wr ⟨k, hk, rfl, hb, htk, rfl⟩
  by_cases hlt : k < n
  · have hk1 : (k : Int) < n := by omega
    have hk0 : (0 : Int) ≤ k := by omega
    have hlk : k < l.length := by rw [HL.out]; exact hlt
    have hlk' : k < l'.length := by rw [HL'.out]; exact hlt
    obtain ⟨b, o, u, rfl, hcell, _, hu⟩ := Vs.next hA hlt
    obtain ⟨b', o', u', rfl, hcell', _, hu'⟩ := Vs.next hA' hlt
    obtain ⟨x, rfl, hx, hgx⟩ : ∃ x, u = .bool x ∧ Hid (l.take (k + 1) = l.take k ++ [x]) ∧ Hid (l[k]? = some x) := by
      have h := hu.out
      rw [bls_get l k hlk] at h
      injection h with h
      exact ⟨l[k], h.symm, take_next hlk, List.getElem?_eq_getElem hlk⟩
    obtain ⟨y, rfl, hy, hgy⟩ : ∃ y, u' = .bool y ∧ Hid (l'.take (k + 1) = l'.take k ++ [y]) ∧ Hid (l'[k]? = some y) := by
      have h := hu'.out
      rw [bls_get l' k hlk'] at h
      injection h with h
      exact ⟨l'[k], h.symm, take_next hlk', List.getElem?_eq_getElem hlk'⟩
    have c1 := Keeps.of_below hb _ _ hcell
    have c2 := Keeps.of_below hb _ _ hcell'
    clear hcell hcell' hu hu' hlk hlk'
    have hcase : x = y ∨ (x = true ∧ y = false) ∨ (x = false ∧ y = true) := by cases x <;> cases y <;> simp
    rcases hcase with rfl | hxy
    · cases x
      all_goals
        repeat (first | refine kw_seq ?_ | refine kw_block ?_ | refine kw_skip ?_ | refine kw_region ?_ | refine kl_nil ?_ | refine kq_then ?_ | refine kq_block ?_ | refine kw_exit ?_ | refine kq_then_exit ?_ | refine kq_block_here rfl ?_ | refine kq_block_far rfl ?_ | refine kq_again_exit ?_ | refine kw_ret ?_ | refine kq_then_ret ?_ | refine kq_block_ret ?_ | refine kq_again_ret ?_ | refine kw_ift rfl ?_ | refine kw_iff rfl ?_ | refine kl_ung rfl rfl ?_ | refine kl_skipg rfl rfl rfl rfl ?_ | refine kl_skipg0 rfl rfl rfl ?_ | (first | refine kl_move rfl rfl (.inl rfl) rfl rfl ?_ | refine kl_move rfl rfl (.inr rfl) rfl rfl ?_ | refine kl_const rfl rfl (.inl rfl) rfl ?_ | refine kl_const rfl rfl (.inr rfl) rfl ?_) | ((first | refine kl_step rfl rfl rfl fun K hK => ?_ | refine kl_step0 rfl rfl rfl fun K hK => ?_); go_simp; (try go_bits); (first | refine hK _ _ ?_ | refine hK _ ?_); clear hK K))
        refine KW.less [0, 1, 5, 12, 13] ?_
        simp only [nrm, lk, Nat.reduceBEq, cond_true, cond_false]
        refine kw_region_x [none, none, none, none, none, none, none, none, none]
          [[(0, none)], [(5, none)], [(16, some 0), (17, some 1)], [(18, some 2)], [(1, none)], [(5, none)], [(20, some 4), (21, some 5)], [(22, some 6)], [(19, some 3), (23, some 7)]]
          [0, 1, 5, 12, 13] (by kernel_rfl) (by kernel_rfl) (by kernel_rfl) (by kernel_rfl)
          trivial ?_
        repeat (first | apply exs_none | apply exs_some)
        refine exs_nil (And.intro ?v3_vc ?v3_fin)
        case v3_vc =>
          refine ⟨?_, ?_, ?_, ?_, ?_, ?_, ?_, ?_, ?_, trivial⟩
          · exact vk_mov rfl (.inl rfl) fun A W _ h => h.1 _ rfl
          · exact vk_mov rfl (.inl rfl) fun A W _ h => h.1 _ rfl
          · refine vk_none rfl fun A W hR h N hN => ?_
            refine vk_of N ?_
            obtain ⟨h16, h17, _⟩ := h
            replace h16 : A.tmps[16]?.getD undef = _ := h16
            replace h17 : A.tmps[17]?.getD undef = _ := h17
            go_simp
            (try go_bits)
            exact hN _ _ (Below.refl _ _) rfl
          · refine vk_none rfl fun A W hR h N hN => ?_
            refine vk_of N ?_
            obtain ⟨h18, _⟩ := h
            replace h18 : A.tmps[18]?.getD undef = _ := h18
            have c1 := Keeps.of_below hR _ _ c1
            have c2 := Keeps.of_below hR _ _ c2
            go_simp
            (try go_bits)
            exact hN _ _ (Below.refl _ _) rfl
          · exact vk_mov rfl (.inl rfl) fun A W _ h => h.1 _ rfl
          · exact vk_mov rfl (.inl rfl) fun A W _ h => h.1 _ rfl
          · refine vk_none rfl fun A W hR h N hN => ?_
            refine vk_of N ?_
            obtain ⟨h20, h21, _⟩ := h
            replace h20 : A.tmps[20]?.getD undef = _ := h20
            replace h21 : A.tmps[21]?.getD undef = _ := h21
            go_simp
            (try go_bits)
            exact hN _ _ (Below.refl _ _) rfl
          · refine vk_none rfl fun A W hR h N hN => ?_
            refine vk_of N ?_
            obtain ⟨h22, _⟩ := h
            replace h22 : A.tmps[22]?.getD undef = _ := h22
            have c1 := Keeps.of_below hR _ _ c1
            have c2 := Keeps.of_below hR _ _ c2
            go_simp
            (try go_bits)
            exact hN _ _ (Below.refl _ _) rfl
          · refine vk_none rfl fun A W hR h N hN => ?_
            refine vk_of N ?_
            obtain ⟨h19, h23, _⟩ := h
            replace h19 : A.tmps[19]?.getD undef = _ := h19
            replace h23 : A.tmps[23]?.getD undef = _ := h23
            go_simp
            (try go_bits)
            exact hN _ _ (Below.refl _ _) rfl
        case v3_fin =>
          intro fa fW fk hR he
          have e8 := he.2.2.2.2.2.2.2.2.1
          clear he
          replace e8 : fa.tmps[24]?.getD undef = _ := e8
          replace fk := fk.more 24 _ e8
          clear e8
          have hb := below_then hb hR hb.size
          refine kq_of _ _ ?_ fk
          clear fk fa
          simp only [nrm, lk, Nat.reduceBEq, cond_true, cond_false, List.take_succ_cons, List.take_zero, List.drop_succ_cons, List.drop_zero]
          repeat (first | refine kw_seq ?_ | refine kw_block ?_ | refine kw_skip ?_ | refine kw_region ?_ | refine kl_nil ?_ | refine kq_then ?_ | refine kq_block ?_ | refine kw_exit ?_ | refine kq_then_exit ?_ | refine kq_block_here rfl ?_ | refine kq_block_far rfl ?_ | refine kq_again_exit ?_ | refine kw_ret ?_ | refine kq_then_ret ?_ | refine kq_block_ret ?_ | refine kq_again_ret ?_ | refine kw_ift rfl ?_ | refine kw_iff rfl ?_ | refine kl_ung rfl rfl ?_ | refine kl_skipg rfl rfl rfl rfl ?_ | refine kl_skipg0 rfl rfl rfl ?_ | (first | refine kl_move rfl rfl (.inl rfl) rfl rfl ?_ | refine kl_move rfl rfl (.inr rfl) rfl rfl ?_ | refine kl_const rfl rfl (.inl rfl) rfl ?_ | refine kl_const rfl rfl (.inr rfl) rfl ?_) | ((first | refine kl_step rfl rfl rfl fun K hK => ?_ | refine kl_step0 rfl rfl rfl fun K hK => ?_); go_simp; (try go_bits); (first | refine hK _ _ ?_ | refine hK _ ?_); clear hK K))
          refine kq_again (n - (k + 1)) [0, 1, 12, 13] (by omega) ?_
          simp only [nrm, lk, Nat.reduceBEq, cond_true, cond_false]
          exact ⟨k + 1, by omega, rfl, hb, by show _ = _; rw [hx.out, hy.out, htk.out], rfl⟩
    · have hd : l ≠ l' := fun h => by
        have h1 := hgx.out
        rw [h, hgy.out] at h1
        injection h1 with h1
        rcases hxy with ⟨h2, h3⟩ | ⟨h2, h3⟩ <;> rw [h2, h3] at h1 <;> cases h1
      have HD := Lib.hid hd
      clear hd
      rcases hxy with ⟨rfl, rfl⟩ | ⟨rfl, rfl⟩
      all_goals
        repeat (first | refine kw_seq ?_ | refine kw_block ?_ | refine kw_skip ?_ | refine kw_region ?_ | refine kl_nil ?_ | refine kq_then ?_ | refine kq_block ?_ | refine kw_exit ?_ | refine kq_then_exit ?_ | refine kq_block_here rfl ?_ | refine kq_block_far rfl ?_ | refine kq_again_exit ?_ | refine kw_ret ?_ | refine kq_then_ret ?_ | refine kq_block_ret ?_ | refine kq_again_ret ?_ | refine kw_ift rfl ?_ | refine kw_iff rfl ?_ | refine kl_ung rfl rfl ?_ | refine kl_skipg rfl rfl rfl rfl ?_ | refine kl_skipg0 rfl rfl rfl ?_ | (first | refine kl_move rfl rfl (.inl rfl) rfl rfl ?_ | refine kl_move rfl rfl (.inr rfl) rfl rfl ?_ | refine kl_const rfl rfl (.inl rfl) rfl ?_ | refine kl_const rfl rfl (.inr rfl) rfl ?_) | ((first | refine kl_step rfl rfl rfl fun K hK => ?_ | refine kl_step0 rfl rfl rfl fun K hK => ?_); go_simp; (try go_bits); (first | refine hK _ _ ?_ | refine hK _ ?_); clear hK K))
        refine KW.less [0, 1, 5, 12, 13] ?_
        simp only [nrm, lk, Nat.reduceBEq, cond_true, cond_false]
        refine kw_region_x [none, none, none, none, none, none, none, none, none]
          [[(0, none)], [(5, none)], [(16, some 0), (17, some 1)], [(18, some 2)], [(1, none)], [(5, none)], [(20, some 4), (21, some 5)], [(22, some 6)], [(19, some 3), (23, some 7)]]
          [0, 1, 5, 12, 13] (by kernel_rfl) (by kernel_rfl) (by kernel_rfl) (by kernel_rfl)
          trivial ?_
        repeat (first | apply exs_none | apply exs_some)
        refine exs_nil (And.intro ?v4_vc ?v4_fin)
        case v4_vc =>
          refine ⟨?_, ?_, ?_, ?_, ?_, ?_, ?_, ?_, ?_, trivial⟩
          · exact vk_mov rfl (.inl rfl) fun A W _ h => h.1 _ rfl
          · exact vk_mov rfl (.inl rfl) fun A W _ h => h.1 _ rfl
          · refine vk_none rfl fun A W hR h N hN => ?_
            refine vk_of N ?_
            obtain ⟨h16, h17, _⟩ := h
            replace h16 : A.tmps[16]?.getD undef = _ := h16
            replace h17 : A.tmps[17]?.getD undef = _ := h17
            go_simp
            (try go_bits)
            exact hN _ _ (Below.refl _ _) rfl
          · refine vk_none rfl fun A W hR h N hN => ?_
            refine vk_of N ?_
            obtain ⟨h18, _⟩ := h
            replace h18 : A.tmps[18]?.getD undef = _ := h18
            have c1 := Keeps.of_below hR _ _ c1
            have c2 := Keeps.of_below hR _ _ c2
            go_simp
            (try go_bits)
            exact hN _ _ (Below.refl _ _) rfl
          · exact vk_mov rfl (.inl rfl) fun A W _ h => h.1 _ rfl
          · exact vk_mov rfl (.inl rfl) fun A W _ h => h.1 _ rfl
          · refine vk_none rfl fun A W hR h N hN => ?_
            refine vk_of N ?_
            obtain ⟨h20, h21, _⟩ := h
            replace h20 : A.tmps[20]?.getD undef = _ := h20
            replace h21 : A.tmps[21]?.getD undef = _ := h21
            go_simp
            (try go_bits)
            exact hN _ _ (Below.refl _ _) rfl
          · refine vk_none rfl fun A W hR h N hN => ?_
            refine vk_of N ?_
            obtain ⟨h22, _⟩ := h
            replace h22 : A.tmps[22]?.getD undef = _ := h22
            have c1 := Keeps.of_below hR _ _ c1
            have c2 := Keeps.of_below hR _ _ c2
            go_simp
            (try go_bits)
            exact hN _ _ (Below.refl _ _) rfl
          · refine vk_none rfl fun A W hR h N hN => ?_
            refine vk_of N ?_
            obtain ⟨h19, h23, _⟩ := h
            replace h19 : A.tmps[19]?.getD undef = _ := h19
            replace h23 : A.tmps[23]?.getD undef = _ := h23
            go_simp
            (try go_bits)
            exact hN _ _ (Below.refl _ _) rfl
        case v4_fin =>
          intro fa fW fk hR he
          have e8 := he.2.2.2.2.2.2.2.2.1
          clear he
          replace e8 : fa.tmps[24]?.getD undef = _ := e8
          replace fk := fk.more 24 _ e8
          clear e8
          have hb := below_then hb hR hb.size
          refine kq_of _ _ ?_ fk
          clear fk fa
          simp only [nrm, lk, Nat.reduceBEq, cond_true, cond_false, List.take_succ_cons, List.take_zero, List.drop_succ_cons, List.drop_zero]
          repeat (first | refine kw_seq ?_ | refine kw_block ?_ | refine kw_skip ?_ | refine kw_region ?_ | refine kl_nil ?_ | refine kq_then ?_ | refine kq_block ?_ | refine kw_exit ?_ | refine kq_then_exit ?_ | refine kq_block_here rfl ?_ | refine kq_block_far rfl ?_ | refine kq_again_exit ?_ | refine kw_ret ?_ | refine kq_then_ret ?_ | refine kq_block_ret ?_ | refine kq_again_ret ?_ | refine kw_ift rfl ?_ | refine kw_iff rfl ?_ | refine kl_ung rfl rfl ?_ | refine kl_skipg rfl rfl rfl rfl ?_ | refine kl_skipg0 rfl rfl rfl ?_ | (first | refine kl_move rfl rfl (.inl rfl) rfl rfl ?_ | refine kl_move rfl rfl (.inr rfl) rfl rfl ?_ | refine kl_const rfl rfl (.inl rfl) rfl ?_ | refine kl_const rfl rfl (.inr rfl) rfl ?_) | ((first | refine kl_step rfl rfl rfl fun K hK => ?_ | refine kl_step0 rfl rfl rfl fun K hK => ?_); go_simp; (try go_bits); (first | refine hK _ _ ?_ | refine hK _ ?_); clear hK K))
          exact kq_ret1 rfl rfl ⟨by rw [decide_eq_false HD.out], hb⟩
  · obtain rfl : k = n := by omega
    have hll : l = l' := by
      have h := htk.out
      rw [List.take_of_length_le (by rw [HL.out]; exact Nat.le_refl _), List.take_of_length_le (by rw [HL'.out]; exact Nat.le_refl _)] at h
      exact h
    have HD := Lib.hid hll
    clear hll
    repeat (first | refine kw_seq ?_ | refine kw_block ?_ | refine kw_skip ?_ | refine kw_region ?_ | refine kl_nil ?_ | refine kq_then ?_ | refine kq_block ?_ | refine kw_exit ?_ | refine kq_then_exit ?_ | refine kq_block_here rfl ?_ | refine kq_block_far rfl ?_ | refine kq_again_exit ?_ | refine kw_ret ?_ | refine kq_then_ret ?_ | refine kq_block_ret ?_ | refine kq_again_ret ?_ | refine kw_ift rfl ?_ | refine kw_iff rfl ?_ | refine kl_ung rfl rfl ?_ | refine kl_skipg rfl rfl rfl rfl ?_ | refine kl_skipg0 rfl rfl rfl ?_ | (first | refine kl_move rfl rfl (.inl rfl) rfl rfl ?_ | refine kl_move rfl rfl (.inr rfl) rfl rfl ?_ | refine kl_const rfl rfl (.inl rfl) rfl ?_ | refine kl_const rfl rfl (.inr rfl) rfl ?_) | ((first | refine kl_step rfl rfl rfl fun K hK => ?_ | refine kl_step0 rfl rfl rfl fun K hK => ?_); go_simp; (try go_bits); (first | refine hK _ _ ?_ | refine hK _ ?_); clear hK K))
    exact kq_ret1 rfl rfl ⟨by rw [decide_eq_true HD.out], hb⟩
end Go.Proofs.Ytkgenkkcgegcbaa
