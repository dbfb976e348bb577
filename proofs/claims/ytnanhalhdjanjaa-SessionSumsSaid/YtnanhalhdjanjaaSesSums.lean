/- SessionSums: the walk. -/
import Derived.Test.YtnanhalhdjanjaaSesSumsT
namespace Go.Proofs.Ytnanhalhdjanjaa
open Go.RowKit
attribute [local go_sem] ev_tmp ev_const ev_func ev_global lk_hit lk_miss uponK_value uponK_skip look_tmp look_const look_global look_func
theorem set_ne {l : List UInt8} {i : Nat} {x y : UInt8} (hx : l[i]? = some x) (hne : y ≠ x) : l.set i y ≠ l := by
  intro h
  have hi : i < l.length := (List.getElem?_eq_some_iff.1 hx).1
  have : (l.set i y)[i]? = some y := by simp [hi]
  rw [h, hx] at this
  injection this with this
  exact hne this.symm
set_option maxRecDepth 100000 in
set_option maxHeartbeats 4000000 in
theorem sessionSums_top (A : Option Addr) (n c : Nat) (b : List UInt8) (z y : Int) (v : Bool) (w : World) (hA : Bs w A n b) (hnc : n ≤ c) (hc : c ≤ 140737488351232) (hz : -9223372036854775808 ≤ z ∧ z ≤ 9223372036854775807) (hy : -9223372036854775808 ≤ y ∧ y ≤ 9223372036854775807) :
    Calls Try.prog 4 #[.slice A n c, .int .i64 z, .int .i64 y, .bool v] w (SumsP w) := by
  have HN := Lib.hid hA.len
  clear hz hy
  refine calls_kw Try.func4 rfl Try.ntmps4 rfl [(0, .slice A n c), (1, .int .i64 z), (2, .int .i64 y), (3, .bool v)] rfl ?_
  repeat (first | refine kw_seq ?_ | refine kw_block ?_ | refine kw_skip ?_ | refine kw_region ?_ | refine kl_nil ?_ | refine kq_then ?_ | refine kq_block ?_ | refine kw_exit ?_ | refine kq_then_exit ?_ | refine kq_block_here rfl ?_ | refine kq_block_far rfl ?_ | refine kq_again_exit ?_ | refine kw_ret ?_ | refine kq_then_ret ?_ | refine kq_block_ret ?_ | refine kq_again_ret ?_ | refine kw_ift rfl ?_ | refine kw_iff rfl ?_ | refine kl_ung rfl rfl ?_ | refine kl_skipg rfl rfl rfl rfl ?_ | refine kl_skipg0 rfl rfl rfl ?_ | (first | refine kl_move rfl rfl (.inl rfl) rfl rfl ?_ | refine kl_move rfl rfl (.inr rfl) rfl rfl ?_ | refine kl_const rfl rfl (.inl rfl) rfl ?_ | refine kl_const rfl rfl (.inr rfl) rfl ?_) | ((first | refine kl_step rfl rfl rfl fun K hK => ?_ | refine kl_step0 rfl rfl rfl fun K hK => ?_); go_simp; (try go_bits); (first | refine hK _ _ ?_ | refine hK _ ?_); clear hK K))
  refine kl_call rfl rfl rfl Try.func6 rfl (by kernel_rfl) rfl ?_
  refine Calls.mono (known17_any _) ?_
  rintro e w1 ⟨rfl, hb1⟩
  refine ⟨_, rfl, ?_⟩
  by_cases hn : n = 0 ∨ 60 < n
  · have hcase : ((n : Int) == 0) = true ∨ (((n : Int) == 0) = false ∧ decide ((60 : Int) < n) = true) := by
      rw [beq_iff_eq, beq_eq_false_iff_ne]
      simp only [decide_eq_true_eq]
      omega
    clear hn
    rcases hcase with t1 | ⟨t1, t2⟩
    all_goals
      repeat (first | refine kw_seq ?_ | refine kw_block ?_ | refine kw_skip ?_ | refine kw_region ?_ | refine kl_nil ?_ | refine kq_then ?_ | refine kq_block ?_ | refine kw_exit ?_ | refine kq_then_exit ?_ | refine kq_block_here rfl ?_ | refine kq_block_far rfl ?_ | refine kq_again_exit ?_ | refine kw_ret ?_ | refine kq_then_ret ?_ | refine kq_block_ret ?_ | refine kq_again_ret ?_ | refine kw_ift rfl ?_ | refine kw_iff rfl ?_ | refine kl_ung rfl rfl ?_ | refine kl_skipg rfl rfl rfl rfl ?_ | refine kl_skipg0 rfl rfl rfl ?_ | (first | refine kl_move rfl rfl (.inl rfl) rfl rfl ?_ | refine kl_move rfl rfl (.inr rfl) rfl rfl ?_ | refine kl_const rfl rfl (.inl rfl) rfl ?_ | refine kl_const rfl rfl (.inr rfl) rfl ?_) | ((first | refine kl_step rfl rfl rfl fun K hK => ?_ | refine kl_step0 rfl rfl rfl fun K hK => ?_); go_simp; (try go_bits); (first | refine hK _ _ ?_ | refine hK _ ?_); clear hK K))
      exact kq_ret1 rfl rfl ⟨rfl, hb1⟩
  have h0 : 0 < n := by omega
  have hn60 : n ≤ 60 := by omega
  have t1 : ((n : Int) == 0) = false := by rw [beq_eq_false_iff_ne]; omega
  have t2 : decide ((60 : Int) < n) = false := by rw [decide_eq_false_iff_not]; omega
  have hL := (Lay.start w).next hb1
  have hA1 := hA.keep (.of_below hb1)
  clear hn hb1
  repeat (first | refine kw_seq ?_ | refine kw_block ?_ | refine kw_skip ?_ | refine kw_region ?_ | refine kl_nil ?_ | refine kq_then ?_ | refine kq_block ?_ | refine kw_exit ?_ | refine kq_then_exit ?_ | refine kq_block_here rfl ?_ | refine kq_block_far rfl ?_ | refine kq_again_exit ?_ | refine kw_ret ?_ | refine kq_then_ret ?_ | refine kq_block_ret ?_ | refine kq_again_ret ?_ | refine kw_ift rfl ?_ | refine kw_iff rfl ?_ | refine kl_ung rfl rfl ?_ | refine kl_skipg rfl rfl rfl rfl ?_ | refine kl_skipg0 rfl rfl rfl ?_ | (first | refine kl_move rfl rfl (.inl rfl) rfl rfl ?_ | refine kl_move rfl rfl (.inr rfl) rfl rfl ?_ | refine kl_const rfl rfl (.inl rfl) rfl ?_ | refine kl_const rfl rfl (.inr rfl) rfl ?_) | ((first | refine kl_step rfl rfl rfl fun K hK => ?_ | refine kl_step0 rfl rfl rfl fun K hK => ?_); go_simp; (try go_bits); (first | refine hK _ _ ?_ | refine hK _ ?_); clear hK K))
  refine kl_call rfl rfl rfl Try.func9 rfl (by kernel_rfl) rfl ?_
  refine Calls.mono (refSha_any A n c b w1 hA1 (by omega)) ?_
  rintro e w2 ⟨rfl, hb2⟩
  obtain ⟨S0, hS0⟩ : ∃ S, sha b = S := ⟨_, rfl⟩
  have hSl : S0.length = 32 := by rw [← hS0]; exact length_sha b
  rw [hS0]
  have HS0 := Lib.hid hS0
  have HSl := Lib.hid hSl
  refine ⟨_, rfl, ?_⟩
  have hL := hL.next hb2
  have hA2 := hA1.keep (.of_below hb2)
  clear hS0 hSl hb2 hA1
  refine kl_varL (d := 9) (y := 29) (cells := (bv S0).toArray) hL hashZero (infoH S0 HSl.out) (sizeH z32 S0 z32_len HSl.out) (bv_one' _) rfl rfl rfl rfl rfl rfl rfl rfl rfl ?_
  intro g9 w3 eg9 hb3 hL
  have hA3 := hA2.keep (.of_below hb3)
  clear hA2 hb3 eg9
  repeat (first | refine kw_seq ?_ | refine kw_block ?_ | refine kw_skip ?_ | refine kw_region ?_ | refine kl_nil ?_ | refine kq_then ?_ | refine kq_block ?_ | refine kw_exit ?_ | refine kq_then_exit ?_ | refine kq_block_here rfl ?_ | refine kq_block_far rfl ?_ | refine kq_again_exit ?_ | refine kw_ret ?_ | refine kq_then_ret ?_ | refine kq_block_ret ?_ | refine kq_again_ret ?_ | refine kw_ift rfl ?_ | refine kw_iff rfl ?_ | refine kl_ung rfl rfl ?_ | refine kl_skipg rfl rfl rfl rfl ?_ | refine kl_skipg0 rfl rfl rfl ?_ | (first | refine kl_move rfl rfl (.inl rfl) rfl rfl ?_ | refine kl_move rfl rfl (.inr rfl) rfl rfl ?_ | refine kl_const rfl rfl (.inl rfl) rfl ?_ | refine kl_const rfl rfl (.inr rfl) rfl ?_) | ((first | refine kl_step rfl rfl rfl fun K hK => ?_ | refine kl_step0 rfl rfl rfl fun K hK => ?_); go_simp; (try go_bits); (first | refine hK _ _ ?_ | refine hK _ ?_); clear hK K))
  refine kl_clone _ rfl A n c b hA3 (by omega) rfl rfl rfl rfl rfl rfl ?_
  intro v5 w4 hown hb4
  obtain ⟨gx, cx, rfl, d1, d2, d3, d4⟩ := own_form hown h0
  have l9 : g9 < w3.heap.size := hL.lt 0 rfl
  have ngx : gx ≠ g9 := by omega
  have hL := hL.next hb4
  have HOWN := Lib.hid hown
  have Wz : ∃ i, within z 32 = i := ⟨_, rfl⟩
  have Wzn : ∃ i, within z n = i := ⟨_, rfl⟩
  have Wy : ∃ i, within y 8 = i := ⟨_, rfl⟩
  have hi32 := within_lt z 32 (by omega)
  have hin := within_lt z n h0
  have hs8 := within_lt y 8 (by omega)
  obtain ⟨s, Wy⟩ := Wy
  rw [Wy] at hs8
  have s0 : (0 : Int) ≤ s := by omega
  have s1 : (s : Int) < 8 := by omega
  have hbit := oneBit_code s hs8
  have hbne := oneBit_ne s hs8
  have HBIT := Lib.hid hbit
  have HBNE := Lib.hid hbne
  clear hA3 hb4 hown hbit hbne t1 t2
  cases v
  · obtain ⟨i, Wz⟩ := Wzn
    rw [Wz] at hin
    have i0 : (0 : Int) ≤ i := by omega
    have i1 : (i : Int) < n := by omega
    obtain ⟨x0, hx0⟩ : ∃ x, b[i]? = some x := ⟨_, List.getElem?_eq_getElem (by rw [HN.out]; exact hin)⟩
    have cx0 := own_cell HOWN.out hx0
    have HX0 := Lib.hid hx0
    obtain ⟨x1, hx1⟩ : ∃ x1, x0 ^^^ oneBit s = x1 := ⟨_, rfl⟩
    have hex := u8_xor_u x0 (oneBit s)
    rw [hx1] at hex
    have EX := Lib.hid hex
    have HX1 := Lib.hid hx1
    clear hex hx1
    have d3' : (n : Int) ≤ cx := by omega
    clear hx0 hi32
    repeat (first | refine kw_seq ?_ | refine kw_block ?_ | refine kw_skip ?_ | refine kw_region ?_ | refine kl_nil ?_ | refine kq_then ?_ | refine kq_block ?_ | refine kw_exit ?_ | refine kq_then_exit ?_ | refine kq_block_here rfl ?_ | refine kq_block_far rfl ?_ | refine kq_again_exit ?_ | refine kw_ret ?_ | refine kq_then_ret ?_ | refine kq_block_ret ?_ | refine kq_again_ret ?_ | refine kw_ift rfl ?_ | refine kw_iff rfl ?_ | refine kl_ung rfl rfl ?_ | refine kl_skipg rfl rfl rfl rfl ?_ | refine kl_skipg0 rfl rfl rfl ?_ | (first | refine kl_move rfl rfl (.inl rfl) rfl rfl ?_ | refine kl_move rfl rfl (.inr rfl) rfl rfl ?_ | refine kl_const rfl rfl (.inl rfl) rfl ?_ | refine kl_const rfl rfl (.inr rfl) rfl ?_) | ((first | refine kl_step rfl rfl rfl fun K hK => ?_ | refine kl_step0 rfl rfl rfl fun K hK => ?_); go_simp; (try go_bits); (first | refine hK _ _ ?_ | refine hK _ ?_); clear hK K))
    refine KW.less [9, 10, 1, 2] ?_
    simp only [nrm, lk, Nat.reduceBEq, cond_true, cond_false]
    refine kw_region_xt 13 [none, none, none, none, none, none, none, none, none, none, none, none, none]
      [[(10, none)], [(1, none)], [(10, none)], [(46, some 2)], [(45, some 1), (47, some 3)], [(44, some 0), (48, some 4)], [(49, some 5)], [(2, none)], [(51, some 7)], [(52, some 8)], [(53, some 9)], [(50, some 6), (54, some 10)], [(44, some 0), (48, some 4)]]
      [9, 10] (by kernel_rfl) (by kernel_rfl) (by kernel_rfl) (by kernel_rfl) (by kernel_rfl)
      trivial ?_
    repeat (first | apply exs_none | apply exs_some)
    refine exs_nil (And.intro ?v1_vc ?v1_fin)
    case v1_vc =>
      refine ⟨?_, ?_, ?_, ?_, ?_, ?_, ?_, ?_, ?_, ?_, ?_, ?_, ?_, trivial⟩
      · exact vk_mov rfl (.inl rfl) fun A W _ h => h.1 _ rfl
      · exact vk_mov rfl (.inl rfl) fun A W _ h => h.1 _ rfl
      · exact vk_mov rfl (.inl rfl) fun A W _ h => h.1 _ rfl
      · refine vk_none rfl fun A W hR h N hN => ?_
        refine vk_of N ?_
        obtain ⟨h46, _⟩ := h
        replace h46 : A.tmps[46]?.getD undef = _ := h46
        go_simp
        (try go_bits)
        exact hN _ _ (Below.refl _ _) rfl
      · refine vk_call rfl rfl Try.func7 rfl (by kernel_rfl) fun A W hR h => ?_
        obtain ⟨h45, h47, _⟩ := h
        replace h45 : A.tmps[45]?.getD undef = _ := h45
        replace h47 : A.tmps[47]?.getD undef = _ := h47
        show Calls _ _ #[A.tmps[45]?.getD undef, A.tmps[47]?.getD undef] _ _
        rw [h45, h47]
        refine Calls.mono (within_any z n _ _ rfl h0 (by omega)) ?_
        rw [Wz]
        rintro e W' ⟨rfl, rfl⟩
        exact ⟨_, rfl, Below.refl _ _, rfl⟩
      · refine vk_none rfl fun A W hR h N hN => ?_
        refine vk_of N ?_
        obtain ⟨h44, h48, _⟩ := h
        replace h44 : A.tmps[44]?.getD undef = _ := h44
        replace h48 : A.tmps[48]?.getD undef = _ := h48
        go_simp
        (try go_bits)
        exact hN _ _ (Below.refl _ _) rfl
      · refine vk_none rfl fun A W hR h N hN => ?_
        refine vk_of N ?_
        obtain ⟨h49, _⟩ := h
        replace h49 : A.tmps[49]?.getD undef = _ := h49
        have cx0 := Keeps.of_below hR _ _ cx0
        go_simp
        (try go_bits)
        exact hN _ _ (Below.refl _ _) rfl
      · exact vk_mov rfl (.inl rfl) fun A W _ h => h.1 _ rfl
      · refine vk_call rfl rfl Try.func7 rfl (by kernel_rfl) fun A W hR h => ?_
        obtain ⟨h51, _⟩ := h
        replace h51 : A.tmps[51]?.getD undef = _ := h51
        show Calls _ _ #[A.tmps[51]?.getD undef, _] _ _
        rw [h51]
        refine Calls.mono (within_any y 8 _ _ rfl (by omega) (by omega)) ?_
        rw [Wy]
        rintro e W' ⟨rfl, rfl⟩
        exact ⟨_, rfl, Below.refl _ _, rfl⟩
      · refine vk_none rfl fun A W hR h N hN => ?_
        refine vk_of N ?_
        obtain ⟨h52, _⟩ := h
        replace h52 : A.tmps[52]?.getD undef = _ := h52
        go_simp
        (try go_bits)
        exact hN _ _ (Below.refl _ _) rfl
      · refine vk_none rfl fun A W hR h N hN => ?_
        refine vk_of N ?_
        obtain ⟨h53, _⟩ := h
        replace h53 : A.tmps[53]?.getD undef = _ := h53
        go_simp
        (try go_bits)
        exact hN _ _ (Below.refl _ _) rfl
      · refine vk_none rfl fun A W hR h N hN => ?_
        refine vk_of N ?_
        obtain ⟨h50, h54, _⟩ := h
        replace h50 : A.tmps[50]?.getD undef = _ := h50
        replace h54 : A.tmps[54]?.getD undef = _ := h54
        go_simp
        (try go_bits)
        exact hN _ _ (Below.refl _ _) rfl
      · refine vk_none rfl fun A W hR h N hN => ?_
        refine vk_of N ?_
        obtain ⟨h44, h48, _⟩ := h
        replace h44 : A.tmps[44]?.getD undef = _ := h44
        replace h48 : A.tmps[48]?.getD undef = _ := h48
        go_simp
        (try go_bits)
        exact hN _ _ (Below.refl _ _) rfl
    case v1_fin =>
      intro fa fW fk hR he
      have e11 := he.2.2.2.2.2.2.2.2.2.2.2.1
      have e12 := he.2.2.2.2.2.2.2.2.2.2.2.2.1
      clear he
      replace e11 : fa.tmps[55]?.getD undef = _ := e11
      replace fk := fk.more 55 _ e11
      clear e11
      replace e12 : fa.tmps[56]?.getD undef = _ := e12
      replace fk := fk.more 56 _ e12
      clear e12
      have cx0 := Keeps.of_below hR _ _ cx0
      have hown := own_below HOWN.out hR
      have fx := own_free (j := i) hown
      have HOWN := Lib.hid hown
      have hL := hL.next hR
      clear hown hR
      refine kl_of _ _ ?_ fk
      clear fk fa
      simp only [nrm, lk, Nat.reduceBEq, cond_true, cond_false, List.take_succ_cons, List.take_zero, List.drop_succ_cons, List.drop_zero]
      have hb2 : ((2 : Int) ^ s % 256) = ((oneBit s).toNat : Int) := by
        have h := HBIT.out
        rwa [Int.toNat_natCast, Nat.min_eq_left (by omega)] at h
      rw [hb2, EX.out]
      clear hb2
      ((first | refine kl_step rfl rfl rfl fun K hK => ?_ | refine kl_step0 rfl rfl rfl fun K hK => ?_); go_simp; (try go_bits); (first | refine hK _ _ ?_ | refine hK _ ?_); clear hK K)
      clear cx0 fx
      have hB' := own_set HOWN.out i x1
      have hL' := hL.far (b := gx) (by have := hL.below.size; have := hL.ge 0 rfl; omega) (fun p hp => by rcases List.mem_singleton.1 hp with rfl; exact fun e => ngx e.symm) i (.int .u8 (x1.toNat : Int))
      obtain ⟨X, hX⟩ : ∃ X, b.set i x1 = X := ⟨_, rfl⟩
      rw [hX] at hB'
      have hXl : X.length = n := by rw [← hX, List.length_set]; exact HN.out
      clear hX
      obtain ⟨w5, hw5⟩ : ∃ w5, fW.setCell ⟨gx, i, none⟩ (.int .u8 (x1.toNat : Int)) = w5 := ⟨_, rfl⟩
      rw [hw5] at hB' hL' ⊢
      clear hw5
      obtain ⟨Y, hY⟩ : ∃ Y, sha X = Y := ⟨_, rfl⟩
      have HY := Lib.hid hY
      have hYl : Y.length = 32 := by rw [← hY]; exact length_sha X
      have HBS : Hid (Bs w5 (some ⟨gx, 0, none⟩) n X) := Lib.hid (Vs.of_own hB')
      have HR : Hid (w5.rangeAt g9 0 (bv S0)) := Lib.hid (fun j v hv => by rw [Nat.zero_add]; exact hL'.get 0 rfl hv)
      have HXL := Lib.hid hXl
      have HYL := Lib.hid hYl
      clear hB' hY hXl hYl hL
      by_cases heq : Y = S0
      · have he : ∀ W, (Op.equalIn 10000 27 (.agg (bv Y).toArray) (.agg (bv S0).toArray)).run Try.prog W = .ok true W := fun W => by rw [eqH W _ _ HYL.out HSl.out, heq, beq_self_eq_true]
        clear heq
        repeat (first | refine kw_seq ?_ | refine kw_block ?_ | refine kw_skip ?_ | refine kw_region ?_ | refine kl_nil ?_ | refine kq_then ?_ | refine kq_block ?_ | refine kw_exit ?_ | refine kq_then_exit ?_ | refine kq_block_here rfl ?_ | refine kq_block_far rfl ?_ | refine kq_again_exit ?_ | refine kw_ret ?_ | refine kq_then_ret ?_ | refine kq_block_ret ?_ | refine kq_again_ret ?_ | refine kw_ift rfl ?_ | refine kw_iff rfl ?_ | refine kl_ung rfl rfl ?_ | refine kl_skipg rfl rfl rfl rfl ?_ | refine kl_skipg0 rfl rfl rfl ?_ | (first | refine kl_move rfl rfl (.inl rfl) rfl rfl ?_ | refine kl_move rfl rfl (.inr rfl) rfl rfl ?_ | refine kl_const rfl rfl (.inl rfl) rfl ?_ | refine kl_const rfl rfl (.inr rfl) rfl ?_) | ((first | refine kl_step rfl rfl rfl fun K hK => ?_ | refine kl_step0 rfl rfl rfl fun K hK => ?_); go_simp; (try go_bits); (first | refine hK _ _ ?_ | refine hK _ ?_); clear hK K))
        refine kw_region_x [none, none, none, none]
          [[(10, none)], [(57, some 0)], [(9, none)], [(58, some 1), (59, some 2)]]
          [9, 10] (by kernel_rfl) (by kernel_rfl) (by kernel_rfl) (by kernel_rfl)
          trivial ?_
        repeat (first | apply exs_none | apply exs_some)
        refine exs_nil (And.intro ?v2_vc ?v2_fin)
        case v2_vc =>
          refine ⟨?_, ?_, ?_, ?_, trivial⟩
          · exact vk_mov rfl (.inl rfl) fun A W _ h => h.1 _ rfl
          · refine vk_call rfl rfl Try.func9 rfl (by kernel_rfl) fun A W hR h => ?_
            obtain ⟨h57, _⟩ := h
            replace h57 : A.tmps[57]?.getD undef = _ := h57
            show Calls _ _ #[A.tmps[57]?.getD undef] _ _
            rw [h57]
            refine Calls.mono (refSha_any _ n cx X W (HBS.out.keep (.of_below hR)) (by omega)) ?_
            rw [HY.out]
            rintro e W' ⟨rfl, hb⟩
            exact ⟨_, rfl, hb, rfl⟩
          · refine vk_none rfl fun A W hR h N hN => ?_
            refine vk_of N ?_
            obtain ⟨h9, _⟩ := h
            replace h9 := h9 _ rfl
            rw [run_loadMid (b := g9) (off := 0) 27 (.tmp 9) rfl h9 (bv S0) _ (rangeAt_below HR.out hR) hashUnder rfl (by rw [hashInfo, length_bv, HSl.out])]
            exact hN _ _ (Below.refl _ _) rfl
          · refine vk_none rfl fun A W hR h N hN => ?_
            refine vk_of N ?_
            obtain ⟨h58, h59, _⟩ := h
            replace h58 : A.tmps[58]?.getD undef = _ := h58
            replace h59 : A.tmps[59]?.getD undef = _ := h59
            go_simp
            (try go_bits)
            exact hN _ _ (Below.refl _ _) rfl
        case v2_fin =>
          intro fa fW fk hR he
          have e3 := he.2.2.2.1
          clear he
          replace e3 : fa.tmps[60]?.getD undef = _ := e3
          replace fk := fk.more 60 _ e3
          clear e3
          have hL := hL'.next hR
          have HBS := Lib.hid (HBS.out.keep (.of_below hR))
          clear hR he
          refine kq_of _ _ ?_ fk
          clear fk fa
          simp only [nrm, lk, Nat.reduceBEq, cond_true, cond_false, List.take_succ_cons, List.take_zero, List.drop_succ_cons, List.drop_zero]
          repeat (first | refine kw_seq ?_ | refine kw_block ?_ | refine kw_skip ?_ | refine kw_region ?_ | refine kl_nil ?_ | refine kq_then ?_ | refine kq_block ?_ | refine kw_exit ?_ | refine kq_then_exit ?_ | refine kq_block_here rfl ?_ | refine kq_block_far rfl ?_ | refine kq_again_exit ?_ | refine kw_ret ?_ | refine kq_then_ret ?_ | refine kq_block_ret ?_ | refine kq_again_ret ?_ | refine kw_ift rfl ?_ | refine kw_iff rfl ?_ | refine kl_ung rfl rfl ?_ | refine kl_skipg rfl rfl rfl rfl ?_ | refine kl_skipg0 rfl rfl rfl ?_ | (first | refine kl_move rfl rfl (.inl rfl) rfl rfl ?_ | refine kl_move rfl rfl (.inr rfl) rfl rfl ?_ | refine kl_const rfl rfl (.inl rfl) rfl ?_ | refine kl_const rfl rfl (.inr rfl) rfl ?_) | ((first | refine kl_step rfl rfl rfl fun K hK => ?_ | refine kl_step0 rfl rfl rfl fun K hK => ?_); go_simp; (try go_bits); (first | refine hK _ _ ?_ | refine hK _ ?_); clear hK K))
          exact kq_ret1 rfl rfl ⟨rfl, hL.below⟩
      · have he : ∀ W, (Op.equalIn 10000 27 (.agg (bv Y).toArray) (.agg (bv S0).toArray)).run Try.prog W = .ok false W := fun W => by rw [eqH W _ _ HYL.out HSl.out, beq_eq_false_iff_ne.2 heq]
        have HNE := Lib.hid heq
        clear heq
        repeat (first | refine kw_seq ?_ | refine kw_block ?_ | refine kw_skip ?_ | refine kw_region ?_ | refine kl_nil ?_ | refine kq_then ?_ | refine kq_block ?_ | refine kw_exit ?_ | refine kq_then_exit ?_ | refine kq_block_here rfl ?_ | refine kq_block_far rfl ?_ | refine kq_again_exit ?_ | refine kw_ret ?_ | refine kq_then_ret ?_ | refine kq_block_ret ?_ | refine kq_again_ret ?_ | refine kw_ift rfl ?_ | refine kw_iff rfl ?_ | refine kl_ung rfl rfl ?_ | refine kl_skipg rfl rfl rfl rfl ?_ | refine kl_skipg0 rfl rfl rfl ?_ | (first | refine kl_move rfl rfl (.inl rfl) rfl rfl ?_ | refine kl_move rfl rfl (.inr rfl) rfl rfl ?_ | refine kl_const rfl rfl (.inl rfl) rfl ?_ | refine kl_const rfl rfl (.inr rfl) rfl ?_) | ((first | refine kl_step rfl rfl rfl fun K hK => ?_ | refine kl_step0 rfl rfl rfl fun K hK => ?_); go_simp; (try go_bits); (first | refine hK _ _ ?_ | refine hK _ ?_); clear hK K))
        refine kw_region_x [none, none, none, none]
          [[(10, none)], [(57, some 0)], [(9, none)], [(58, some 1), (59, some 2)]]
          [9, 10] (by kernel_rfl) (by kernel_rfl) (by kernel_rfl) (by kernel_rfl)
          trivial ?_
        repeat (first | apply exs_none | apply exs_some)
        refine exs_nil (And.intro ?v3_vc ?v3_fin)
        case v3_vc =>
          refine ⟨?_, ?_, ?_, ?_, trivial⟩
          · exact vk_mov rfl (.inl rfl) fun A W _ h => h.1 _ rfl
          · refine vk_call rfl rfl Try.func9 rfl (by kernel_rfl) fun A W hR h => ?_
            obtain ⟨h57, _⟩ := h
            replace h57 : A.tmps[57]?.getD undef = _ := h57
            show Calls _ _ #[A.tmps[57]?.getD undef] _ _
            rw [h57]
            refine Calls.mono (refSha_any _ n cx X W (HBS.out.keep (.of_below hR)) (by omega)) ?_
            rw [HY.out]
            rintro e W' ⟨rfl, hb⟩
            exact ⟨_, rfl, hb, rfl⟩
          · refine vk_none rfl fun A W hR h N hN => ?_
            refine vk_of N ?_
            obtain ⟨h9, _⟩ := h
            replace h9 := h9 _ rfl
            rw [run_loadMid (b := g9) (off := 0) 27 (.tmp 9) rfl h9 (bv S0) _ (rangeAt_below HR.out hR) hashUnder rfl (by rw [hashInfo, length_bv, HSl.out])]
            exact hN _ _ (Below.refl _ _) rfl
          · refine vk_none rfl fun A W hR h N hN => ?_
            refine vk_of N ?_
            obtain ⟨h58, h59, _⟩ := h
            replace h58 : A.tmps[58]?.getD undef = _ := h58
            replace h59 : A.tmps[59]?.getD undef = _ := h59
            go_simp
            (try go_bits)
            exact hN _ _ (Below.refl _ _) rfl
        case v3_fin =>
          intro fa fW fk hR he
          have e3 := he.2.2.2.1
          clear he
          replace e3 : fa.tmps[60]?.getD undef = _ := e3
          replace fk := fk.more 60 _ e3
          clear e3
          have hL := hL'.next hR
          have HBS := Lib.hid (HBS.out.keep (.of_below hR))
          clear hR he
          refine kq_of _ _ ?_ fk
          clear fk fa
          simp only [nrm, lk, Nat.reduceBEq, cond_true, cond_false, List.take_succ_cons, List.take_zero, List.drop_succ_cons, List.drop_zero]
          refine kq_then ?_
          refine kw_iff rfl ?_
          refine kw_skip ?_
          refine kq_then ?_
          refine KW.less [9, 10] ?_
          simp only [nrm, lk, Nat.reduceBEq, cond_true, cond_false]
          exact sums_tail HSl.out HXL.out h0 hn60 (by rw [HY.out]; exact HNE.out) hL ⟨_, _, _, rfl, HBS.out, d3, by simpa [maxLen] using d4⟩ ngx
  · obtain ⟨i, Wz⟩ := Wz
    rw [Wz] at hi32
    have i0 : (0 : Int) ≤ i := by omega
    have i1 : (i : Int) < 32 := by omega
    obtain ⟨x0, hx0⟩ : ∃ x, S0[i]? = some x := ⟨_, List.getElem?_eq_getElem (by rw [HSl.out]; exact hi32)⟩
    have cx0 : w4.cell? ⟨g9, i, none⟩ = some (.int .u8 (x0.toNat : Int)) := hL.get 0 rfl (by rw [bv, List.getElem?_map, hx0]; rfl)
    have HX0 := Lib.hid hx0
    obtain ⟨x1, hx1⟩ : ∃ x1, x0 ^^^ oneBit s = x1 := ⟨_, rfl⟩
    have hex := u8_xor_u x0 (oneBit s)
    rw [hx1] at hex
    have EX := Lib.hid hex
    have HX1 := Lib.hid hx1
    clear hex hx1
    have HBS : Hid (Bs w4 (some ⟨gx, 0, none⟩) n b) := Lib.hid (Vs.of_own HOWN.out)
    clear hx0 hin
    repeat (first | refine kw_seq ?_ | refine kw_block ?_ | refine kw_skip ?_ | refine kw_region ?_ | refine kl_nil ?_ | refine kq_then ?_ | refine kq_block ?_ | refine kw_exit ?_ | refine kq_then_exit ?_ | refine kq_block_here rfl ?_ | refine kq_block_far rfl ?_ | refine kq_again_exit ?_ | refine kw_ret ?_ | refine kq_then_ret ?_ | refine kq_block_ret ?_ | refine kq_again_ret ?_ | refine kw_ift rfl ?_ | refine kw_iff rfl ?_ | refine kl_ung rfl rfl ?_ | refine kl_skipg rfl rfl rfl rfl ?_ | refine kl_skipg0 rfl rfl rfl ?_ | (first | refine kl_move rfl rfl (.inl rfl) rfl rfl ?_ | refine kl_move rfl rfl (.inr rfl) rfl rfl ?_ | refine kl_const rfl rfl (.inl rfl) rfl ?_ | refine kl_const rfl rfl (.inr rfl) rfl ?_) | ((first | refine kl_step rfl rfl rfl fun K hK => ?_ | refine kl_step0 rfl rfl rfl fun K hK => ?_); go_simp; (try go_bits); (first | refine hK _ _ ?_ | refine hK _ ?_); clear hK K))
    refine KW.less [9, 10, 1, 2] ?_
    simp only [nrm, lk, Nat.reduceBEq, cond_true, cond_false]
    refine kw_region_xt 10 [none, none, none, none, none, none, none, none, none, none]
      [[(1, none)], [(34, some 0)], [(9, none), (35, some 1)], [(36, some 2)], [(2, none)], [(38, some 4)], [(39, some 5)], [(40, some 6)], [(37, some 3), (41, some 7)], [(9, none), (35, some 1)]]
      [9, 10] (by kernel_rfl) (by kernel_rfl) (by kernel_rfl) (by kernel_rfl) (by kernel_rfl)
      trivial ?_
    repeat (first | apply exs_none | apply exs_some)
    refine exs_nil (And.intro ?v4_vc ?v4_fin)
    case v4_vc =>
      refine ⟨?_, ?_, ?_, ?_, ?_, ?_, ?_, ?_, ?_, ?_, trivial⟩
      · exact vk_mov rfl (.inl rfl) fun A W _ h => h.1 _ rfl
      · refine vk_call rfl rfl Try.func7 rfl (by kernel_rfl) fun A W hR h => ?_
        obtain ⟨h34, _⟩ := h
        replace h34 : A.tmps[34]?.getD undef = _ := h34
        show Calls _ _ #[A.tmps[34]?.getD undef, _] _ _
        rw [h34]
        refine Calls.mono (within_any z 32 _ _ rfl (by omega) (by omega)) ?_
        rw [Wz]
        rintro e W' ⟨rfl, rfl⟩
        exact ⟨_, rfl, Below.refl _ _, rfl⟩
      · refine vk_none rfl fun A W hR h N hN => ?_
        refine vk_of N ?_
        obtain ⟨h9, h35, _⟩ := h
        replace h9 := h9 _ rfl
        replace h35 : A.tmps[35]?.getD undef = _ := h35
        go_simp
        (try go_bits)
        exact hN _ _ (Below.refl _ _) rfl
      · refine vk_none rfl fun A W hR h N hN => ?_
        refine vk_of N ?_
        obtain ⟨h36, _⟩ := h
        replace h36 : A.tmps[36]?.getD undef = _ := h36
        have cx0 := Keeps.of_below hR _ _ cx0
        go_simp
        (try go_bits)
        exact hN _ _ (Below.refl _ _) rfl
      · exact vk_mov rfl (.inl rfl) fun A W _ h => h.1 _ rfl
      · refine vk_call rfl rfl Try.func7 rfl (by kernel_rfl) fun A W hR h => ?_
        obtain ⟨h38, _⟩ := h
        replace h38 : A.tmps[38]?.getD undef = _ := h38
        show Calls _ _ #[A.tmps[38]?.getD undef, _] _ _
        rw [h38]
        refine Calls.mono (within_any y 8 _ _ rfl (by omega) (by omega)) ?_
        rw [Wy]
        rintro e W' ⟨rfl, rfl⟩
        exact ⟨_, rfl, Below.refl _ _, rfl⟩
      · refine vk_none rfl fun A W hR h N hN => ?_
        refine vk_of N ?_
        obtain ⟨h39, _⟩ := h
        replace h39 : A.tmps[39]?.getD undef = _ := h39
        go_simp
        (try go_bits)
        exact hN _ _ (Below.refl _ _) rfl
      · refine vk_none rfl fun A W hR h N hN => ?_
        refine vk_of N ?_
        obtain ⟨h40, _⟩ := h
        replace h40 : A.tmps[40]?.getD undef = _ := h40
        go_simp
        (try go_bits)
        exact hN _ _ (Below.refl _ _) rfl
      · refine vk_none rfl fun A W hR h N hN => ?_
        refine vk_of N ?_
        obtain ⟨h37, h41, _⟩ := h
        replace h37 : A.tmps[37]?.getD undef = _ := h37
        replace h41 : A.tmps[41]?.getD undef = _ := h41
        go_simp
        (try go_bits)
        exact hN _ _ (Below.refl _ _) rfl
      · refine vk_none rfl fun A W hR h N hN => ?_
        refine vk_of N ?_
        obtain ⟨h9, h35, _⟩ := h
        replace h9 := h9 _ rfl
        replace h35 : A.tmps[35]?.getD undef = _ := h35
        go_simp
        (try go_bits)
        exact hN _ _ (Below.refl _ _) rfl
    case v4_fin =>
      intro fa fW fk hR he
      have e8 := he.2.2.2.2.2.2.2.2.1
      have e9 := he.2.2.2.2.2.2.2.2.2.1
      clear he
      replace e8 : fa.tmps[42]?.getD undef = _ := e8
      replace fk := fk.more 42 _ e8
      clear e8
      replace e9 : fa.tmps[43]?.getD undef = _ := e9
      replace fk := fk.more 43 _ e9
      clear e9
      have cx0 := Keeps.of_below hR _ _ cx0
      have HBS := Lib.hid (HBS.out.keep (.of_below hR))
      have hL := hL.next hR
      have fx := hL.free 0 rfl i
      clear hR
      refine kl_of _ _ ?_ fk
      clear fk fa
      simp only [nrm, lk, Nat.reduceBEq, cond_true, cond_false, List.take_succ_cons, List.take_zero, List.drop_succ_cons, List.drop_zero]
      have hb2 : ((2 : Int) ^ s % 256) = ((oneBit s).toNat : Int) := by
        have h := HBIT.out
        rwa [Int.toNat_natCast, Nat.min_eq_left (by omega)] at h
      rw [hb2, EX.out]
      clear hb2
      ((first | refine kl_step rfl rfl rfl fun K hK => ?_ | refine kl_step0 rfl rfl rfl fun K hK => ?_); go_simp; (try go_bits); (first | refine hK _ _ ?_ | refine hK _ ?_); clear hK K)
      clear cx0 fx
      have hL' := hL.cell 0 rfl i (.int .u8 (x1.toNat : Int))
      replace hL' : Lay w (fW.setCell ⟨g9, i, none⟩ (.int .u8 (x1.toNat : Int))) [(g9, ((bv S0).set i (.int .u8 (x1.toNat : Int))).toArray, 27)] := hL'
      rw [bv_set'] at hL'
      have hne : S0.set i x1 ≠ S0 := set_ne HX0.out (fun e => xor_other x0 _ HBNE.out (e.symm.trans HX1.out.symm))
      have hlen : (S0.set i x1).length = 32 := by rw [List.length_set]; exact HSl.out
      have HB := Vs.far HBS.out (p := ⟨g9, i, none⟩) (fun b o e => by cases e; exact ngx) (.int .u8 (x1.toNat : Int))
      refine kl_nil ?_
      refine kq_then ?_
      refine KW.less [9, 10] ?_
      simp only [nrm, lk, Nat.reduceBEq, cond_true, cond_false]
      exact sums_tail hlen HN.out h0 hn60 (fun e => hne ((HS0.out.symm.trans e).symm)) hL' ⟨_, _, _, rfl, HB, d3, by simpa [maxLen] using d4⟩ ngx
end Go.Proofs.Ytnanhalhdjanjaa
