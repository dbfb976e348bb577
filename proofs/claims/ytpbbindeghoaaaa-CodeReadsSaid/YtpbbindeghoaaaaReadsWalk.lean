/- CodeReads: the walk. -/
import Derived.Test.YtpbbindeghoaaaaChecked
import Derived.Test.YtpbbindeghoaaaaCodeKnown
import Derived.Test.YtpbbindeghoaaaaRefReader
import Derived.Deep.DeepCutAuto
namespace Go.Proofs.Ytpbbindeghoaaaa
open Go.RowKit

theorem elem_at {w : World} {A : Option Addr} {n j : Nat} {zs : List Int} (hA : Vs w A n (zs.map (Value.int .i64))) (hl : zs.length = n) (hj : j < n) :
    ∃ b o z, A = some ⟨b, o, none⟩ ∧ w.cell? ⟨b, o + j, none⟩ = some (.int .i64 z) ∧ Hid (zs[j]? = some z) := by
  obtain ⟨b, o, e, hc⟩ := hA.at_ hj
  refine ⟨b, o, zs[j]'(by omega), e, ?_, List.getElem?_eq_getElem _⟩
  rw [hc]
  simp

set_option maxRecDepth 100000 in
theorem codeReads_none (A : Option Addr) (n c : Nat) (S : Option Addr) (m d : Nat) (w : World) (hn : 500 < n) (hn2 : n ≤ 9223372036854775807) :
    Calls Try.prog 8 #[.slice A n c, .slice S m d] w fun e w' => e = .returned (.bool true) ∧ Below w.heap.size w w' := by
  have h3 : (500 : Int) < n := by omega
  go_enter Try.func8, Try.ntmps8
  go_wp2_with (go_at_call 10; refine Calls.mono (known_any _) ?_; rintro e w1 ⟨rfl, hb1⟩)
  go_ret
  exact ⟨rfl, hb1⟩

set_option maxRecDepth 100000 in
set_option maxHeartbeats 4000000 in
theorem codeReads_walk (A : Option Addr) (n c : Nat) (L : List UInt8) (S : Option Addr) (m d : Nat) (zs : List Int) (w : World) (hA : Bs w A n L) (hc0 : n ≤ c) (hc2 : c ≤ 9223372036854775807)
    (hS : Vs w S m (zs.map (Value.int .i64))) (hd0 : m ≤ d) (hd2 : d ≤ 9223372036854775807) (hzb : ∀ z ∈ zs, -9223372036854775808 ≤ z ∧ z ≤ 9223372036854775807) (hn : n ≤ 500) :
    Calls Try.prog 8 #[.slice A n c, .slice S m d] w fun e w' => e = .returned (.bool true) ∧ Below w.heap.size w w' := by
  have hzl : Hid (zs.length = m) := by have := hS.1; rw [List.length_map] at this; exact this
  have hn' : (n : Int) ≤ 500 := by omega
  go_enter Try.func8, Try.ntmps8
  go_upto_region 6 with (first
    | (go_at_call 10; refine Calls.mono (known_any _) ?_; rintro e w1 ⟨rfl, hb1⟩; have hA1 := hA.keep (.of_below hb1))
    | (at_builtin; refine cloneB w1 rfl (.tmp 13) (.tmp 14) rfl _ rfl rfl _ _ _ L rfl hA1 (by omega) ?_; intro v2 w2 hown2 hb2; obtain ⟨A2, c2, rfl, q1, q2, q3, _⟩ := own_slice hown2; have hb2w := below_two hb1 hb2; have hA2 := hA.keep (.of_below hb2w))
    | (go_at_call 18; refine Calls.mono (new_Q _ _ _ L _ q3 (by omega)) ?_; rintro e w3 ⟨g, rfl, hg1, hg2, cr3, hb3⟩; have hb3w := below_two hb2w hb3; have hA3 := hA.keep (.of_below hb3w))
    | (go_at_call 23; refine Calls.mono (refNew_read w.heap.size _ _ _ L _ hA3 (by omega) hc0 hc2 hb3w.size hA.inQ) ?_; rintro e w4 ⟨g2, rfl, hg3, hg4, rr4, hb4⟩; have hgg : g < g2 := (by rw [hg3]; exact hg2); clear hg3))
  have cr4 := cr3.below hb4
  have hb4w := below_two hb3w hb4
  have hgw : w.heap.size ≤ g := Nat.le_trans hb2w.size hg1
  have hQ : ∀ b, (fun b => b < g) b → b ≠ g := fun b hb => Nat.ne_of_lt hb
  clear hA1 hA2 hA3 hown2 q1 q2 q3 cr3 hb1 hb2 hb2w hb3 hb3w hb4 hg1 hg2 hg4
  go_wp2_with fail
  go_loopw [7] (fun i wr => ∃ (j : Nat) (l : List UInt8) (e : Int), j ≤ m ∧ i = .int .i64 j ∧ Below w.heap.size w wr ∧ CRP (fun b => b < g) wr g l e ∧ RR wr w.heap.size g2 l e) (fun i _ => m - (intOf i).toNat)
  case atStart => exact ⟨0, L, 0, by omega, rfl, hb4w, cr4, rr4⟩
  case round =>
    clear cr4 rr4 hb4w
    obtain ⟨j, l, e, hj, rfl, hbr, hcr, hrr⟩ := hrel
    have hgo := id hcr
    obtain ⟨_, _, _, hgo, _⟩ := hgo
    have hcl := cell_of_block (i := 0) hgo rfl
    clear hgo
    by_cases hlt : j < m ∧ j < 30
    · obtain ⟨hlt, hlt30⟩ := hlt
      have hjm : (j : Int) < m := by omega
      have hj0 : (0 : Int) ≤ j := by omega
      have hj30 : (j : Int) < 30 := by omega
      obtain ⟨b, o, z, rfl, cz0, hz⟩ := elem_at hS hzl.out hlt
      have cz := Keeps.of_below hbr _ _ cz0
      have hzb := hzb z (List.mem_of_getElem? hz.out)
      clear hz
      have hk7 := within_lt z 7 (by omega)
      obtain ⟨D, hD⟩ : ∃ D, Int.tdiv z 7 = D := ⟨_, rfl⟩
      have hDb : -9223372036854775808 ≤ D ∧ D ≤ 9223372036854775807 := by
        have := Int.natAbs_tdiv z 7
        rw [hD] at this
        have this : D.natAbs = z.natAbs / 7 := this
        omega
      go_upto_region 10 with (go_at_call 17; with_reducible refine Calls.mono (within_any z 7 _ _ rfl (by omega) (by omega)) ?_; rintro r _ ⟨rfl, rfl⟩)
      generalize hK : ((within z 7 : Nat) : Int) = K
      have hk : K = 0 ∨ K = 1 ∨ K = 2 ∨ K = 3 ∨ K = 4 ∨ K = 5 ∨ K = 6 := by omega
      clear hk7 hK
      rcases hk with rfl | rfl | rfl | rfl | rfl | rfl | rfl
      · go_upto_region 25 with (first
          | (go_at_call 19; with_reducible refine Calls.mono (readInt_Q _ g hQ l e _ hcr) ?_; rintro r w3 ⟨rfl, cr3, gr3⟩; have rr3 := hrr.other gr3 (Nat.ne_of_gt hgg) hgw)
          | (go_at_call 24; with_reducible refine Calls.mono (refInt_read _ g2 l e _ rr3) ?_; rintro r w4 ⟨rfl, rr4, gr4⟩))
        have hb3 := below_grown hbr gr3 hbr.size hgw
        have hb4 := below_grown hb3 gr4 hb3.size (Nat.le_trans hgw (Nat.le_of_lt hgg))
        have crF := cr3.other gr4 (Nat.ne_of_lt hgg) (fun b hb => Nat.ne_of_lt (Nat.lt_trans hb hgg))
        have rrF := rr4
        have hbw := hb4
        have hgo := id crF
        obtain ⟨_, _, _, hgo, _⟩ := hgo
        have hcl2 := cell_of_block (i := 0) hgo rfl
        clear hgo
        clear cz hcl
        go_wp2_with (first
          | (go_at_call 21; with_reducible refine Calls.mono (end_Q _ g hQ _ _ _ crF) ?_; rintro r _ ⟨rfl, rfl⟩)
          | (go_at_call 29; with_reducible refine Calls.mono (refEnd_read _ g2 _ _ _ rrF) ?_; rintro r w9 ⟨rfl, hb9⟩))
        go_roundw
        case rel => exact ⟨j + 1, _, _, by omega, by go_num, below_two hbw hb9, crF.below hb9, rrF.below hb9⟩
        case measure => simp [intOf]; omega
      · go_upto_region 25 with (first
          | (go_at_call 19; with_reducible refine Calls.mono (readInt_Q _ g hQ l e _ hcr) ?_; rintro r w3 ⟨rfl, cr3, gr3⟩; have rr3 := hrr.other gr3 (Nat.ne_of_gt hgg) hgw)
          | (go_at_call 24; with_reducible refine Calls.mono (refInt_read _ g2 l e _ rr3) ?_; rintro r w4 ⟨rfl, rr4, gr4⟩))
        have hb3 := below_grown hbr gr3 hbr.size hgw
        have hb4 := below_grown hb3 gr4 hb3.size (Nat.le_trans hgw (Nat.le_of_lt hgg))
        have crF := cr3.other gr4 (Nat.ne_of_lt hgg) (fun b hb => Nat.ne_of_lt (Nat.lt_trans hb hgg))
        have rrF := rr4
        have hbw := hb4
        have hgo := id crF
        obtain ⟨_, _, _, hgo, _⟩ := hgo
        have hcl2 := cell_of_block (i := 0) hgo rfl
        clear hgo
        clear cz hcl
        go_wp2_with (first
          | (go_at_call 21; with_reducible refine Calls.mono (end_Q _ g hQ _ _ _ crF) ?_; rintro r _ ⟨rfl, rfl⟩)
          | (go_at_call 29; with_reducible refine Calls.mono (refEnd_read _ g2 _ _ _ rrF) ?_; rintro r w9 ⟨rfl, hb9⟩))
        go_roundw
        case rel => exact ⟨j + 1, _, _, by omega, by go_num, below_two hbw hb9, crF.below hb9, rrF.below hb9⟩
        case measure => simp [intOf]; omega
      · go_upto_region 25 with (first
          | (go_at_call 20; with_reducible refine Calls.mono (readByte_Q _ g hQ l e _ hcr) ?_; rintro r w3 ⟨rfl, cr3, gr3⟩; have rr3 := hrr.other gr3 (Nat.ne_of_gt hgg) hgw)
          | (go_at_call 25; with_reducible refine Calls.mono (refByte_read _ g2 l e _ rr3) ?_; rintro r w4 ⟨rfl, rr4, gr4⟩))
        have hb3 := below_grown hbr gr3 hbr.size hgw
        have hb4 := below_grown hb3 gr4 hb3.size (Nat.le_trans hgw (Nat.le_of_lt hgg))
        have crF := cr3.other gr4 (Nat.ne_of_lt hgg) (fun b hb => Nat.ne_of_lt (Nat.lt_trans hb hgg))
        have rrF := rr4
        have hbw := hb4
        have hgo := id crF
        obtain ⟨_, _, _, hgo, _⟩ := hgo
        have hcl2 := cell_of_block (i := 0) hgo rfl
        clear hgo
        clear cz hcl
        go_wp2_with (first
          | (go_at_call 21; with_reducible refine Calls.mono (end_Q _ g hQ _ _ _ crF) ?_; rintro r _ ⟨rfl, rfl⟩)
          | (go_at_call 29; with_reducible refine Calls.mono (refEnd_read _ g2 _ _ _ rrF) ?_; rintro r w9 ⟨rfl, hb9⟩))
        go_roundw
        case rel => exact ⟨j + 1, _, _, by omega, by go_num, below_two hbw hb9, crF.below hb9, rrF.below hb9⟩
        case measure => simp [intOf]; omega
      · go_upto_region 25 with (first
          | (go_at_call 20; with_reducible refine Calls.mono (readByte_Q _ g hQ l e _ hcr) ?_; rintro r w3 ⟨rfl, cr3, gr3⟩; have rr3 := hrr.other gr3 (Nat.ne_of_gt hgg) hgw)
          | (go_at_call 25; with_reducible refine Calls.mono (refByte_read _ g2 l e _ rr3) ?_; rintro r w4 ⟨rfl, rr4, gr4⟩))
        have hb3 := below_grown hbr gr3 hbr.size hgw
        have hb4 := below_grown hb3 gr4 hb3.size (Nat.le_trans hgw (Nat.le_of_lt hgg))
        have crF := cr3.other gr4 (Nat.ne_of_lt hgg) (fun b hb => Nat.ne_of_lt (Nat.lt_trans hb hgg))
        have rrF := rr4
        have hbw := hb4
        have hgo := id crF
        obtain ⟨_, _, _, hgo, _⟩ := hgo
        have hcl2 := cell_of_block (i := 0) hgo rfl
        clear hgo
        clear cz hcl
        go_wp2_with (first
          | (go_at_call 21; with_reducible refine Calls.mono (end_Q _ g hQ _ _ _ crF) ?_; rintro r _ ⟨rfl, rfl⟩)
          | (go_at_call 29; with_reducible refine Calls.mono (refEnd_read _ g2 _ _ _ rrF) ?_; rintro r w9 ⟨rfl, hb9⟩))
        go_roundw
        case rel => exact ⟨j + 1, _, _, by omega, by go_num, below_two hbw hb9, crF.below hb9, rrF.below hb9⟩
        case measure => simp [intOf]; omega
      · go_upto_region 25 with (first
          | (go_at_call 22; with_reducible refine Calls.mono (readText_Q _ g hQ l e _ hcr) ?_; rintro r w3 ⟨rfl, cr3, gr3⟩; have rr3 := hrr.other gr3 (Nat.ne_of_gt hgg) hgw)
          | (go_at_call 26; with_reducible refine Calls.mono (refText_read _ g2 l e _ rr3) ?_; rintro r w4 ⟨rfl, rr4, gr4⟩))
        have hb3 := below_grown hbr gr3 hbr.size hgw
        have hb4 := below_grown hb3 gr4 hb3.size (Nat.le_trans hgw (Nat.le_of_lt hgg))
        have crF := cr3.other gr4 (Nat.ne_of_lt hgg) (fun b hb => Nat.ne_of_lt (Nat.lt_trans hb hgg))
        have rrF := rr4
        have hbw := hb4
        have hgo := id crF
        obtain ⟨_, _, _, hgo, _⟩ := hgo
        have hcl2 := cell_of_block (i := 0) hgo rfl
        clear hgo
        clear cz hcl
        go_wp2_with (first
          | (go_at_call 21; with_reducible refine Calls.mono (end_Q _ g hQ _ _ _ crF) ?_; rintro r _ ⟨rfl, rfl⟩)
          | (go_at_call 29; with_reducible refine Calls.mono (refEnd_read _ g2 _ _ _ rrF) ?_; rintro r w9 ⟨rfl, hb9⟩))
        go_roundw
        case rel => exact ⟨j + 1, _, _, by omega, by go_num, below_two hbw hb9, crF.below hb9, rrF.below hb9⟩
        case measure => simp [intOf]; omega
      · go_upto_region 25 with (first
          | (go_at_call 22; with_reducible refine Calls.mono (readText_Q _ g hQ l e _ hcr) ?_; rintro r w3 ⟨rfl, cr3, gr3⟩; have rr3 := hrr.other gr3 (Nat.ne_of_gt hgg) hgw)
          | (go_at_call 26; with_reducible refine Calls.mono (refText_read _ g2 l e _ rr3) ?_; rintro r w4 ⟨rfl, rr4, gr4⟩))
        have hb3 := below_grown hbr gr3 hbr.size hgw
        have hb4 := below_grown hb3 gr4 hb3.size (Nat.le_trans hgw (Nat.le_of_lt hgg))
        have crF := cr3.other gr4 (Nat.ne_of_lt hgg) (fun b hb => Nat.ne_of_lt (Nat.lt_trans hb hgg))
        have rrF := rr4
        have hbw := hb4
        have hgo := id crF
        obtain ⟨_, _, _, hgo, _⟩ := hgo
        have hcl2 := cell_of_block (i := 0) hgo rfl
        clear hgo
        clear cz hcl
        go_wp2_with (first
          | (go_at_call 21; with_reducible refine Calls.mono (end_Q _ g hQ _ _ _ crF) ?_; rintro r _ ⟨rfl, rfl⟩)
          | (go_at_call 29; with_reducible refine Calls.mono (refEnd_read _ g2 _ _ _ rrF) ?_; rintro r w9 ⟨rfl, hb9⟩))
        go_roundw
        case rel => exact ⟨j + 1, _, _, by omega, by go_num, below_two hbw hb9, crF.below hb9, rrF.below hb9⟩
        case measure => simp [intOf]; omega
      · go_upto_region 23 with fail
        refine wp_region_fresh_tail 9 [Is (.pointer (some ⟨g, 0, none⟩)), Is (.pointer (some ⟨g, 0, none⟩)), Is (.pointer (some ⟨g, 0, none⟩)), Is (.slice (some ⟨b, o, none⟩) m d), Is (.int .i64 (j : Int)), Is (.pointer (some ⟨b, o + j, none⟩)), Is (.int .i64 z), Is (.int .i64 D), Is (.int .i64 ((within D 20 : Nat) : Int))]
          [[(5, none)], [(60, some 0)], [(61, some 1)], [(1, none)], [(7, none)], [(63, some 3), (64, some 4)], [(65, some 5)], [(66, some 6)], [(67, some 7)]]
          (by kernel_rfl) (by kernel_rfl) (by kernel_rfl) (by kernel_rfl)
          ⟨mono_is _, mono_is _, mono_is _, mono_is _, mono_is _, mono_is _, mono_is _, mono_is _, mono_is _, trivial⟩ ?vc ?fin
        case vc =>
          refine ⟨?_, ?_, ?_, ?_, ?_, ?_, ?_, ?_, ?_, trivial⟩
          · exact vf_none rfl (f_mov (.inl rfl) fun A W _ h => h.1)
          · refine vf_none rfl (f_run fun A' W hR h => ?_)
            obtain ⟨h60, _⟩ := h
            replace h60 : A'.tmps[60]?.getD undef = _ := h60
            refine ⟨_, W, ?_, Below.refl _ _, rfl⟩
            go_simp
          · refine vf_none rfl (f_run fun A' W hR h => ?_)
            obtain ⟨h61, _⟩ := h
            replace h61 : A'.tmps[61]?.getD undef = _ := h61
            refine ⟨_, W, ?_, Below.refl _ _, rfl⟩
            go_simp
          · exact vf_none rfl (f_mov (.inl rfl) fun A W _ h => h.1)
          · exact vf_none rfl (f_mov (.inl rfl) fun A W _ h => h.1)
          · refine vf_none rfl (f_run fun A' W hR h => ?_)
            obtain ⟨h63, h64, _⟩ := h
            replace h63 : A'.tmps[63]?.getD undef = _ := h63
            replace h64 : A'.tmps[64]?.getD undef = _ := h64
            refine ⟨_, W, ?_, Below.refl _ _, rfl⟩
            go_simp
            all_goals omega
          · refine vf_none rfl (f_run fun A' W hR h => ?_)
            obtain ⟨h65, _⟩ := h
            replace h65 : A'.tmps[65]?.getD undef = _ := h65
            have hc := Keeps.of_below hR _ _ cz
            refine ⟨_, W, ?_, Below.refl _ _, rfl⟩
            go_simp
          · refine vf_none rfl (f_run fun A' W hR h => ?_)
            obtain ⟨h66, _⟩ := h
            replace h66 : A'.tmps[66]?.getD undef = _ := h66
            refine ⟨_, W, ?_, Below.refl _ _, rfl⟩
            go_simp
            all_goals exact IntWalk.i64_in _ (by omega)
          · refine vf_none rfl (f_call rfl Try.func17 rfl (by kernel_rfl) fun A' W hR h => ?_)
            obtain ⟨h67, _⟩ := h
            replace h67 : A'.tmps[67]?.getD undef = _ := h67
            show Calls _ _ #[A'.tmps[67]?.getD undef, _] _ _
            rw [h67]
            refine Calls.mono (within_any D 20 _ _ rfl (by omega) (by omega)) ?_
            rintro r W' ⟨rfl, rfl⟩
            exact ⟨_, rfl, Below.refl _ _, rfl⟩
        case fin =>
          intro A' W hd hs hR he hr
          obtain ⟨e0, e1, e2, e3, e4, e5, e6, e7, e8, _⟩ := he
          have hA' := act_after [60, 61, 62, 63, 64, 65, 66, 67, 68] rfl hd hs hr
          clear hd hs hr
          replace e0 : A'.tmps[60]?.getD undef = _ := e0
          replace e1 : A'.tmps[61]?.getD undef = _ := e1
          replace e2 : A'.tmps[62]?.getD undef = _ := e2
          replace e3 : A'.tmps[63]?.getD undef = _ := e3
          replace e4 : A'.tmps[64]?.getD undef = _ := e4
          replace e5 : A'.tmps[65]?.getD undef = _ := e5
          replace e6 : A'.tmps[66]?.getD undef = _ := e6
          replace e7 : A'.tmps[67]?.getD undef = _ := e7
          replace e8 : A'.tmps[68]?.getD undef = _ := e8
          simp only [frameAfter, List.contains_cons, List.contains_nil, Nat.reduceBEq, Bool.or_false, Bool.or_true, Bool.or_self, Bool.false_or, Bool.true_or, Bool.false_eq_true, if_true, if_false, Nat.reduceAdd, e0, e1, e2, e3, e4, e5, e6, e7, e8] at hA'
          subst hA'
          clear e0 e1 e2 e3 e4 e5 e6 e7 e8
          have hcr := hcr.below hR
          have hrr := hrr.below hR
          have cz := Keeps.of_below hR _ _ cz
          have hbr := below_then hbr hR hbr.size
          clear hcl hR
          go_upto_region 24 with (go_at_call 27; with_reducible refine Calls.mono (fail_Q _ g hQ l e _ _ hcr) ?_; rintro r w3 ⟨rfl, cr3, gr3⟩)
          have rr3 := hrr.other gr3 (Nat.ne_of_gt hgg) hgw
          have hb3 := below_grown hbr gr3 hbr.size hgw
          have cz3 := Keeps.of_below hb3 _ _ cz0
          clear cz hcr hrr
          go_upto_region 25 with (first
            | (go_at_call 17; with_reducible refine Calls.mono (within_any D 20 _ _ rfl (by omega) (by omega)) ?_; rintro r _ ⟨rfl, rfl⟩)
            | (go_at_call 28; with_reducible refine Calls.mono (refFail_read _ g2 l e _ _ rr3) ?_; rintro r w4 ⟨rfl, rr4, gr4⟩))
          have hb4 := below_grown hb3 gr4 hb3.size (Nat.le_trans hgw (Nat.le_of_lt hgg))
          have crF := cr3.other gr4 (Nat.ne_of_lt hgg) (fun b hb => Nat.ne_of_lt (Nat.lt_trans hb hgg))
          have rrF := rr4
          have hcl := True.intro
          have cz := True.intro
          have hbw := hb4
          have hgo := id crF
          obtain ⟨_, _, _, hgo, _⟩ := hgo
          have hcl2 := cell_of_block (i := 0) hgo rfl
          clear hgo
          clear cz hcl
          go_wp2_with (first
            | (go_at_call 21; with_reducible refine Calls.mono (end_Q _ g hQ _ _ _ crF) ?_; rintro r _ ⟨rfl, rfl⟩)
            | (go_at_call 29; with_reducible refine Calls.mono (refEnd_read _ g2 _ _ _ rrF) ?_; rintro r w9 ⟨rfl, hb9⟩))
          go_roundw
          case rel => exact ⟨j + 1, _, _, by omega, by go_num, below_two hbw hb9, crF.below hb9, rrF.below hb9⟩
          case measure => simp [intOf]; omega
    · have hend : ended l e = ended l e := rfl
      clear hend
      by_cases hlt2 : j < m
      · have hjm : (j : Int) < m := by omega
        have hj30 : ¬ (j : Int) < 30 := by omega
        go_wp2_with (first
          | (go_at_call 21; with_reducible refine Calls.mono (end_Q _ g hQ _ _ _ hcr) ?_; rintro r _ ⟨rfl, rfl⟩)
          | (go_at_call 29; with_reducible refine Calls.mono (refEnd_read _ g2 _ _ _ hrr) ?_; rintro r w9 ⟨rfl, hb9⟩))
        go_ret
        exact ⟨rfl, below_two hbr hb9⟩
      · have hjm : ¬ (j : Int) < m := by omega
        go_wp2_with (first
          | (go_at_call 21; with_reducible refine Calls.mono (end_Q _ g hQ _ _ _ hcr) ?_; rintro r _ ⟨rfl, rfl⟩)
          | (go_at_call 29; with_reducible refine Calls.mono (refEnd_read _ g2 _ _ _ hrr) ?_; rintro r w9 ⟨rfl, hb9⟩))
        go_ret
        exact ⟨rfl, below_two hbr hb9⟩
theorem codeReads_top (A : Option Addr) (n c : Nat) (L : List UInt8) (S : Option Addr) (m d : Nat) (zs : List Int) (w : World) (hA : Bs w A n L) (hc0 : n ≤ c) (hc2 : c ≤ 140737488351232)
    (hS : Vs w S m (zs.map (Value.int .i64))) (hd0 : m ≤ d) (hd2 : d ≤ 140737488351232) (hzb : ∀ z ∈ zs, -9223372036854775808 ≤ z ∧ z ≤ 9223372036854775807) :
    Calls Try.prog 8 #[.slice A n c, .slice S m d] w fun e w' => e = .returned (.bool true) ∧ Below w.heap.size w w' := by
  by_cases h : 500 < n
  · exact codeReads_none A n c S m d w h (by omega)
  · exact codeReads_walk A n c L S m d zs w hA hc0 (by omega) hS hd0 (by omega) hzb (by omega)
end Go.Proofs.Ytpbbindeghoaaaa
