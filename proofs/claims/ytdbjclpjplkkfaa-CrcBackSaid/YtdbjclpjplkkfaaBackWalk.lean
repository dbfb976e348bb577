/- CrcBack: the walk. -/
import Derived.Test.YtdbjclpjplkkfaaChecked
import Derived.Test.YtdbjclpjplkkfaaCrcKnown
import Derived.Test.YtdbjclpjplkkfaaConcat
import Derived.Test.YtdbjclpjplkkfaaSeal
import Derived.Test.YtdbjclpjplkkfaaOpen
import Derived.Test.YtdbjclpjplkkfaaRegion
import Derived.Deep.DeepCutAuto
namespace Go.Proofs.Ytdbjclpjplkkfaa
open Go.RowKit

set_option maxRecDepth 100000 in
theorem crcBack_none (A : Option Addr) (n c : Nat) (B : Option Addr) (m d : Nat) (x y : Int) (w : World) (hn : 300 < n ∨ 100 < m) (hn2 : n ≤ 9223372036854775807) (hm2 : m ≤ 9223372036854775807) :
    Calls Try.prog 8 #[.slice A n c, .slice B m d, .int .i64 x, .int .i64 y] w fun e w' => e = .returned (.bool true) ∧ Below w.heap.size w w' := by
  by_cases h : 300 < n
  all_goals
    have hm : 300 < n ∨ 100 < m := hn
    first
      | (have h3 : (300 : Int) < n := by omega)
      | (have h4 : (100 : Int) < m := by omega)
    go_enter Try.func8, Try.ntmps8
    go_wp2_with (go_at_call 9; refine Calls.mono (known_any _) ?_; rintro e w1 ⟨rfl, hb1⟩)
    go_ret
    exact ⟨rfl, hb1⟩

set_option maxRecDepth 100000 in
set_option maxHeartbeats 2000000 in
theorem crcBack_walk (A : Option Addr) (n c : Nat) (l : List UInt8) (B : Option Addr) (m dm : Nat) (mo : List UInt8) (x y : Int) (w : World) (hA : Bs w A n l) (hc : n ≤ c) (hc2 : c ≤ 9223372036854775807) (hB : Bs w B m mo) (hm : m ≤ dm) (hm2 : dm ≤ 9223372036854775807)
    (h3 : n ≤ 300) (h1 : m ≤ 100) :
    Calls Try.prog 8 #[.slice A n c, .slice B m dm, .int .i64 x, .int .i64 y] w fun e w' => e = .returned (.bool true) ∧ Below w.heap.size w w' := by
  have hln := hA.len
  have ho1 := opened_sealed l mo (by omega)
  rw [hln] at ho1
  have hcmp : ((6 : Int) + n != n + 6) = false := by rw [bne_eq_false_iff_eq]; omega
  have hsl := length_sealed l
  go_enter Try.func8, Try.ntmps8
  go_upto_region 9 with (first
    | (go_at_call 9; refine Calls.mono (known_any _) ?_; rintro e w1 ⟨rfl, hb1⟩; have hA1 := hA.keep (.of_below hb1); have hB1 := hB.keep (.of_below hb1))
    | (go_at_call 15; refine Calls.mono (seal_any _ _ _ l _ hA1 (by omega) hc hc2) ?_; rintro e w2 ⟨v2, rfl, hown2, hb2⟩; obtain ⟨gx, dx, rfl, hx1, hx2, hx3, hx4⟩ := own_form hown2 (by omega); have bx : Bs w2 (some ⟨gx, 0, none⟩) (n + 6) (sealed l) := Vs.of_own hown2; have hA2 := hA1.keep (.of_below hb2); have hB2 := hB1.keep (.of_below hb2))
    | (at_builtin; refine cloneB w2 rfl (.tmp 33) (.tmp 34) rfl _ rfl rfl _ _ _ (sealed l) rfl bx (by omega) ?_; intro v3 w3 hown3 hb3)
    | (at_builtin; refine appendB _ rfl (.tmp 35) (.tmp 36) rfl w2.heap.size v3 _ _ rfl hown3 B m dm mo rfl (hB2.keep (.of_below hb3)) (by omega) hb3.size ?_; intro v4 w4 hown4 hg4 hat4; obtain ⟨A4, c4, rfl, q1, q2, q3, _⟩ := own_slice hown4; have hb4 := below_append hb3 hg4 hown3 hb3.size; have hA4 := hA2.keep (.of_below hb4); have bx4 := bx.keep (.of_below hb4))
    | (go_at_call 17; refine Calls.mono (open_full _ _ _ _ _ q3 q1 (by simpa [maxLen] using q2)) ?_; rintro e w5 ⟨v5, he, hown5, hb5⟩; rw [ho1] at he hown5; dsimp only at he hown5; rw [hln] at hown5; subst he; obtain ⟨A5, c5, rfl, r1, r2, r3, _⟩ := own_slice hown5; have hA5 := hA4.keep (.of_below hb5); have bx5 := bx4.keep (.of_below hb5); have s1 := convB (w := w5) (c := c5) (show Bs w5 A5 n l from r3); have s2 := convB (c := c) hA5))
  have hbw5 := below_two (below_two hb1 hb2) (below_two hb4 hb5)
  generalize hN : n + 6 = N at *
  go_upto_region 10 with (at_builtin; refine cloneB w5 rfl (.tmp 58) (.tmp 59) rfl _ rfl rfl _ _ _ (sealed l) rfl bx5 (by omega) ?_; intro v6 w6 hown6 hb6)
  obtain ⟨g, d, rfl, hg1, hg2, hd1, hd2⟩ := own_form hown6 (by omega)
  have bx6 := bx5.keep (.of_below hb6)
  have hbw : Below w.heap.size w w6 := below_two hbw5 hb6
  have hgw : w.heap.size ≤ g := Nat.le_trans hbw5.size hg1
  have hgl : g < w6.heap.size := hg2
  have hgx : gx < w5.heap.size := by
    obtain ⟨b', o', e', hc'⟩ := bx5.2 (by omega)
    injection e' with e'; injection e' with e1' e2'
    subst e1'
    exact World.block_lt_of_cell? w5 _ (hc' 0 _ (bv_get (sealed l) 0 (by omega)))
  have hfar : ∀ b o, (some ⟨gx, 0, none⟩ : Option Addr) = some ⟨b, o, none⟩ → b ≠ g := by
    intro b o e
    injection e with e; injection e with e1 e2
    omega
  have hi4 := within_lt x (N - 2) (by omega)
  generalize hi : within x (N - 2) = i at hi4
  have hs8 := within_lt y 8 (by omega)
  generalize hs : within y 8 = s at hs8
  obtain ⟨z, hz⟩ : ∃ z, (sealed l)[2 + i]? = some z := ⟨_, List.getElem?_eq_getElem (by omega)⟩
  have hmne := oneBit_ne s hs8
  have ex1 := u8_xor_u z (oneBit s)
  have hx3' := xor_other z (oneBit s) hmne
  generalize z ^^^ oneBit s = z2 at ex1 hx3'
  have hturn := opened_turned l i z z2 (by omega) (by omega) hz hx3'
  have cz := own_cell hown6 hz
  have fz : w6.frozen? ⟨g, 2 + i, none⟩ = false := hown6.frozenAt _
  have hownY := hown6
  clear hown6 hz hcmp ho1 hown2 hown3 hown4 hown5 s1 s2 hsl
  have ib0 : (0 : Int) ≤ 2 + (i : Int) := by omega
  have ib1 : 2 + (i : Int) < N := by omega
  refine wp_region_fresh_tail 15 [Is (.slice (some ⟨g, 0, none⟩) N d), Is (.int .i64 x), Is (.slice (some ⟨g, 0, none⟩) N d), Is (.int .i64 (N : Int)), Is (.int .i64 ((N : Int) - 2)), Is (.int .i64 (i : Int)), Is (.int .i64 (2 + (i : Int))), Is (.pointer (some ⟨g, 2 + i, none⟩)), Is (.int .u8 (z.toNat : Int)), Is (.int .i64 y), Is (.int .i64 (s : Int)), Is (.int .u64 (s : Int)), Is (.int .u8 ((oneBit s).toNat : Int)), Is (.int .u8 (z2.toNat : Int)), Is (.pointer (some ⟨g, 2 + i, none⟩))]
    [[(13, none)], [(2, none)], [(13, none)], [(63, some 2)], [(64, some 3)], [(62, some 1), (65, some 4)], [(66, some 5)], [(61, some 0), (67, some 6)], [(68, some 7)], [(3, none)], [(70, some 9)], [(71, some 10)], [(72, some 11)], [(69, some 8), (73, some 12)], [(61, some 0), (67, some 6)]]
    (by kernel_rfl) (by kernel_rfl) (by kernel_rfl) (by kernel_rfl)
    ⟨mono_is _, mono_is _, mono_is _, mono_is _, mono_is _, mono_is _, mono_is _, mono_is _, mono_is _, mono_is _, mono_is _, mono_is _, mono_is _, mono_is _, mono_is _, trivial⟩ ?vc ?fin
  case vc =>
    refine ⟨?_, ?_, ?_, ?_, ?_, ?_, ?_, ?_, ?_, ?_, ?_, ?_, ?_, ?_, ?_, trivial⟩
    · exact vf_none rfl (f_mov (.inl rfl) fun A W _ h => h.1)
    · exact vf_none rfl (f_mov (.inl rfl) fun A W _ h => h.1)
    · exact vf_none rfl (f_mov (.inl rfl) fun A W _ h => h.1)
    · refine vf_none rfl (f_run fun A' W hR h => ?_)
      obtain ⟨h63, _⟩ := h
      replace h63 : A'.tmps[63]?.getD undef = _ := h63
      refine ⟨_, W, ?_, Below.refl _ _, rfl⟩
      go_simp
    · refine vf_none rfl (f_run fun A' W hR h => ?_)
      obtain ⟨h64, _⟩ := h
      replace h64 : A'.tmps[64]?.getD undef = _ := h64
      refine ⟨_, W, ?_, Below.refl _ _, rfl⟩
      go_simp
      all_goals exact IntWalk.i64_in _ (by omega)
    · refine vf_none rfl (f_call rfl Try.func12 rfl (by kernel_rfl) fun A' W hR h => ?_)
      obtain ⟨h62, h65, _⟩ := h
      replace h62 : A'.tmps[62]?.getD undef = _ := h62
      replace h65 : A'.tmps[65]?.getD undef = _ := h65
      show Calls _ _ #[A'.tmps[62]?.getD undef, A'.tmps[65]?.getD undef] _ _
      rw [h62, h65]
      refine Calls.mono (within_any x (N - 2) _ _ (by omega) (by omega) (by omega)) ?_
      rintro e W' ⟨rfl, rfl⟩
      exact ⟨_, rfl, Below.refl _ _, by rw [hi]; rfl⟩
    · refine vf_none rfl (f_run fun A' W hR h => ?_)
      obtain ⟨h66, _⟩ := h
      replace h66 : A'.tmps[66]?.getD undef = _ := h66
      refine ⟨_, W, ?_, Below.refl _ _, rfl⟩
      go_simp
      all_goals exact IntWalk.i64_in _ (by omega)
    · refine vf_none rfl (f_run fun A' W hR h => ?_)
      obtain ⟨h61, h67, _⟩ := h
      replace h61 : A'.tmps[61]?.getD undef = _ := h61
      replace h67 : A'.tmps[67]?.getD undef = _ := h67
      refine ⟨_, W, ?_, Below.refl _ _, rfl⟩
      go_simp
      all_goals omega
    · refine vf_none rfl (f_run fun A' W hR h => ?_)
      obtain ⟨h68, _⟩ := h
      replace h68 : A'.tmps[68]?.getD undef = _ := h68
      have hc := Keeps.of_below hR _ _ cz
      refine ⟨_, W, ?_, Below.refl _ _, rfl⟩
      go_simp
    · exact vf_none rfl (f_mov (.inl rfl) fun A W _ h => h.1)
    · refine vf_none rfl (f_call rfl Try.func12 rfl (by kernel_rfl) fun A' W hR h => ?_)
      obtain ⟨h70, _⟩ := h
      replace h70 : A'.tmps[70]?.getD undef = _ := h70
      show Calls _ _ #[A'.tmps[70]?.getD undef, _] _ _
      rw [h70]
      refine Calls.mono (within_any y 8 _ _ rfl (by omega) (by omega)) ?_
      rintro e W' ⟨rfl, rfl⟩
      exact ⟨_, rfl, Below.refl _ _, by rw [hs]; rfl⟩
    · refine vf_none rfl (f_run fun A' W hR h => ?_)
      obtain ⟨h71, _⟩ := h
      replace h71 : A'.tmps[71]?.getD undef = _ := h71
      refine ⟨_, W, ?_, Below.refl _ _, rfl⟩
      go_simp
      all_goals exact IntWalk.u64_in _ (by omega)
    · refine vf_none rfl (f_run fun A' W hR h => ?_)
      obtain ⟨h72, _⟩ := h
      replace h72 : A'.tmps[72]?.getD undef = _ := h72
      refine ⟨_, W, ?_, Below.refl _ _, rfl⟩
      go_simp
      all_goals exact oneBit_code2 s hs8
    · refine vf_none rfl (f_run fun A' W hR h => ?_)
      obtain ⟨h69, h73, _⟩ := h
      replace h69 : A'.tmps[69]?.getD undef = _ := h69
      replace h73 : A'.tmps[73]?.getD undef = _ := h73
      refine ⟨_, W, ?_, Below.refl _ _, rfl⟩
      go_simp
      all_goals exact ex1
    · refine vf_none rfl (f_run fun A' W hR h => ?_)
      obtain ⟨h61, h67, _⟩ := h
      replace h61 : A'.tmps[61]?.getD undef = _ := h61
      replace h67 : A'.tmps[67]?.getD undef = _ := h67
      refine ⟨_, W, ?_, Below.refl _ _, rfl⟩
      go_simp
      all_goals omega
  case fin =>
    intro A' W hd hs hR he hr
    obtain ⟨e0, e1, e2, e3, e4, e5, e6, e7, e8, e9, e10, e11, e12, e13, e14, _⟩ := he
    have hA' := act_after [61, 62, 63, 64, 65, 66, 67, 68, 69, 70, 71, 72, 73, 74, 75] rfl hd hs hr
    clear hd hs hr
    replace e0 : A'.tmps[61]?.getD undef = _ := e0
    replace e1 : A'.tmps[62]?.getD undef = _ := e1
    replace e2 : A'.tmps[63]?.getD undef = _ := e2
    replace e3 : A'.tmps[64]?.getD undef = _ := e3
    replace e4 : A'.tmps[65]?.getD undef = _ := e4
    replace e5 : A'.tmps[66]?.getD undef = _ := e5
    replace e6 : A'.tmps[67]?.getD undef = _ := e6
    replace e7 : A'.tmps[68]?.getD undef = _ := e7
    replace e8 : A'.tmps[69]?.getD undef = _ := e8
    replace e9 : A'.tmps[70]?.getD undef = _ := e9
    replace e10 : A'.tmps[71]?.getD undef = _ := e10
    replace e11 : A'.tmps[72]?.getD undef = _ := e11
    replace e12 : A'.tmps[73]?.getD undef = _ := e12
    replace e13 : A'.tmps[74]?.getD undef = _ := e13
    replace e14 : A'.tmps[75]?.getD undef = _ := e14
    simp only [frameAfter, List.contains_cons, List.contains_nil, Nat.reduceBEq, Bool.or_false, Bool.or_true, Bool.or_self, Bool.false_or, Bool.true_or, Bool.false_eq_true, if_true, if_false, Nat.reduceAdd, e0, e1, e2, e3, e4, e5, e6, e7, e8, e9, e10, e11, e12, e13, e14] at hA'
    subst hA'
    clear e0 e1 e2 e3 e4 e5 e6 e7 e8 e9 e10 e11 e12 e13 e14
    have cz' := Keeps.of_below hR _ _ cz
    have fz' : W.frozen? ⟨g, 2 + i, none⟩ = false := by rw [hR.frozen (p := ⟨g, 2 + i, none⟩) hgl]; exact fz
    have hownW := own_below hownY hR
    have hsetW := own_set hownW (2 + i) z2
    have bxW := (bx6.below hR).far (p := ⟨g, 2 + i, none⟩) hfar (.int .u8 (z2.toNat : Int))
    have hbW := (hbw.trans (hR.mono hbw.size)).setCell (p := ⟨g, 2 + i, none⟩) hgw (.int .u8 (z2.toNat : Int))
    clear hownW cz fz hownY
    go_wp2_with fail
    generalize W.setCell ⟨g, 2 + i, none⟩ (.int .u8 (z2.toNat : Int)) = V at hsetW bxW hbW
    refine Calls.mono (open_full _ _ _ _ _ (Vs.of_own hsetW) hd1 hd2) ?_
    rintro e w7 ⟨v7, he7, hown7, hb7⟩
    rw [hturn] at he7
    subst he7
    have bx7 : Bs w7 (some ⟨gx, 0, none⟩) N (sealed l) := bxW.below hb7
    have hb7w := hbW.trans (hb7.mono hbW.size)
    have hk := within_lt x N (by omega)
    have hkc : (within x N : Int) ≤ dx := by omega
    have hk0 : (0 : Int) ≤ (within x N : Int) := by omega
    go_wp2_with (go_at_call 12; refine Calls.mono (within_any x N _ _ rfl (by omega) (by omega)) ?_; rintro e _ ⟨rfl, rfl⟩)
    generalize within x N = k at hk
    refine Calls.mono (open_full _ _ _ _ _ (bx7.to_ (k := k) (by omega)) (by omega) hx4) ?_
    rintro e w8 ⟨v8, he8, hown8, hb8⟩
    rw [opened_cut l k (by omega) (by omega)] at he8
    subst he8
    go_wp2_with fail
    go_ret
    exact ⟨rfl, hb7w.trans (hb8.mono hb7w.size)⟩

theorem crcBack_top (A : Option Addr) (n c : Nat) (l : List UInt8) (B : Option Addr) (m dm : Nat) (mo : List UInt8) (x y : Int) (w : World) (hA : Bs w A n l) (hc : n ≤ c) (hc2 : c ≤ 140737488351232) (hB : Bs w B m mo) (hm : m ≤ dm) (hm2 : dm ≤ 140737488351232)
    (_ : -9223372036854775808 ≤ x ∧ x ≤ 9223372036854775807) (_ : -9223372036854775808 ≤ y ∧ y ≤ 9223372036854775807) :
    Calls Try.prog 8 #[.slice A n c, .slice B m dm, .int .i64 x, .int .i64 y] w fun e w' => e = .returned (.bool true) ∧ Below w.heap.size w w' := by
  by_cases h : 300 < n ∨ 100 < m
  · exact crcBack_none A n c B m dm x y w h (by omega) (by omega)
  · exact crcBack_walk A n c l B m dm mo x y w hA hc (by omega) hB hm (by omega) (by omega) (by omega)
end Go.Proofs.Ytdbjclpjplkkfaa
