/- CrcOpens: the walk. -/
import Derived.Test.YtdbjclpjplkkfaaChecked
import Derived.Test.YtdbjclpjplkkfaaCrcKnown
import Derived.Test.YtdbjclpjplkkfaaConcat
import Derived.Test.YtdbjclpjplkkfaaSeal
import Derived.Test.YtdbjclpjplkkfaaOpen
import Derived.Test.YtdbjclpjplkkfaaRefOpen
import Derived.Test.YtdbjclpjplkkfaaRegion
import Derived.Deep.DeepCutAuto
import Derived.Deep.CutBlock
namespace Go.Proofs.Ytdbjclpjplkkfaa
open Go.RowKit

theorem u8_add_u (q u : UInt8) : ((q.toNat : Int) + (u.toNat : Int)) % 256 = ((q + u).toNat : Int) := by
  rw [UInt8.toNat_add]; omega
theorem u8_add_w (q u : UInt8) : IntKind.u8.wrap ((q.toNat : Int) + (u.toNat : Int)) = ((q + u).toNat : Int) := u8_add_u q u

set_option maxRecDepth 100000 in
theorem crcOpens_none (A : Option Addr) (n c : Nat) (Z Y : Value) (m dm : Nat) (B : Option Addr) (x : Int) (w : World) (hn : 300 < n ∨ 100 < m) (hn2 : n ≤ 9223372036854775807) (hm2 : m ≤ 9223372036854775807) :
    Calls Try.prog 7 #[.slice A n c, Z, Y, .int .i64 x, .slice B m dm] w fun e w' => e = .returned (.bool true) ∧ Below w.heap.size w w' := by
  by_cases h : 300 < n
  all_goals
    have hm : 300 < n ∨ 100 < m := hn
    first
      | (have h3 : (300 : Int) < n := by omega)
      | (have h4 : (100 : Int) < m := by omega)
    go_enter Try.func7, Try.ntmps7
    go_wp2_with (go_at_call 9; refine Calls.mono (known_any _) ?_; rintro e w1 ⟨rfl, hb1⟩)
    go_ret
    exact ⟨rfl, hb1⟩

set_option maxRecDepth 100000 in
set_option maxHeartbeats 2000000 in
theorem crcOpens_walk (A : Option Addr) (n c : Nat) (l : List UInt8) (Az : Option Addr) (nz cnz : Nat) (zs : List Int) (Ay : Option Addr) (ny cny : Nat) (ys : List UInt8) (x : Int) (Am : Option Addr) (m dm : Nat) (mo : List UInt8) (w : World)
    (hA : Bs w A n l) (hc : n ≤ c) (hc2 : c ≤ 9223372036854775807) (hZ : Vs w Az nz (zs.map (Value.int .i64))) (hnz : nz ≤ 9223372036854775807) (hY : Bs w Ay ny ys) (hny : ny ≤ 9223372036854775807) (hMo : Bs w Am m mo) (hm : m ≤ dm) (hm2 : dm ≤ 9223372036854775807)
    (hx1 : -9223372036854775808 ≤ x) (hx2 : x ≤ 9223372036854775807) (h3 : n ≤ 300) (h1 : m ≤ 100) :
    Calls Try.prog 7 #[.slice A n c, .slice Az nz cnz, .slice Ay ny cny, .int .i64 x, .slice Am m dm] w fun e w' => e = .returned (.bool true) ∧ Below w.heap.size w w' := by
  have hln := hA.len
  have hsl := length_sealed l
  go_enter Try.func7, Try.ntmps7
  go_upto_region 6 with (first
    | (go_at_call 9; refine Calls.mono (known_any _) ?_; rintro e w1 ⟨rfl, hb1⟩; have hA1 := hA.keep (.of_below hb1))
    | (go_at_call 15; refine Calls.mono (seal_any _ _ _ l _ hA1 (by omega) hc hc2) ?_; rintro e w2 ⟨v2, rfl, hown2, hb2⟩))
  obtain ⟨gx, dx, rfl, hgx1, hgx2, hgx3, hgx4⟩ := own_form hown2 (by omega)
  have bx : Bs w2 (some ⟨gx, 0, none⟩) (n + 6) (sealed l) := Vs.of_own hown2
  have hA2 := hA1.keep (.of_below hb2)
  clear hown2 hA1
  refine wp_region_fresh [Is (.slice (some ⟨gx, 0, none⟩) (n + 6) dx), Is (.string ⟨(sealed l).toArray⟩), Is (.slice A n c), BsIs (n + 6) (sealed l), Is (.string ⟨(sealed l).toArray⟩), Is (.bool false)]
    [[(11, none)], [(33, some 0)], [(0, none)], [(35, some 2)], [(36, some 3)], [(34, some 1), (37, some 4)]]
    (by kernel_rfl) (by kernel_rfl) (by kernel_rfl)
    ⟨mono_is _, mono_is _, mono_is _, mono_bsIs _ _, mono_is _, mono_is _, trivial⟩ ?vc ?fin
  case vc =>
    refine ⟨?_, ?_, ?_, ?_, ?_, ?_, trivial⟩
    · exact vf_none rfl (f_mov (.inl rfl) fun A W _ h => h.1)
    · refine vf_none rfl (f_run fun A' W hR h => ?_)
      obtain ⟨h33, _⟩ := h
      replace h33 : A'.tmps[33]?.getD undef = _ := h33
      have sx := convB (w := W) (c := dx) (bx.keep (.of_below hR))
      refine ⟨_, W, ?_, Below.refl _ _, rfl⟩
      go_simp
    · exact vf_none rfl (f_mov (.inl rfl) fun A W _ h => h.1)
    · refine vf_none rfl (f_call rfl Try.func16 rfl (by kernel_rfl) fun A' W hR h => ?_)
      obtain ⟨h35, _⟩ := h
      replace h35 : A'.tmps[35]?.getD undef = _ := h35
      show Calls _ _ #[A'.tmps[35]?.getD undef] _ _
      rw [h35]
      refine Calls.mono (refSeal_any _ _ _ l _ (hA2.keep (.of_below hR)) (by omega) hc hc2) ?_
      rintro e W' ⟨v, rfl, hown, hb⟩
      obtain ⟨B, c', rfl, q1, q2, q3, _⟩ := own_slice hown
      exact ⟨_, rfl, hb, B, c', rfl, q3, q1, by simpa [maxLen] using q2⟩
    · refine vf_none rfl (f_run fun A' W hR h => ?_)
      obtain ⟨⟨B, c2, h36, hB2, _, _⟩, _⟩ := h
      replace h36 : A'.tmps[36]?.getD undef = _ := h36
      replace h36 : A'.tmps[36]?.getD undef = _ := h36
      have sx := convB (w := W) (c := c2) hB2
      refine ⟨_, W, ?_, Below.refl _ _, rfl⟩
      go_simp
    · refine vf_none rfl (f_run fun A' W hR h => ?_)
      obtain ⟨h34, h37, _⟩ := h
      replace h34 : A'.tmps[34]?.getD undef = _ := h34
      replace h37 : A'.tmps[37]?.getD undef = _ := h37
      refine ⟨_, W, ?_, Below.refl _ _, rfl⟩
      go_simp
  case fin =>
    intro A' W hd hs hR he hr
    obtain ⟨e0, e1, e2, e3, e4, e5, _⟩ := he
    have hA' := act_after [33, 34, 35, 36, 37, 38] rfl hd hs hr
    clear hd hs hr
    obtain ⟨B36, c36, e3, -⟩ := e3
    replace e3 : A'.tmps[36]?.getD undef = _ := e3
    replace e0 : A'.tmps[33]?.getD undef = _ := e0
    replace e1 : A'.tmps[34]?.getD undef = _ := e1
    replace e2 : A'.tmps[35]?.getD undef = _ := e2
    replace e4 : A'.tmps[37]?.getD undef = _ := e4
    replace e5 : A'.tmps[38]?.getD undef = _ := e5
    simp only [frameAfter, List.contains_cons, List.contains_nil, Nat.reduceBEq, Bool.or_false, Bool.or_true, Bool.or_self, Bool.false_or, Bool.true_or, Bool.false_eq_true, if_true, if_false, Nat.reduceAdd, e0, e1, e2, e3, e4, e5] at hA'
    subst hA'
    clear e0 e1 e2 e3 e4 e5
    have bx3 := bx.keep (.of_below hR)
    have hbw3 := below_two (below_two hb1 hb2) hR
    generalize hN : n + 6 = N at *
    clear bx hA2 hR
    go_upto_block 0 with (at_builtin; refine cloneB W rfl (.tmp 39) (.tmp 40) rfl _ rfl rfl _ _ _ (sealed l) rfl bx3 (by omega) ?_; intro v4 w4 hown4 hb4)
    obtain ⟨g, d, rfl, hg1, hg2, hd1, hd2⟩ := own_form hown4 (by omega)
    have hgw : w.heap.size ≤ g := Nat.le_trans hbw3.size hg1
    have hown4 := ownsRow_base hown4 hbw3.size
    have hbw4 := below_two hbw3 hb4
    clear bx3
    go_cut [12] (fun s12 wx => ∃ y : List UInt8, wx.ownsRow w.heap.size 5 1 (.slice (some ⟨g, 0, none⟩) N d) N (bv y) ∧ Below w.heap.size w wx)
    case first =>
      go_wp2_with fail
      go_loopw [12] (fun i wr => ∃ (k : Nat) (y : List UInt8), k ≤ 3 ∧ i = .int .i64 k ∧ wr.ownsRow w.heap.size 5 1 (.slice (some ⟨g, 0, none⟩) N d) N (bv y) ∧ Below w.heap.size w wr) (fun i _ => 3 - (intOf i).toNat)
      case atStart => exact ⟨0, sealed l, by omega, rfl, hown4, hbw4⟩
      case round =>
        clear hown4 hbw4
        obtain ⟨k, y, hk, rfl, hown, hbr⟩ := hrel
        have hk0 : (0 : Int) ≤ (k : Int) := by omega
        by_cases h1 : k < nz
        · have h1' : (k : Int) < nz := by omega
          by_cases h2 : k < ny
          · have h2' : (k : Int) < ny := by omega
            by_cases h3 : k < 3
            · have h3' : (k : Int) < 3 := by omega
              obtain ⟨zb, zo, vz, rfl, cz, -, gz⟩ := (hZ.keep (.of_below hbr)).next h1
              obtain ⟨z, rfl⟩ : ∃ z : Int, vz = .int .i64 z := by
                have := gz.out
                simp only [List.getElem?_map, Option.map_eq_some_iff] at this
                obtain ⟨z, _, rfl⟩ := this
                exact ⟨z, rfl⟩
              obtain ⟨yb, yo, u, rfl, cu, -, gu⟩ := (hY.keep (.of_below hbr)).next h2
              have hj := within_lt z N (by omega)
              generalize hjj : within z N = j at hj
              have HJ := Lib.hid hjj; clear hjj
              have hyl : y.length = N := by rw [← length_bv]; simpa using hown.1
              obtain ⟨q, hq⟩ : ∃ q, y[j]? = some q := ⟨_, List.getElem?_eq_getElem (by omega)⟩
              have cq := own_cell hown hq
              have fq : wr.frozen? ⟨g, j, none⟩ = false := hown.frozenAt _
              have hgl : g < wr.heap.size := World.block_lt_of_cell? wr _ cq
              have hj0 : (0 : Int) ≤ (j : Int) := by omega
              have hj1 : (j : Int) < N := by omega
              have hownY := hown
              clear hown hq hyl gz gu
              go_upto_region 12 with fail
              refine wp_region_fresh_tail 16 [Is (.slice (some ⟨g, 0, none⟩) N d), Is (.slice (some ⟨zb, zo, none⟩) nz cnz), Is (.int .i64 (k : Int)), Is (.pointer (some ⟨zb, zo + k, none⟩)), Is (.int .i64 z), Is (.slice (some ⟨g, 0, none⟩) N d), Is (.int .i64 (N : Int)), Is (.int .i64 (j : Int)), Is (.pointer (some ⟨g, j, none⟩)), Is (.int .u8 (q.toNat : Int)), Is (.slice (some ⟨yb, yo, none⟩) ny cny), Is (.int .i64 (k : Int)), Is (.pointer (some ⟨yb, yo + k, none⟩)), Is (.int .u8 (u.toNat : Int)), Is (.int .u8 ((q + u).toNat : Int)), Is (.pointer (some ⟨g, j, none⟩))]
                [[(11, none)], [(1, none)], [(12, none)], [(59, some 1), (60, some 2)], [(61, some 3)], [(11, none)], [(63, some 5)], [(62, some 4), (64, some 6)], [(58, some 0), (65, some 7)], [(66, some 8)], [(2, none)], [(12, none)], [(68, some 10), (69, some 11)], [(70, some 12)], [(67, some 9), (71, some 13)], [(58, some 0), (65, some 7)]]
                (by kernel_rfl) (by kernel_rfl) (by kernel_rfl) (by kernel_rfl)
                ⟨mono_is _, mono_is _, mono_is _, mono_is _, mono_is _, mono_is _, mono_is _, mono_is _, mono_is _, mono_is _, mono_is _, mono_is _, mono_is _, mono_is _, mono_is _, mono_is _, trivial⟩ ?vc ?fin
              case vc =>
                refine ⟨?_, ?_, ?_, ?_, ?_, ?_, ?_, ?_, ?_, ?_, ?_, ?_, ?_, ?_, ?_, ?_, trivial⟩
                · exact vf_none rfl (f_mov (.inl rfl) fun A W _ h => h.1)
                · exact vf_none rfl (f_mov (.inl rfl) fun A W _ h => h.1)
                · exact vf_none rfl (f_mov (.inl rfl) fun A W _ h => h.1)
                · refine vf_none rfl (f_run fun A' W hR h => ?_)
                  obtain ⟨h59, h60, _⟩ := h
                  replace h59 : A'.tmps[59]?.getD undef = _ := h59
                  replace h60 : A'.tmps[60]?.getD undef = _ := h60
                  refine ⟨_, W, ?_, Below.refl _ _, rfl⟩
                  go_simp
                  all_goals omega
                · refine vf_none rfl (f_run fun A' W hR h => ?_)
                  obtain ⟨h61, _⟩ := h
                  replace h61 : A'.tmps[61]?.getD undef = _ := h61
                  have hc' := Keeps.of_below hR _ _ cz
                  refine ⟨_, W, ?_, Below.refl _ _, rfl⟩
                  go_simp
                · exact vf_none rfl (f_mov (.inl rfl) fun A W _ h => h.1)
                · refine vf_none rfl (f_run fun A' W hR h => ?_)
                  obtain ⟨h63, _⟩ := h
                  replace h63 : A'.tmps[63]?.getD undef = _ := h63
                  refine ⟨_, W, ?_, Below.refl _ _, rfl⟩
                  go_simp
                · refine vf_none rfl (f_call rfl Try.func12 rfl (by kernel_rfl) fun A' W hR h => ?_)
                  obtain ⟨h62, h64, _⟩ := h
                  replace h62 : A'.tmps[62]?.getD undef = _ := h62
                  replace h64 : A'.tmps[64]?.getD undef = _ := h64
                  show Calls _ _ #[A'.tmps[62]?.getD undef, A'.tmps[64]?.getD undef] _ _
                  rw [h62, h64]
                  refine Calls.mono (within_any z N _ _ rfl (by omega) (by omega)) ?_
                  rintro e W' ⟨rfl, rfl⟩
                  exact ⟨_, rfl, Below.refl _ _, by rw [HJ.out]; rfl⟩
                · refine vf_none rfl (f_run fun A' W hR h => ?_)
                  obtain ⟨h58, h65, _⟩ := h
                  replace h58 : A'.tmps[58]?.getD undef = _ := h58
                  replace h65 : A'.tmps[65]?.getD undef = _ := h65
                  refine ⟨_, W, ?_, Below.refl _ _, rfl⟩
                  go_simp
                  all_goals omega
                · refine vf_none rfl (f_run fun A' W hR h => ?_)
                  obtain ⟨h66, _⟩ := h
                  replace h66 : A'.tmps[66]?.getD undef = _ := h66
                  have hc' := Keeps.of_below hR _ _ cq
                  refine ⟨_, W, ?_, Below.refl _ _, rfl⟩
                  go_simp
                · exact vf_none rfl (f_mov (.inl rfl) fun A W _ h => h.1)
                · exact vf_none rfl (f_mov (.inl rfl) fun A W _ h => h.1)
                · refine vf_none rfl (f_run fun A' W hR h => ?_)
                  obtain ⟨h68, h69, _⟩ := h
                  replace h68 : A'.tmps[68]?.getD undef = _ := h68
                  replace h69 : A'.tmps[69]?.getD undef = _ := h69
                  refine ⟨_, W, ?_, Below.refl _ _, rfl⟩
                  go_simp
                  all_goals omega
                · refine vf_none rfl (f_run fun A' W hR h => ?_)
                  obtain ⟨h70, _⟩ := h
                  replace h70 : A'.tmps[70]?.getD undef = _ := h70
                  have hc' := Keeps.of_below hR _ _ cu
                  refine ⟨_, W, ?_, Below.refl _ _, rfl⟩
                  go_simp
                · refine vf_none rfl (f_run fun A' W hR h => ?_)
                  obtain ⟨h67, h71, _⟩ := h
                  replace h67 : A'.tmps[67]?.getD undef = _ := h67
                  replace h71 : A'.tmps[71]?.getD undef = _ := h71
                  refine ⟨_, W, ?_, Below.refl _ _, rfl⟩
                  go_simp
                  all_goals first | exact u8_add_u _ _ | exact u8_add_w _ _
                · refine vf_none rfl (f_run fun A' W hR h => ?_)
                  obtain ⟨h58, h65, _⟩ := h
                  replace h58 : A'.tmps[58]?.getD undef = _ := h58
                  replace h65 : A'.tmps[65]?.getD undef = _ := h65
                  refine ⟨_, W, ?_, Below.refl _ _, rfl⟩
                  go_simp
                  all_goals omega
              case fin =>
                intro A' W hd hs hR he hr
                obtain ⟨e0, e1, e2, e3, e4, e5, e6, e7, e8, e9, e10, e11, e12, e13, e14, e15, _⟩ := he
                have hA' := act_after [58, 59, 60, 61, 62, 63, 64, 65, 66, 67, 68, 69, 70, 71, 72, 73] rfl hd hs hr
                clear hd hs hr
                replace e0 : A'.tmps[58]?.getD undef = _ := e0
                replace e1 : A'.tmps[59]?.getD undef = _ := e1
                replace e2 : A'.tmps[60]?.getD undef = _ := e2
                replace e3 : A'.tmps[61]?.getD undef = _ := e3
                replace e4 : A'.tmps[62]?.getD undef = _ := e4
                replace e5 : A'.tmps[63]?.getD undef = _ := e5
                replace e6 : A'.tmps[64]?.getD undef = _ := e6
                replace e7 : A'.tmps[65]?.getD undef = _ := e7
                replace e8 : A'.tmps[66]?.getD undef = _ := e8
                replace e9 : A'.tmps[67]?.getD undef = _ := e9
                replace e10 : A'.tmps[68]?.getD undef = _ := e10
                replace e11 : A'.tmps[69]?.getD undef = _ := e11
                replace e12 : A'.tmps[70]?.getD undef = _ := e12
                replace e13 : A'.tmps[71]?.getD undef = _ := e13
                replace e14 : A'.tmps[72]?.getD undef = _ := e14
                replace e15 : A'.tmps[73]?.getD undef = _ := e15
                simp only [frameAfter, List.contains_cons, List.contains_nil, Nat.reduceBEq, Bool.or_false, Bool.or_true, Bool.or_self, Bool.false_or, Bool.true_or, Bool.false_eq_true, if_true, if_false, Nat.reduceAdd, e0, e1, e2, e3, e4, e5, e6, e7, e8, e9, e10, e11, e12, e13, e14, e15] at hA'
                subst hA'
                clear e0 e1 e2 e3 e4 e5 e6 e7 e8 e9 e10 e11 e12 e13 e14 e15
                have cz' := Keeps.of_below hR _ _ cq
                have fz' : W.frozen? ⟨g, j, none⟩ = false := by rw [hR.frozen (p := ⟨g, j, none⟩) hgl]; exact fq
                have hownW := own_below hownY hR
                have hsetW := own_set hownW j (q + u)
                have hbW := (hbr.trans (hR.mono hbr.size)).setCell (p := ⟨g, j, none⟩) hgw (.int .u8 ((q + u).toNat : Int))
                clear hownW cq fq hownY hR cz cu
                go_wp2_with fail
                go_roundw
                case rel => exact ⟨k + 1, y.set j (q + u), by omega, by go_num, hsetW, hbW⟩
                case measure => simp [intOf]; omega
            · have h3' : ¬ (k : Int) < 3 := by omega
              go_wp2_with fail
              go_meet
              exact ⟨y, hown, hbr⟩
          · have h2' : ¬ (k : Int) < ny := by omega
            go_wp2_with fail
            go_meet
            exact ⟨y, hown, hbr⟩
        · have h1' : ¬ (k : Int) < nz := by omega
          go_wp2_with fail
          go_meet
          exact ⟨y, hown, hbr⟩
    case rest =>
      obtain ⟨y, hown, hbr⟩ := hcut
      clear hown4 hbw4
      have bY : Bs wc (some ⟨g, 0, none⟩) N y := Vs.of_own hown
      clear hown
      go_upto_if 76 with fail
      go_cut [11] (fun s11 wx => ∃ M, M ≤ N ∧ s11 = .slice (some ⟨g, 0, none⟩) M d ∧ wx = wc)
      case first =>
        go_wp2_with (go_at_call 12; refine Calls.mono (within_any _ (N + 1) _ _ (by omega) (by omega) (by omega)) ?_; rintro e _ ⟨rfl, rfl⟩; have hM := within_lt (x.tdiv 2) (N + 1) (by omega))
        all_goals skip
        · go_meet
          exact ⟨_, by omega, rfl, rfl⟩
        · go_meet
          exact ⟨N, Nat.le_refl _, rfl, rfl⟩
      case rest =>
        obtain ⟨M, hM, rfl, rfl⟩ := hcut
        have bX := bY.to_ hM
        have hx1 := bX.len
        generalize y.take M = xs at bX hx1
        have hA := hA.keep (.of_below hbr)
        have hMo := hMo.keep (.of_below hbr)
        clear bY hY hZ
        go_upto_region 16 with (first
          | (at_builtin; refine cloneB _ rfl (.tmp 86) (.tmp 87) rfl _ rfl rfl _ _ _ xs rfl bX (by omega) ?_; intro v5 w5 hown5 hb5)
          | (at_builtin; refine appendB _ rfl (.tmp 88) (.tmp 89) rfl wc.heap.size v5 _ _ rfl hown5 Am m dm mo rfl (hMo.keep (.of_below hb5)) (by omega) hb5.size ?_; intro v6 w6 hown6 hg6 hat6; obtain ⟨A6, c6, rfl, q1, q2, q3, _⟩ := own_slice hown6; have hb6 := below_append hb5 hg6 hown5 hb5.size))
        have hP : Ps (w6.alloc (.cells #[.slice (some ⟨g, 0, none⟩) M d, .slice A6 (M + m) c6, .slice Am m dm, .slice A n c] 25)) (some ⟨w6.heap.size, 0, none⟩) 4 [xs, xs ++ mo, mo, l] :=
          Ps.cons_ (cell_new w6 _ _ _ rfl) ((bX.keep (.of_below hb6)).alloc _) (by omega) hd2
            (Ps.cons_ (cell_new w6 _ _ _ rfl) (Bs.alloc q3 _) q1 (by simpa [maxLen] using q2)
              (Ps.cons_ (cell_new w6 _ _ _ rfl) ((hMo.keep (.of_below hb6)).alloc _) hm hm2
                (Ps.one (cell_new w6 _ _ _ rfl) ((hA.keep (.of_below hb6)).alloc _) hc hc2)))
        have hmo := hMo.len
        have hall : ∀ k ∈ [xs, xs ++ mo, mo, l], k.length ≤ 1000 := by
          intro k hk
          simp only [List.mem_cons, List.not_mem_nil, or_false] at hk
          rcases hk with rfl | rfl | rfl | rfl
          · omega
          · rw [List.length_append]; omega
          · omega
          · omega
        have hbw := below_then hbr (hb6.alloc hb6.size (.cells #[.slice (some ⟨g, 0, none⟩) M d, .slice A6 (M + m) c6, .slice Am m dm, .slice A n c] 25)) hbr.size
        generalize [xs, xs ++ mo, mo, l] = rows at hP hall
        generalize w6.alloc (.cells #[.slice (some ⟨g, 0, none⟩) M d, .slice A6 (M + m) c6, .slice Am m dm, .slice A n c] 25) = w7 at hP hbw
        generalize w6.heap.size = g7 at hP
        clear hA hMo hx1 hmo q3 hown6 hown5 hg6 hat6 hb5 hb6 bX hbr
        have HA := Lib.hid hall; clear hall
        go_wp2_with fail
        go_loopw [14] (fun i wr => ∃ (k : Nat), k ≤ 4 ∧ i = .int .i64 k ∧ Below w7.heap.size w7 wr) (fun i _ => 4 - (intOf i).toNat)
        case atStart => exact ⟨0, by omega, rfl, Below.refl _ _⟩
        case round =>
          obtain ⟨k, hk, rfl, hbr⟩ := hrel
          have hk0 : (0 : Int) ≤ (k : Int) := by omega
          by_cases h4 : k < 4
          · have h4' : (k : Int) < 4 := by omega
            obtain ⟨b7, o7, B, mm, cc, r, e7, cr, bR, r1, r2, -, gr⟩ := (hP.keep (.of_below hbr)).next h4
            injection e7 with e7; injection e7 with e7 e8
            subst e7; subst e8
            rw [Nat.zero_add] at cr
            have cr0 := Keeps.alloc wr (.cells #[] 5) _ _ cr
            have hrl := HA.out r (List.mem_of_getElem? gr.out)
            have hrm := bR.len
            obtain ⟨p, q, f, ho⟩ : ∃ p q f, opened r = (p, q, f) := ⟨_, _, _, rfl⟩
            have HO := Lib.hid ho; clear ho
            go_upto_region 21 with (first
              | (at_builtin; refine cloneB wr rfl (.tmp 99) (.tmp 103) rfl _ rfl rfl _ _ _ r rfl bR (by omega) ?_; intro v8 w8 hown8 hb8; obtain ⟨A8, c8, rfl, q1, q2, q3, _⟩ := own_slice hown8; have q3 : Bs w8 A8 mm r := q3; have cr8 := Keeps.of_below hb8 _ _ cr; have bR8 := bR.keep (.of_below hb8))
              | (go_at_call 17; refine Calls.mono (open_full _ _ _ _ _ q3 q1 (by simpa [maxLen] using q2)) ?_; rintro e w9 ⟨v9, he, hown9, hb9⟩; rw [HO.out] at he hown9; dsimp only at he hown9; subst he; obtain ⟨A9, c9, rfl, s1, s2, s3, _⟩ := own_slice hown9; have s3 : Bs w9 A9 p.length p := s3; have cr9 := Keeps.of_below hb9 _ _ cr8; have bR9 := bR8.keep (.of_below hb9))
              | (go_at_call 18; refine Calls.mono (refOpen_full _ _ _ _ _ bR9 r1 r2) ?_; rintro e w10 ⟨v10, he, hown10, hb10⟩; rw [HO.out] at he hown10; dsimp only at he hown10; subst he; obtain ⟨A10, c10, rfl, t1, t2, t3, _⟩ := own_slice hown10; have t3 : Bs w10 A10 p.length p := t3; have k1 := convB (c := c9) (s3.keep (.of_below hb10)); have k2 := convB (c := c10) t3))
            have hb11 := below_then hbr (below_two hb8 (below_two hb9 hb10)) hbr.size
            clear hown8 hown9 hown10 q3 s3 t3 cr cr0 cr8 cr9 bR bR8 bR9 gr hrl hrm
            go_wp2_with fail
            go_roundw
            case rel => exact ⟨k + 1, by omega, by go_num, hb11⟩
            case measure => simp [intOf]; omega
          · obtain rfl : k = 4 := by omega
            go_wp2_with fail
            go_ret
            exact ⟨rfl, below_then hbw hbr hbw.size⟩

theorem crcOpens_top (A : Option Addr) (n c : Nat) (l : List UInt8) (Az : Option Addr) (nz cnz : Nat) (zs : List Int) (Ay : Option Addr) (ny cny : Nat) (ys : List UInt8) (x : Int) (Am : Option Addr) (m dm : Nat) (mo : List UInt8) (w : World)
    (hA : Bs w A n l) (hc : n ≤ c) (hc2 : c ≤ 140737488351232) (hZ : Vs w Az nz (zs.map (Value.int .i64))) (hnz : nz ≤ cnz) (hcz : cnz ≤ 140737488351232) (_ : ∀ z ∈ zs, -9223372036854775808 ≤ z ∧ z ≤ 9223372036854775807) (hY : Bs w Ay ny ys) (hny : ny ≤ cny) (hcy : cny ≤ 140737488351232)
    (hx : -9223372036854775808 ≤ x ∧ x ≤ 9223372036854775807) (hMo : Bs w Am m mo) (hm : m ≤ dm) (hm2 : dm ≤ 140737488351232) :
    Calls Try.prog 7 #[.slice A n c, .slice Az nz cnz, .slice Ay ny cny, .int .i64 x, .slice Am m dm] w fun e w' => e = .returned (.bool true) ∧ Below w.heap.size w w' := by
  by_cases h : 300 < n ∨ 100 < m
  · exact crcOpens_none A n c _ _ m dm Am x w h (by omega) (by omega)
  · exact crcOpens_walk A n c l Az nz cnz zs Ay ny cny ys x Am m dm mo w hA hc (by omega) hZ (by omega) hY (by omega) hMo hm (by omega) hx.1 hx.2 (by omega) (by omega)
end Go.Proofs.Ytdbjclpjplkkfaa
