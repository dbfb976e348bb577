/- The document's flash memory: what a change leaves. -/
import Derived.Test.YtkncomkncfcecaaRefFlash2
set_option linter.unusedVariables false
set_option linter.unusedSimpArgs false
namespace Go.Proofs.Ytkncomkncfcecaa
open Go.RowKit
set_option maxRecDepth 100000 in
set_option maxHeartbeats 8000000 in
theorem change_any (Q : Nat → Prop) (g : Nat) (hQ : ∀ b, Q b → b ≠ g) (f : FlashSt) (k a0 n : Nat) (B : Option Addr) (c2 : Nat) (tb : List UInt8) (w : World) (h : RF Q w g f) (hk : k < 6) (ha0 : a0 + n ≤ 1024) (hB : Bs w B n tb) (hBa : 0 < n → Away g B) (hm2 : n ≤ c2) (hc9 : c2 ≤ 9223372036854775807) :
    Calls Try.prog 65 #[.pointer (some ⟨g, 0, none⟩), .int .i64 (k : Int), .int .i64 (a0 : Int), .slice B n c2] w fun r w' =>
      r = .returned (.int .i64 (if (spendF f).dead = true then 14 else 0)) ∧ RF Q w' g { spendF f with S := layS (!(spendF f).dead) f.mask tb (k * 1024 + a0) n f.S } ∧ w.grownBy w' (some g) := by
  obtain ⟨A0, n0, c0, hg, hS, hl0, hl1, hMB0, hn0, hc0, ha⟩ := h
  have d0 := rf_done hg hS
  have d1 := rf_left hg hS
  have d3 := YQ hg hS
  have e0 : w.frozen? ⟨g, 6144, none⟩ = false := Z6 hg
  have e1 : w.frozen? ⟨g, 6145, none⟩ = false := Z6 hg
  have e3 : w.frozen? ⟨g, 6147, none⟩ = false := Z6 hg
  have h1 := ZB (i := 6144) (.int .i64 (wrap64 (f.done + 1))) hg
  rw [rf_setDone hS] at h1
  have hk1 : (k : Int) < 6 := by omega
  have hk0 : (0 : Int) ≤ k := by omega
  have ha1 : (a0 : Int) ≤ 1024 := by omega
  have ha2 : (0 : Int) ≤ a0 := by omega
  have hml := Lib.hid hMB0.len
  rw [← Wa f, ← spendF_S f]
  rw [← Wa f] at hMB0
  have hS1 : (spendF f).S.length = 6144 := by rw [spendF_S]; exact hS
  have HML : Hid ((spendF f).mask.length = n0) := by show (spendF f).mask.length = n0; rw [Wa]; exact hml.out
  by_cases h0 : 0 < f.left
  · have hsp : spendF f = { f with done := wrap64 (f.done + 1), left := f.left - 1, dead := f.left - 1 == 0 } := by unfold spendF; rw [if_pos h0]
    have h2 := ZB (i := 6145) (.int .i64 (f.left - 1)) h1
    rw [rf_setLeft (f := { f with done := wrap64 (f.done + 1) }) hS] at h2
    have h3 := ZB (i := 6147) (.bool (f.left - 1 == 0)) h2
    rw [rf_setDead (f := { f with done := wrap64 (f.done + 1), left := f.left - 1 }) hS] at h3
    dsimp only at h3
    rw [← hsp] at h3
    have HG := Lib.hid h3
    have hf0 : 0 ≤ (spendF f).left := by rw [hsp]; show 0 ≤ f.left - 1; omega
    have hf9 : (spendF f).left ≤ 9223372036854775807 := by rw [hsp]; show f.left - 1 ≤ _; omega
    have hgr1 := Z0 (ZJ w g 6144 (.int .i64 (wrap64 (f.done + 1)))) (Z0 (ZJ _ g 6145 (.int .i64 (f.left - 1))) (ZJ _ g 6147 (.bool (f.left - 1 == 0))))
    clear h1 h2 h3 hsp
    generalize spendF f = f1 at HG hf0 hf9 hS1 hMB0 HML ⊢
    have HS := Lib.hid hS1
    clear hS1 hg hS
    go_enter Try.func65, Try.ntmps65
    go_upto_region 5 with fail
    have hB1 := hB.grownKeep0 hgr1 hBa
    have hMB := hMB0.grownKeep hgr1 (ha.away hQ)
    generalize ((w.setCell ⟨g, 6144, none⟩ (.int .i64 (wrap64 (f.done + 1)))).setCell ⟨g, 6145, none⟩ (.int .i64 (f.left - 1))).setCell ⟨g, 6147, none⟩ (.bool (f.left - 1 == 0)) = w1 at HG hgr1 hB1 hMB ⊢
    clear hB hMB0
    have hfin : ∀ wr : World, wr.heap[g]? = some (.cells (rfCells { f1 with S := layS (!f1.dead) f1.mask tb (k * 1024 + a0) n f1.S } A0 n0 c0).toArray 89 (0, 0)) → w1.grownBy wr (some g) → RF Q wr g { f1 with S := layS (!f1.dead) f1.mask tb (k * 1024 + a0) n f1.S } ∧ w.grownBy wr (some g) := fun wr h1 h2 =>
      ⟨⟨A0, n0, c0, h1, by show (layS _ _ _ _ _ _).length = 6144; rw [ZC]; exact HS.out, hf0, hf9, hMB.grownKeep h2 (ha.away hQ), hn0, hc0, ha⟩, Z0 hgr1 h2⟩
    cases hd : f1.dead
    · rw [hd] at hfin
      simp only [Bool.not_false] at hfin ⊢
      go_wp2_with fail
      go_loopw [9] (fun iv wr => ∃ (j : Nat), j ≤ n ∧ iv = .int .i64 j ∧ wr.heap[g]? = some (.cells (rfCells { f1 with S := layS (!f1.dead) f1.mask tb (k * 1024 + a0) j f1.S } A0 n0 c0).toArray 89 (0, 0)) ∧ w1.grownBy wr (some g)) (fun iv _ => n - (intOf iv).toNat)
      case atStart => exact ⟨0, by omega, rfl, HG.out, ZG _ _⟩
      case round =>
        obtain ⟨j, hj, rfl, hgk, hgr⟩ := hrel
        by_cases hlt : j < n
        · have hj1 : (j : Int) < n := by omega
          have hj0 : (0 : Int) ≤ j := by omega
          obtain ⟨b, o, y, hBe, cy, _, hy⟩ := hB1.next (k := j) hlt
          subst hBe
          have hyv : Hid (y = tb.getD j 0) := by
            have := hy.out
            show y = tb.getD j 0
            rw [List.getD_eq_getElem?_getD, this]
            rfl
          have hbg : b ≠ g := by
            have := hBa (by omega) _ rfl
            exact this
          have cy := hgr.cell cy (fun e => hbg (by injection e))
          obtain ⟨q, hqe0⟩ : ∃ q, a0 + j = q := ⟨_, rfl⟩
          have hadd : (a0 : Int) + (j : Int) = ((q : Nat) : Int) := by omega
          have hq1 : (q : Int) < 1024 := by omega
          have hq0 : (0 : Int) ≤ q := by omega
          have HQ := Lib.hid hqe0
          have hoq : k * 1024 + q < 6144 := by omega
          have hSl : k * 1024 + q < (layS (!f1.dead) f1.mask tb (k * 1024 + a0) j f1.S).length := by rw [ZC, HS.out]; omega
          have cx0 := XX (i := k * 1024 + q) hgk hSl
          obtain ⟨x, hxv⟩ : ∃ x : UInt8, Hid (x = (layS (!f1.dead) f1.mask tb (k * 1024 + a0) j f1.S).getD (k * 1024 + a0 + j) 0) := ⟨_, rfl⟩
          have cx : wr.cell? ⟨g, k * 1024 + q, none⟩ = some (.int .u8 (x.toNat : Int)) := by rw [hxv.out, show k * 1024 + a0 + j = k * 1024 + q by omega]; exact cx0
          have HGK := Lib.hid hgk
          have hdd := YQ hgk (by show (layS _ _ _ _ _ _).length = 6144; rw [ZC]; exact HS.out)
          have hmk0 := Wh hgk (by show (layS _ _ _ _ _ _).length = 6144; rw [ZC]; exact HS.out)
          dsimp only at hdd
          rw [hd] at hdd
          clear cx0 hSl hgk hy hB1 hqe0
          obtain ⟨m, hmv, hm255⟩ : ∃ m : UInt8, Hid (m = mByte (!f1.dead) f1.mask j) ∧ m = 255 := ⟨255, by show 255 = mByte (!f1.dead) f1.mask j; rw [hd]; rfl, rfl⟩
          obtain ⟨p, qq, r, hpe, hqe, hre, hrv⟩ := Xd x y m
          have hmz : (m.toNat : Int) = 255 := by rw [hm255]; rfl
          rw [hmz] at hpe hqe
          clear hm255 hmz
          go_upto_region 14 with fail
          refine ZD 19 [Is (.pointer (some ⟨g, 0, none⟩)), Is (.int .i64 (k : Int)), Is (.int .i64 (a0 : Int)), Is (.int .i64 (j : Int)), Is (.int .i64 ((q : Nat) : Int)), Is (.int .u8 (x.toNat : Int)), Is (.int .u8 255), Is (.int .u8 (p.toNat : Int)), Is (.slice (some ⟨b, o, none⟩) n c2), Is (.int .i64 (j : Int)), Is (.pointer (some ⟨b, o + j, none⟩)), Is (.int .u8 (y.toNat : Int)), Is (.int .u8 255), Is (.int .u8 (qq.toNat : Int)), Is (.int .u8 (r.toNat : Int)), Is (.pointer (some ⟨g, 0, none⟩)), Is (.pointer (some ⟨g, 0, none⟩)), Is (.pointer (some ⟨g, k * 1024, none⟩)), Is (.pointer (some ⟨g, k * 1024 + q, none⟩))]
            [[(0, none)], [(1, none)], [(2, none)], [(9, none)], [(80, some 2), (81, some 3)], [(11, none)], [(10, none)], [(83, some 5), (84, some 6)], [(3, none)], [(9, none)], [(86, some 8), (87, some 9)], [(88, some 10)], [(10, none)], [(89, some 11), (90, some 12)], [(85, some 7), (91, some 13)], [(78, some 0)], [(93, some 15)], [(94, some 16), (79, some 1)], [(95, some 17), (82, some 4)]]
            (by kernel_rfl) (by kernel_rfl) (by kernel_rfl) (by kernel_rfl)
            ⟨Zo _, Zo _, Zo _, Zo _, Zo _, Zo _, Zo _, Zo _, Zo _, Zo _, Zo _, Zo _, Zo _, Zo _, Zo _, Zo _, Zo _, Zo _, Zo _, trivial⟩ ?vc ?fin
          case vc =>
            refine ⟨?_, ?_, ?_, ?_, ?_, ?_, ?_, ?_, ?_, ?_, ?_, ?_, ?_, ?_, ?_, ?_, ?_, ?_, ?_, trivial⟩
            · exact Zl rfl (ZF (.inl rfl) fun A W _ h => h.1)
            · exact Zl rfl (ZF (.inl rfl) fun A W _ h => h.1)
            · exact Zl rfl (ZF (.inl rfl) fun A W _ h => h.1)
            · exact Zl rfl (ZF (.inl rfl) fun A W _ h => h.1)
            · refine Zl rfl (Z7 fun A' W hR h => ?_)
              obtain ⟨h80, h81, _⟩ := h
              replace h80 : A'.tmps[80]?.getD undef = _ := h80
              replace h81 : A'.tmps[81]?.getD undef = _ := h81
              refine ⟨_, W, ?_, Below.refl _ _, rfl⟩
              go_simp
              all_goals exact IntWalk.i64_in _ (by omega)
            · exact Zl rfl (ZF (.inl rfl) fun A W _ h => h.1)
            · exact Zl rfl (ZF (.inl rfl) fun A W _ h => h.1)
            · refine Zl rfl (Z7 fun A' W hR h => ?_)
              obtain ⟨h83, h84, _⟩ := h
              replace h83 : A'.tmps[83]?.getD undef = _ := h83
              replace h84 : A'.tmps[84]?.getD undef = _ := h84
              refine ⟨_, W, ?_, Below.refl _ _, rfl⟩
              go_simp
              all_goals exact hpe
            · exact Zl rfl (ZF (.inl rfl) fun A W _ h => h.1)
            · exact Zl rfl (ZF (.inl rfl) fun A W _ h => h.1)
            · refine Zl rfl (Z7 fun A' W hR h => ?_)
              obtain ⟨h86, h87, _⟩ := h
              replace h86 : A'.tmps[86]?.getD undef = _ := h86
              replace h87 : A'.tmps[87]?.getD undef = _ := h87
              refine ⟨_, W, ?_, Below.refl _ _, rfl⟩
              go_simp
              all_goals omega
            · refine Zl rfl (Z7 fun A' W hR h => ?_)
              obtain ⟨h88, _⟩ := h
              replace h88 : A'.tmps[88]?.getD undef = _ := h88
              have hc := Keeps.of_below hR _ _ cy
              refine ⟨_, W, ?_, Below.refl _ _, rfl⟩
              go_simp
            · exact Zl rfl (ZF (.inl rfl) fun A W _ h => h.1)
            · refine Zl rfl (Z7 fun A' W hR h => ?_)
              obtain ⟨h89, h90, _⟩ := h
              replace h89 : A'.tmps[89]?.getD undef = _ := h89
              replace h90 : A'.tmps[90]?.getD undef = _ := h90
              refine ⟨_, W, ?_, Below.refl _ _, rfl⟩
              go_simp
              all_goals exact hqe
            · refine Zl rfl (Z7 fun A' W hR h => ?_)
              obtain ⟨h85, h91, _⟩ := h
              replace h85 : A'.tmps[85]?.getD undef = _ := h85
              replace h91 : A'.tmps[91]?.getD undef = _ := h91
              refine ⟨_, W, ?_, Below.refl _ _, rfl⟩
              go_simp
              all_goals exact hre
            · refine Zl rfl (Z7 fun A' W hR h => ?_)
              obtain ⟨h78, _⟩ := h
              replace h78 : A'.tmps[78]?.getD undef = _ := h78
              refine ⟨_, W, ?_, Below.refl _ _, rfl⟩
              go_simp
            · refine Zl rfl (Z7 fun A' W hR h => ?_)
              obtain ⟨h93, _⟩ := h
              replace h93 : A'.tmps[93]?.getD undef = _ := h93
              refine ⟨_, W, ?_, Below.refl _ _, rfl⟩
              go_simp
            · refine Zl rfl (Z7 fun A' W hR h => ?_)
              obtain ⟨h94, h79, _⟩ := h
              replace h94 : A'.tmps[94]?.getD undef = _ := h94
              replace h79 : A'.tmps[79]?.getD undef = _ := h79
              refine ⟨_, W, ?_, Below.refl _ _, rfl⟩
              go_simp
              all_goals omega
            · refine Zl rfl (Z7 fun A' W hR h => ?_)
              obtain ⟨h95, h82, _⟩ := h
              replace h95 : A'.tmps[95]?.getD undef = _ := h95
              replace h82 : A'.tmps[82]?.getD undef = _ := h82
              refine ⟨_, W, ?_, Below.refl _ _, rfl⟩
              go_simp
              all_goals omega
          case fin =>
            intro A' W hd hs hR he hr
            obtain ⟨e0, e1, e2, e3, e4, e5, e6, e7, e8, e9, e10, e11, e12, e13, e14, e15, e16, e17, e18, _⟩ := he
            have hA' := Yn [78, 79, 80, 81, 82, 83, 84, 85, 86, 87, 88, 89, 90, 91, 92, 93, 94, 95, 96] rfl hd hs hr
            clear hd hs hr
            replace e0 : A'.tmps[78]?.getD undef = _ := e0
            replace e1 : A'.tmps[79]?.getD undef = _ := e1
            replace e2 : A'.tmps[80]?.getD undef = _ := e2
            replace e3 : A'.tmps[81]?.getD undef = _ := e3
            replace e4 : A'.tmps[82]?.getD undef = _ := e4
            replace e5 : A'.tmps[83]?.getD undef = _ := e5
            replace e6 : A'.tmps[84]?.getD undef = _ := e6
            replace e7 : A'.tmps[85]?.getD undef = _ := e7
            replace e8 : A'.tmps[86]?.getD undef = _ := e8
            replace e9 : A'.tmps[87]?.getD undef = _ := e9
            replace e10 : A'.tmps[88]?.getD undef = _ := e10
            replace e11 : A'.tmps[89]?.getD undef = _ := e11
            replace e12 : A'.tmps[90]?.getD undef = _ := e12
            replace e13 : A'.tmps[91]?.getD undef = _ := e13
            replace e14 : A'.tmps[92]?.getD undef = _ := e14
            replace e15 : A'.tmps[93]?.getD undef = _ := e15
            replace e16 : A'.tmps[94]?.getD undef = _ := e16
            replace e17 : A'.tmps[95]?.getD undef = _ := e17
            replace e18 : A'.tmps[96]?.getD undef = _ := e18
            simp only [frameAfter, List.contains_cons, List.contains_nil, Nat.reduceBEq, Bool.or_false, Bool.or_true, Bool.or_self, Bool.false_or, Bool.true_or, Bool.false_eq_true, if_true, if_false, Nat.reduceAdd, e0, e1, e2, e3, e4, e5, e6, e7, e8, e9, e10, e11, e12, e13, e14, e15, e16, e17, e18] at hA'
            subst hA'
            clear e0 e1 e2 e3 e4 e5 e6 e7 e8 e9 e10 e11 e12 e13 e14 e15 e16 e17 e18
            have hg' : W.heap[g]? = some (.cells (rfCells { f1 with S := layS (!f1.dead) f1.mask tb (k * 1024 + a0) j f1.S } A0 n0 c0).toArray 89 (0, 0)) := by rw [hR.block g (Array.getElem?_eq_some_iff.1 HGK.out).1]; exact HGK.out
            have fx : W.frozen? ⟨g, k * 1024 + q, none⟩ = false := Z6 hg'
            have cxw := Keeps.of_below hR _ _ cx
            have hg2 := ZB (i := k * 1024 + q) (.int .u8 (r.toNat : Int)) hg'
            rw [Xf _ (by show _ < (layS _ _ _ _ _ _).length; rw [ZC, HS.out]; omega)] at hg2
            have hS' : (layS (!f1.dead) f1.mask tb (k * 1024 + a0) j f1.S).set (k * 1024 + q) r = layS (!f1.dead) f1.mask tb (k * 1024 + a0) (j + 1) f1.S := by
              rw [hrv.out, hxv.out, hyv.out, hmv.out, ← HQ.out, ← Nat.add_assoc]; rfl
            dsimp only at hg2
            rw [hS'] at hg2
            have hgr' := Z0 (Z0 hgr (Z8 hR _)) (ZJ W g (k * 1024 + q) (.int .u8 (r.toNat : Int)))
            have HG2 := Lib.hid hg2
            clear hg' hg2 hS'
            go_wp2_with fail
            go_roundw
            case rel => exact ⟨j + 1, by omega, by go_num, HG2.out, hgr'⟩
            case measure => simp [intOf]; omega
        · obtain rfl : n = j := by omega
          have hdd := YQ hgk (by show (layS _ _ _ _ _ _).length = 6144; rw [ZC]; exact HS.out)
          dsimp only at hdd
          rw [hd] at hdd hgk
          have hend := hfin wr hgk hgr
          clear hgk hfin
          go_wp2_with fail
          all_goals
            go_ret
            exact ⟨rfl, hend.1, hend.2⟩
    · rw [hd] at hfin
      simp only [Bool.not_true] at hfin ⊢
      by_cases hn00 : n0 = 0
      · go_wp2_with fail
        go_loopw [9] (fun iv wr => ∃ (j : Nat), j ≤ n ∧ iv = .int .i64 j ∧ wr.heap[g]? = some (.cells (rfCells { f1 with S := layS (!f1.dead) f1.mask tb (k * 1024 + a0) j f1.S } A0 n0 c0).toArray 89 (0, 0)) ∧ w1.grownBy wr (some g)) (fun iv _ => n - (intOf iv).toNat)
        case atStart => exact ⟨0, by omega, rfl, HG.out, ZG _ _⟩
        case round =>
          obtain ⟨j, hj, rfl, hgk, hgr⟩ := hrel
          by_cases hlt : j < n
          · have hj1 : (j : Int) < n := by omega
            have hj0 : (0 : Int) ≤ j := by omega
            obtain ⟨b, o, y, hBe, cy, _, hy⟩ := hB1.next (k := j) hlt
            subst hBe
            have hyv : Hid (y = tb.getD j 0) := by
              have := hy.out
              show y = tb.getD j 0
              rw [List.getD_eq_getElem?_getD, this]
              rfl
            have hbg : b ≠ g := by
              have := hBa (by omega) _ rfl
              exact this
            have cy := hgr.cell cy (fun e => hbg (by injection e))
            obtain ⟨q, hqe0⟩ : ∃ q, a0 + j = q := ⟨_, rfl⟩
            have hadd : (a0 : Int) + (j : Int) = ((q : Nat) : Int) := by omega
            have hq1 : (q : Int) < 1024 := by omega
            have hq0 : (0 : Int) ≤ q := by omega
            have HQ := Lib.hid hqe0
            have hoq : k * 1024 + q < 6144 := by omega
            have hSl : k * 1024 + q < (layS (!f1.dead) f1.mask tb (k * 1024 + a0) j f1.S).length := by rw [ZC, HS.out]; omega
            have cx0 := XX (i := k * 1024 + q) hgk hSl
            obtain ⟨x, hxv⟩ : ∃ x : UInt8, Hid (x = (layS (!f1.dead) f1.mask tb (k * 1024 + a0) j f1.S).getD (k * 1024 + a0 + j) 0) := ⟨_, rfl⟩
            have cx : wr.cell? ⟨g, k * 1024 + q, none⟩ = some (.int .u8 (x.toNat : Int)) := by rw [hxv.out, show k * 1024 + a0 + j = k * 1024 + q by omega]; exact cx0
            have HGK := Lib.hid hgk
            have hdd := YQ hgk (by show (layS _ _ _ _ _ _).length = 6144; rw [ZC]; exact HS.out)
            have hmk0 := Wh hgk (by show (layS _ _ _ _ _ _).length = 6144; rw [ZC]; exact HS.out)
            dsimp only at hdd
            rw [hd] at hdd
            clear cx0 hSl hgk hy hB1 hqe0
            have hn00i : ¬ (0 : Int) < n0 := by omega
            obtain ⟨m, hmv, hm0⟩ : ∃ m : UInt8, Hid (m = mByte (!f1.dead) f1.mask j) ∧ m = 0 := ⟨0, by show 0 = mByte (!f1.dead) f1.mask j; unfold mByte; rw [hd, if_neg (by simp), if_pos (by rw [HML.out]; exact hn00)], rfl⟩
            obtain ⟨p, qq, r, hpe, hqe, hre, hrv⟩ := Xd x y m
            have hmz : (m.toNat : Int) = 0 := by rw [hm0]; rfl
            rw [hmz] at hpe hqe
            clear hm0 hmz
            go_upto_region 14 with fail
            refine ZD 19 [Is (.pointer (some ⟨g, 0, none⟩)), Is (.int .i64 (k : Int)), Is (.int .i64 (a0 : Int)), Is (.int .i64 (j : Int)), Is (.int .i64 ((q : Nat) : Int)), Is (.int .u8 (x.toNat : Int)), Is (.int .u8 0), Is (.int .u8 (p.toNat : Int)), Is (.slice (some ⟨b, o, none⟩) n c2), Is (.int .i64 (j : Int)), Is (.pointer (some ⟨b, o + j, none⟩)), Is (.int .u8 (y.toNat : Int)), Is (.int .u8 0), Is (.int .u8 (qq.toNat : Int)), Is (.int .u8 (r.toNat : Int)), Is (.pointer (some ⟨g, 0, none⟩)), Is (.pointer (some ⟨g, 0, none⟩)), Is (.pointer (some ⟨g, k * 1024, none⟩)), Is (.pointer (some ⟨g, k * 1024 + q, none⟩))]
              [[(0, none)], [(1, none)], [(2, none)], [(9, none)], [(80, some 2), (81, some 3)], [(11, none)], [(10, none)], [(83, some 5), (84, some 6)], [(3, none)], [(9, none)], [(86, some 8), (87, some 9)], [(88, some 10)], [(10, none)], [(89, some 11), (90, some 12)], [(85, some 7), (91, some 13)], [(78, some 0)], [(93, some 15)], [(94, some 16), (79, some 1)], [(95, some 17), (82, some 4)]]
              (by kernel_rfl) (by kernel_rfl) (by kernel_rfl) (by kernel_rfl)
              ⟨Zo _, Zo _, Zo _, Zo _, Zo _, Zo _, Zo _, Zo _, Zo _, Zo _, Zo _, Zo _, Zo _, Zo _, Zo _, Zo _, Zo _, Zo _, Zo _, trivial⟩ ?vc ?fin
            case vc =>
              refine ⟨?_, ?_, ?_, ?_, ?_, ?_, ?_, ?_, ?_, ?_, ?_, ?_, ?_, ?_, ?_, ?_, ?_, ?_, ?_, trivial⟩
              · exact Zl rfl (ZF (.inl rfl) fun A W _ h => h.1)
              · exact Zl rfl (ZF (.inl rfl) fun A W _ h => h.1)
              · exact Zl rfl (ZF (.inl rfl) fun A W _ h => h.1)
              · exact Zl rfl (ZF (.inl rfl) fun A W _ h => h.1)
              · refine Zl rfl (Z7 fun A' W hR h => ?_)
                obtain ⟨h80, h81, _⟩ := h
                replace h80 : A'.tmps[80]?.getD undef = _ := h80
                replace h81 : A'.tmps[81]?.getD undef = _ := h81
                refine ⟨_, W, ?_, Below.refl _ _, rfl⟩
                go_simp
                all_goals exact IntWalk.i64_in _ (by omega)
              · exact Zl rfl (ZF (.inl rfl) fun A W _ h => h.1)
              · exact Zl rfl (ZF (.inl rfl) fun A W _ h => h.1)
              · refine Zl rfl (Z7 fun A' W hR h => ?_)
                obtain ⟨h83, h84, _⟩ := h
                replace h83 : A'.tmps[83]?.getD undef = _ := h83
                replace h84 : A'.tmps[84]?.getD undef = _ := h84
                refine ⟨_, W, ?_, Below.refl _ _, rfl⟩
                go_simp
                all_goals exact hpe
              · exact Zl rfl (ZF (.inl rfl) fun A W _ h => h.1)
              · exact Zl rfl (ZF (.inl rfl) fun A W _ h => h.1)
              · refine Zl rfl (Z7 fun A' W hR h => ?_)
                obtain ⟨h86, h87, _⟩ := h
                replace h86 : A'.tmps[86]?.getD undef = _ := h86
                replace h87 : A'.tmps[87]?.getD undef = _ := h87
                refine ⟨_, W, ?_, Below.refl _ _, rfl⟩
                go_simp
                all_goals omega
              · refine Zl rfl (Z7 fun A' W hR h => ?_)
                obtain ⟨h88, _⟩ := h
                replace h88 : A'.tmps[88]?.getD undef = _ := h88
                have hc := Keeps.of_below hR _ _ cy
                refine ⟨_, W, ?_, Below.refl _ _, rfl⟩
                go_simp
              · exact Zl rfl (ZF (.inl rfl) fun A W _ h => h.1)
              · refine Zl rfl (Z7 fun A' W hR h => ?_)
                obtain ⟨h89, h90, _⟩ := h
                replace h89 : A'.tmps[89]?.getD undef = _ := h89
                replace h90 : A'.tmps[90]?.getD undef = _ := h90
                refine ⟨_, W, ?_, Below.refl _ _, rfl⟩
                go_simp
                all_goals exact hqe
              · refine Zl rfl (Z7 fun A' W hR h => ?_)
                obtain ⟨h85, h91, _⟩ := h
                replace h85 : A'.tmps[85]?.getD undef = _ := h85
                replace h91 : A'.tmps[91]?.getD undef = _ := h91
                refine ⟨_, W, ?_, Below.refl _ _, rfl⟩
                go_simp
                all_goals exact hre
              · refine Zl rfl (Z7 fun A' W hR h => ?_)
                obtain ⟨h78, _⟩ := h
                replace h78 : A'.tmps[78]?.getD undef = _ := h78
                refine ⟨_, W, ?_, Below.refl _ _, rfl⟩
                go_simp
              · refine Zl rfl (Z7 fun A' W hR h => ?_)
                obtain ⟨h93, _⟩ := h
                replace h93 : A'.tmps[93]?.getD undef = _ := h93
                refine ⟨_, W, ?_, Below.refl _ _, rfl⟩
                go_simp
              · refine Zl rfl (Z7 fun A' W hR h => ?_)
                obtain ⟨h94, h79, _⟩ := h
                replace h94 : A'.tmps[94]?.getD undef = _ := h94
                replace h79 : A'.tmps[79]?.getD undef = _ := h79
                refine ⟨_, W, ?_, Below.refl _ _, rfl⟩
                go_simp
                all_goals omega
              · refine Zl rfl (Z7 fun A' W hR h => ?_)
                obtain ⟨h95, h82, _⟩ := h
                replace h95 : A'.tmps[95]?.getD undef = _ := h95
                replace h82 : A'.tmps[82]?.getD undef = _ := h82
                refine ⟨_, W, ?_, Below.refl _ _, rfl⟩
                go_simp
                all_goals omega
            case fin =>
              intro A' W hd hs hR he hr
              obtain ⟨e0, e1, e2, e3, e4, e5, e6, e7, e8, e9, e10, e11, e12, e13, e14, e15, e16, e17, e18, _⟩ := he
              have hA' := Yn [78, 79, 80, 81, 82, 83, 84, 85, 86, 87, 88, 89, 90, 91, 92, 93, 94, 95, 96] rfl hd hs hr
              clear hd hs hr
              replace e0 : A'.tmps[78]?.getD undef = _ := e0
              replace e1 : A'.tmps[79]?.getD undef = _ := e1
              replace e2 : A'.tmps[80]?.getD undef = _ := e2
              replace e3 : A'.tmps[81]?.getD undef = _ := e3
              replace e4 : A'.tmps[82]?.getD undef = _ := e4
              replace e5 : A'.tmps[83]?.getD undef = _ := e5
              replace e6 : A'.tmps[84]?.getD undef = _ := e6
              replace e7 : A'.tmps[85]?.getD undef = _ := e7
              replace e8 : A'.tmps[86]?.getD undef = _ := e8
              replace e9 : A'.tmps[87]?.getD undef = _ := e9
              replace e10 : A'.tmps[88]?.getD undef = _ := e10
              replace e11 : A'.tmps[89]?.getD undef = _ := e11
              replace e12 : A'.tmps[90]?.getD undef = _ := e12
              replace e13 : A'.tmps[91]?.getD undef = _ := e13
              replace e14 : A'.tmps[92]?.getD undef = _ := e14
              replace e15 : A'.tmps[93]?.getD undef = _ := e15
              replace e16 : A'.tmps[94]?.getD undef = _ := e16
              replace e17 : A'.tmps[95]?.getD undef = _ := e17
              replace e18 : A'.tmps[96]?.getD undef = _ := e18
              simp only [frameAfter, List.contains_cons, List.contains_nil, Nat.reduceBEq, Bool.or_false, Bool.or_true, Bool.or_self, Bool.false_or, Bool.true_or, Bool.false_eq_true, if_true, if_false, Nat.reduceAdd, e0, e1, e2, e3, e4, e5, e6, e7, e8, e9, e10, e11, e12, e13, e14, e15, e16, e17, e18] at hA'
              subst hA'
              clear e0 e1 e2 e3 e4 e5 e6 e7 e8 e9 e10 e11 e12 e13 e14 e15 e16 e17 e18
              have hg' : W.heap[g]? = some (.cells (rfCells { f1 with S := layS (!f1.dead) f1.mask tb (k * 1024 + a0) j f1.S } A0 n0 c0).toArray 89 (0, 0)) := by rw [hR.block g (Array.getElem?_eq_some_iff.1 HGK.out).1]; exact HGK.out
              have fx : W.frozen? ⟨g, k * 1024 + q, none⟩ = false := Z6 hg'
              have cxw := Keeps.of_below hR _ _ cx
              have hg2 := ZB (i := k * 1024 + q) (.int .u8 (r.toNat : Int)) hg'
              rw [Xf _ (by show _ < (layS _ _ _ _ _ _).length; rw [ZC, HS.out]; omega)] at hg2
              have hS' : (layS (!f1.dead) f1.mask tb (k * 1024 + a0) j f1.S).set (k * 1024 + q) r = layS (!f1.dead) f1.mask tb (k * 1024 + a0) (j + 1) f1.S := by
                rw [hrv.out, hxv.out, hyv.out, hmv.out, ← HQ.out, ← Nat.add_assoc]; rfl
              dsimp only at hg2
              rw [hS'] at hg2
              have hgr' := Z0 (Z0 hgr (Z8 hR _)) (ZJ W g (k * 1024 + q) (.int .u8 (r.toNat : Int)))
              have HG2 := Lib.hid hg2
              clear hg' hg2 hS'
              go_wp2_with fail
              go_roundw
              case rel => exact ⟨j + 1, by omega, by go_num, HG2.out, hgr'⟩
              case measure => simp [intOf]; omega
          · obtain rfl : n = j := by omega
            have hdd := YQ hgk (by show (layS _ _ _ _ _ _).length = 6144; rw [ZC]; exact HS.out)
            dsimp only at hdd
            rw [hd] at hdd hgk
            have hend := hfin wr hgk hgr
            clear hgk hfin
            go_wp2_with fail
            all_goals
              go_ret
              exact ⟨rfl, hend.1, hend.2⟩
      · have hn0p : 0 < n0 := by omega
        have hn0i : (0 : Int) < n0 := by omega
        go_wp2_with fail
        go_loopw [9] (fun iv wr => ∃ (j : Nat), j ≤ n ∧ iv = .int .i64 j ∧ wr.heap[g]? = some (.cells (rfCells { f1 with S := layS (!f1.dead) f1.mask tb (k * 1024 + a0) j f1.S } A0 n0 c0).toArray 89 (0, 0)) ∧ w1.grownBy wr (some g)) (fun iv _ => n - (intOf iv).toNat)
        case atStart => exact ⟨0, by omega, rfl, HG.out, ZG _ _⟩
        case round =>
          obtain ⟨j, hj, rfl, hgk, hgr⟩ := hrel
          by_cases hlt : j < n
          · have hj1 : (j : Int) < n := by omega
            have hj0 : (0 : Int) ≤ j := by omega
            obtain ⟨b, o, y, hBe, cy, _, hy⟩ := hB1.next (k := j) hlt
            subst hBe
            have hyv : Hid (y = tb.getD j 0) := by
              have := hy.out
              show y = tb.getD j 0
              rw [List.getD_eq_getElem?_getD, this]
              rfl
            have hbg : b ≠ g := by
              have := hBa (by omega) _ rfl
              exact this
            have cy := hgr.cell cy (fun e => hbg (by injection e))
            obtain ⟨q, hqe0⟩ : ∃ q, a0 + j = q := ⟨_, rfl⟩
            have hadd : (a0 : Int) + (j : Int) = ((q : Nat) : Int) := by omega
            have hq1 : (q : Int) < 1024 := by omega
            have hq0 : (0 : Int) ≤ q := by omega
            have HQ := Lib.hid hqe0
            have hoq : k * 1024 + q < 6144 := by omega
            have hSl : k * 1024 + q < (layS (!f1.dead) f1.mask tb (k * 1024 + a0) j f1.S).length := by rw [ZC, HS.out]; omega
            have cx0 := XX (i := k * 1024 + q) hgk hSl
            obtain ⟨x, hxv⟩ : ∃ x : UInt8, Hid (x = (layS (!f1.dead) f1.mask tb (k * 1024 + a0) j f1.S).getD (k * 1024 + a0 + j) 0) := ⟨_, rfl⟩
            have cx : wr.cell? ⟨g, k * 1024 + q, none⟩ = some (.int .u8 (x.toNat : Int)) := by rw [hxv.out, show k * 1024 + a0 + j = k * 1024 + q by omega]; exact cx0
            have HGK := Lib.hid hgk
            have hdd := YQ hgk (by show (layS _ _ _ _ _ _).length = 6144; rw [ZC]; exact HS.out)
            have hmk0 := Wh hgk (by show (layS _ _ _ _ _ _).length = 6144; rw [ZC]; exact HS.out)
            dsimp only at hdd
            rw [hd] at hdd
            clear cx0 hSl hgk hy hB1 hqe0
            have hkm : j % n0 < n0 := Nat.mod_lt _ hn0p
            have hMBr := hMB.grownKeep hgr (ha.away hQ)
            obtain ⟨mb, mo, m, hAe, cm, _, hm2'⟩ := hMBr.next (k := j % n0) hkm
            have hmv : Hid (m = mByte (!f1.dead) f1.mask j) := by
              show m = mByte (!f1.dead) f1.mask j
              unfold mByte
              rw [hd, if_neg (by simp), if_neg (by rw [HML.out]; omega), HML.out, List.getD_eq_getElem?_getD, hm2'.out]
              rfl
            clear hm2' hMBr
            obtain ⟨p, qq, r, hpe, hqe, hre, hrv⟩ := Xd x y m
            have htm : Int.tmod (j : Int) (n0 : Int) = ((j % n0 : Nat) : Int) := rfl
            generalize hkm' : j % n0 = km at hkm cm htm
            have hkm0 : (0 : Int) ≤ km := by omega
            have hkm1 : (km : Int) < n0 := by omega
            clear hkm'
            subst hAe
            go_upto_region 12 with fail
            refine Ys [Is (.pointer (some ⟨g, 0, none⟩)), Is (.pointer (some ⟨g, 0, none⟩)), Is (.pointer (some ⟨g, 6146, none⟩)), Is (.slice (some ⟨mb, mo, none⟩) n0 c0), Is (.int .i64 (j : Int)), Is (.pointer (some ⟨g, 0, none⟩)), Is (.pointer (some ⟨g, 0, none⟩)), Is (.pointer (some ⟨g, 6146, none⟩)), Is (.slice (some ⟨mb, mo, none⟩) n0 c0), Is (.int .i64 (n0 : Int)), Is (.int .i64 (km : Int)), Is (.pointer (some ⟨mb, mo + km, none⟩)), Is (.int .u8 (m.toNat : Int)), Is (.int .u8 (m.toNat : Int))]
              [[(0, none)], [(55, some 0)], [(56, some 1)], [(57, some 2)], [(9, none)], [(0, none)], [(60, some 5)], [(61, some 6)], [(62, some 7)], [(63, some 8)], [(59, some 4), (64, some 9)], [(58, some 3), (65, some 10)], [(66, some 11)], [(67, some 12)]]
              (by kernel_rfl) (by kernel_rfl) (by kernel_rfl)
              ⟨Zo _, Zo _, Zo _, Zo _, Zo _, Zo _, Zo _, Zo _, Zo _, Zo _, Zo _, Zo _, Zo _, Zo _, trivial⟩ ?vc ?fin
            case vc =>
              refine ⟨?_, ?_, ?_, ?_, ?_, ?_, ?_, ?_, ?_, ?_, ?_, ?_, ?_, ?_, trivial⟩
              · exact Zl rfl (ZF (.inl rfl) fun A W _ h => h.1)
              · refine Zl rfl (Z7 fun A' W hR h => ?_)
                obtain ⟨h55, _⟩ := h
                replace h55 : A'.tmps[55]?.getD undef = _ := h55
                refine ⟨_, W, ?_, Below.refl _ _, rfl⟩
                go_simp
              · refine Zl rfl (Z7 fun A' W hR h => ?_)
                obtain ⟨h56, _⟩ := h
                replace h56 : A'.tmps[56]?.getD undef = _ := h56
                refine ⟨_, W, ?_, Below.refl _ _, rfl⟩
                go_simp
              · refine Zl rfl (Z7 fun A' W hR h => ?_)
                obtain ⟨h57, _⟩ := h
                replace h57 : A'.tmps[57]?.getD undef = _ := h57
                have hc := Keeps.of_below hR _ _ hmk0
                refine ⟨_, W, ?_, Below.refl _ _, rfl⟩
                go_simp
              · exact Zl rfl (ZF (.inl rfl) fun A W _ h => h.1)
              · exact Zl rfl (ZF (.inl rfl) fun A W _ h => h.1)
              · refine Zl rfl (Z7 fun A' W hR h => ?_)
                obtain ⟨h60, _⟩ := h
                replace h60 : A'.tmps[60]?.getD undef = _ := h60
                refine ⟨_, W, ?_, Below.refl _ _, rfl⟩
                go_simp
              · refine Zl rfl (Z7 fun A' W hR h => ?_)
                obtain ⟨h61, _⟩ := h
                replace h61 : A'.tmps[61]?.getD undef = _ := h61
                refine ⟨_, W, ?_, Below.refl _ _, rfl⟩
                go_simp
              · refine Zl rfl (Z7 fun A' W hR h => ?_)
                obtain ⟨h62, _⟩ := h
                replace h62 : A'.tmps[62]?.getD undef = _ := h62
                have hc := Keeps.of_below hR _ _ hmk0
                refine ⟨_, W, ?_, Below.refl _ _, rfl⟩
                go_simp
              · refine Zl rfl (Z7 fun A' W hR h => ?_)
                obtain ⟨h63, _⟩ := h
                replace h63 : A'.tmps[63]?.getD undef = _ := h63
                refine ⟨_, W, ?_, Below.refl _ _, rfl⟩
                go_simp
              · refine Zl rfl (Z7 fun A' W hR h => ?_)
                obtain ⟨h59, h64, _⟩ := h
                replace h59 : A'.tmps[59]?.getD undef = _ := h59
                replace h64 : A'.tmps[64]?.getD undef = _ := h64
                refine ⟨_, W, ?_, Below.refl _ _, rfl⟩
                go_simp
                all_goals exact IntWalk.i64_in _ (by omega)
              · refine Zl rfl (Z7 fun A' W hR h => ?_)
                obtain ⟨h58, h65, _⟩ := h
                replace h58 : A'.tmps[58]?.getD undef = _ := h58
                replace h65 : A'.tmps[65]?.getD undef = _ := h65
                refine ⟨_, W, ?_, Below.refl _ _, rfl⟩
                go_simp
                all_goals omega
              · refine Zl rfl (Z7 fun A' W hR h => ?_)
                obtain ⟨h66, _⟩ := h
                replace h66 : A'.tmps[66]?.getD undef = _ := h66
                have hc := Keeps.of_below hR _ _ cm
                refine ⟨_, W, ?_, Below.refl _ _, rfl⟩
                go_simp
              · exact Zl rfl (ZF (.inr rfl) fun A W _ h => h.1)
            case fin =>
              intro A' W hd hs hR he hr
              obtain ⟨e0, e1, e2, e3, e4, e5, e6, e7, e8, e9, e10, e11, e12, e13, _⟩ := he
              have hA' := Yn [55, 56, 57, 58, 59, 60, 61, 62, 63, 64, 65, 66, 67, 10] rfl hd hs hr
              clear hd hs hr
              replace e0 : A'.tmps[55]?.getD undef = _ := e0
              replace e1 : A'.tmps[56]?.getD undef = _ := e1
              replace e2 : A'.tmps[57]?.getD undef = _ := e2
              replace e3 : A'.tmps[58]?.getD undef = _ := e3
              replace e4 : A'.tmps[59]?.getD undef = _ := e4
              replace e5 : A'.tmps[60]?.getD undef = _ := e5
              replace e6 : A'.tmps[61]?.getD undef = _ := e6
              replace e7 : A'.tmps[62]?.getD undef = _ := e7
              replace e8 : A'.tmps[63]?.getD undef = _ := e8
              replace e9 : A'.tmps[64]?.getD undef = _ := e9
              replace e10 : A'.tmps[65]?.getD undef = _ := e10
              replace e11 : A'.tmps[66]?.getD undef = _ := e11
              replace e12 : A'.tmps[67]?.getD undef = _ := e12
              replace e13 : A'.tmps[10]?.getD undef = _ := e13
              simp only [frameAfter, List.contains_cons, List.contains_nil, Nat.reduceBEq, Bool.or_false, Bool.or_true, Bool.or_self, Bool.false_or, Bool.true_or, Bool.false_eq_true, if_true, if_false, Nat.reduceAdd, e0, e1, e2, e3, e4, e5, e6, e7, e8, e9, e10, e11, e12, e13] at hA'
              subst hA'
              clear e0 e1 e2 e3 e4 e5 e6 e7 e8 e9 e10 e11 e12 e13
              have HGK : Hid (W.heap[g]? = some (.cells (rfCells { f1 with S := layS (!f1.dead) f1.mask tb (k * 1024 + a0) j f1.S } (some ⟨mb, mo, none⟩) n0 c0).toArray 89 (0, 0))) := by
                show W.heap[g]? = _
                rw [hR.block g (Array.getElem?_eq_some_iff.1 HGK.out).1]; exact HGK.out
              have cx := Keeps.of_below hR _ _ cx
              have cy := Keeps.of_below hR _ _ cy
              have hgr := Z0 hgr (Z8 hR _)
              clear hR cm hmk0 hdd
              go_upto_region 14 with fail
              refine ZD 19 [Is (.pointer (some ⟨g, 0, none⟩)), Is (.int .i64 (k : Int)), Is (.int .i64 (a0 : Int)), Is (.int .i64 (j : Int)), Is (.int .i64 ((q : Nat) : Int)), Is (.int .u8 (x.toNat : Int)), Is (.int .u8 (m.toNat : Int)), Is (.int .u8 (p.toNat : Int)), Is (.slice (some ⟨b, o, none⟩) n c2), Is (.int .i64 (j : Int)), Is (.pointer (some ⟨b, o + j, none⟩)), Is (.int .u8 (y.toNat : Int)), Is (.int .u8 (m.toNat : Int)), Is (.int .u8 (qq.toNat : Int)), Is (.int .u8 (r.toNat : Int)), Is (.pointer (some ⟨g, 0, none⟩)), Is (.pointer (some ⟨g, 0, none⟩)), Is (.pointer (some ⟨g, k * 1024, none⟩)), Is (.pointer (some ⟨g, k * 1024 + q, none⟩))]
                [[(0, none)], [(1, none)], [(2, none)], [(9, none)], [(80, some 2), (81, some 3)], [(11, none)], [(10, none)], [(83, some 5), (84, some 6)], [(3, none)], [(9, none)], [(86, some 8), (87, some 9)], [(88, some 10)], [(10, none)], [(89, some 11), (90, some 12)], [(85, some 7), (91, some 13)], [(78, some 0)], [(93, some 15)], [(94, some 16), (79, some 1)], [(95, some 17), (82, some 4)]]
                (by kernel_rfl) (by kernel_rfl) (by kernel_rfl) (by kernel_rfl)
                ⟨Zo _, Zo _, Zo _, Zo _, Zo _, Zo _, Zo _, Zo _, Zo _, Zo _, Zo _, Zo _, Zo _, Zo _, Zo _, Zo _, Zo _, Zo _, Zo _, trivial⟩ ?vc ?fin
              case vc =>
                refine ⟨?_, ?_, ?_, ?_, ?_, ?_, ?_, ?_, ?_, ?_, ?_, ?_, ?_, ?_, ?_, ?_, ?_, ?_, ?_, trivial⟩
                · exact Zl rfl (ZF (.inl rfl) fun A W _ h => h.1)
                · exact Zl rfl (ZF (.inl rfl) fun A W _ h => h.1)
                · exact Zl rfl (ZF (.inl rfl) fun A W _ h => h.1)
                · exact Zl rfl (ZF (.inl rfl) fun A W _ h => h.1)
                · refine Zl rfl (Z7 fun A' W hR h => ?_)
                  obtain ⟨h80, h81, _⟩ := h
                  replace h80 : A'.tmps[80]?.getD undef = _ := h80
                  replace h81 : A'.tmps[81]?.getD undef = _ := h81
                  refine ⟨_, W, ?_, Below.refl _ _, rfl⟩
                  go_simp
                  all_goals exact IntWalk.i64_in _ (by omega)
                · exact Zl rfl (ZF (.inl rfl) fun A W _ h => h.1)
                · exact Zl rfl (ZF (.inl rfl) fun A W _ h => h.1)
                · refine Zl rfl (Z7 fun A' W hR h => ?_)
                  obtain ⟨h83, h84, _⟩ := h
                  replace h83 : A'.tmps[83]?.getD undef = _ := h83
                  replace h84 : A'.tmps[84]?.getD undef = _ := h84
                  refine ⟨_, W, ?_, Below.refl _ _, rfl⟩
                  go_simp
                  all_goals exact hpe
                · exact Zl rfl (ZF (.inl rfl) fun A W _ h => h.1)
                · exact Zl rfl (ZF (.inl rfl) fun A W _ h => h.1)
                · refine Zl rfl (Z7 fun A' W hR h => ?_)
                  obtain ⟨h86, h87, _⟩ := h
                  replace h86 : A'.tmps[86]?.getD undef = _ := h86
                  replace h87 : A'.tmps[87]?.getD undef = _ := h87
                  refine ⟨_, W, ?_, Below.refl _ _, rfl⟩
                  go_simp
                  all_goals omega
                · refine Zl rfl (Z7 fun A' W hR h => ?_)
                  obtain ⟨h88, _⟩ := h
                  replace h88 : A'.tmps[88]?.getD undef = _ := h88
                  have hc := Keeps.of_below hR _ _ cy
                  refine ⟨_, W, ?_, Below.refl _ _, rfl⟩
                  go_simp
                · exact Zl rfl (ZF (.inl rfl) fun A W _ h => h.1)
                · refine Zl rfl (Z7 fun A' W hR h => ?_)
                  obtain ⟨h89, h90, _⟩ := h
                  replace h89 : A'.tmps[89]?.getD undef = _ := h89
                  replace h90 : A'.tmps[90]?.getD undef = _ := h90
                  refine ⟨_, W, ?_, Below.refl _ _, rfl⟩
                  go_simp
                  all_goals exact hqe
                · refine Zl rfl (Z7 fun A' W hR h => ?_)
                  obtain ⟨h85, h91, _⟩ := h
                  replace h85 : A'.tmps[85]?.getD undef = _ := h85
                  replace h91 : A'.tmps[91]?.getD undef = _ := h91
                  refine ⟨_, W, ?_, Below.refl _ _, rfl⟩
                  go_simp
                  all_goals exact hre
                · refine Zl rfl (Z7 fun A' W hR h => ?_)
                  obtain ⟨h78, _⟩ := h
                  replace h78 : A'.tmps[78]?.getD undef = _ := h78
                  refine ⟨_, W, ?_, Below.refl _ _, rfl⟩
                  go_simp
                · refine Zl rfl (Z7 fun A' W hR h => ?_)
                  obtain ⟨h93, _⟩ := h
                  replace h93 : A'.tmps[93]?.getD undef = _ := h93
                  refine ⟨_, W, ?_, Below.refl _ _, rfl⟩
                  go_simp
                · refine Zl rfl (Z7 fun A' W hR h => ?_)
                  obtain ⟨h94, h79, _⟩ := h
                  replace h94 : A'.tmps[94]?.getD undef = _ := h94
                  replace h79 : A'.tmps[79]?.getD undef = _ := h79
                  refine ⟨_, W, ?_, Below.refl _ _, rfl⟩
                  go_simp
                  all_goals omega
                · refine Zl rfl (Z7 fun A' W hR h => ?_)
                  obtain ⟨h95, h82, _⟩ := h
                  replace h95 : A'.tmps[95]?.getD undef = _ := h95
                  replace h82 : A'.tmps[82]?.getD undef = _ := h82
                  refine ⟨_, W, ?_, Below.refl _ _, rfl⟩
                  go_simp
                  all_goals omega
              case fin =>
                intro A' W hd hs hR he hr
                obtain ⟨e0, e1, e2, e3, e4, e5, e6, e7, e8, e9, e10, e11, e12, e13, e14, e15, e16, e17, e18, _⟩ := he
                have hA' := Yn [78, 79, 80, 81, 82, 83, 84, 85, 86, 87, 88, 89, 90, 91, 92, 93, 94, 95, 96] rfl hd hs hr
                clear hd hs hr
                replace e0 : A'.tmps[78]?.getD undef = _ := e0
                replace e1 : A'.tmps[79]?.getD undef = _ := e1
                replace e2 : A'.tmps[80]?.getD undef = _ := e2
                replace e3 : A'.tmps[81]?.getD undef = _ := e3
                replace e4 : A'.tmps[82]?.getD undef = _ := e4
                replace e5 : A'.tmps[83]?.getD undef = _ := e5
                replace e6 : A'.tmps[84]?.getD undef = _ := e6
                replace e7 : A'.tmps[85]?.getD undef = _ := e7
                replace e8 : A'.tmps[86]?.getD undef = _ := e8
                replace e9 : A'.tmps[87]?.getD undef = _ := e9
                replace e10 : A'.tmps[88]?.getD undef = _ := e10
                replace e11 : A'.tmps[89]?.getD undef = _ := e11
                replace e12 : A'.tmps[90]?.getD undef = _ := e12
                replace e13 : A'.tmps[91]?.getD undef = _ := e13
                replace e14 : A'.tmps[92]?.getD undef = _ := e14
                replace e15 : A'.tmps[93]?.getD undef = _ := e15
                replace e16 : A'.tmps[94]?.getD undef = _ := e16
                replace e17 : A'.tmps[95]?.getD undef = _ := e17
                replace e18 : A'.tmps[96]?.getD undef = _ := e18
                simp only [frameAfter, List.contains_cons, List.contains_nil, Nat.reduceBEq, Bool.or_false, Bool.or_true, Bool.or_self, Bool.false_or, Bool.true_or, Bool.false_eq_true, if_true, if_false, Nat.reduceAdd, e0, e1, e2, e3, e4, e5, e6, e7, e8, e9, e10, e11, e12, e13, e14, e15, e16, e17, e18] at hA'
                subst hA'
                clear e0 e1 e2 e3 e4 e5 e6 e7 e8 e9 e10 e11 e12 e13 e14 e15 e16 e17 e18
                have hg' : W.heap[g]? = some (.cells (rfCells { f1 with S := layS (!f1.dead) f1.mask tb (k * 1024 + a0) j f1.S } (some ⟨mb, mo, none⟩) n0 c0).toArray 89 (0, 0)) := by rw [hR.block g (Array.getElem?_eq_some_iff.1 HGK.out).1]; exact HGK.out
                have fx : W.frozen? ⟨g, k * 1024 + q, none⟩ = false := Z6 hg'
                have cxw := Keeps.of_below hR _ _ cx
                have hg2 := ZB (i := k * 1024 + q) (.int .u8 (r.toNat : Int)) hg'
                rw [Xf _ (by show _ < (layS _ _ _ _ _ _).length; rw [ZC, HS.out]; omega)] at hg2
                have hS' : (layS (!f1.dead) f1.mask tb (k * 1024 + a0) j f1.S).set (k * 1024 + q) r = layS (!f1.dead) f1.mask tb (k * 1024 + a0) (j + 1) f1.S := by
                  rw [hrv.out, hxv.out, hyv.out, hmv.out, ← HQ.out, ← Nat.add_assoc]; rfl
                dsimp only at hg2
                rw [hS'] at hg2
                have hgr' := Z0 (Z0 hgr (Z8 hR _)) (ZJ W g (k * 1024 + q) (.int .u8 (r.toNat : Int)))
                have HG2 := Lib.hid hg2
                clear hg' hg2 hS'
                go_wp2_with fail
                go_roundw
                case rel => exact ⟨j + 1, by omega, by go_num, HG2.out, hgr'⟩
                case measure => simp [intOf]; omega
          · obtain rfl : n = j := by omega
            have hdd := YQ hgk (by show (layS _ _ _ _ _ _).length = 6144; rw [ZC]; exact HS.out)
            dsimp only at hdd
            rw [hd] at hdd hgk
            have hend := hfin wr hgk hgr
            clear hgk hfin
            go_wp2_with fail
            all_goals
              go_ret
              exact ⟨rfl, hend.1, hend.2⟩
  · have hsp : spendF f = { f with done := wrap64 (f.done + 1) } := by unfold spendF; rw [if_neg h0]
    rw [← hsp] at h1
    have HG := Lib.hid h1
    have hf0 : 0 ≤ (spendF f).left := by rw [hsp]; exact hl0
    have hf9 : (spendF f).left ≤ 9223372036854775807 := by rw [hsp]; exact hl1
    have hgr1 := ZJ w g 6144 (.int .i64 (wrap64 (f.done + 1)))
    clear h1 hsp
    generalize spendF f = f1 at HG hf0 hf9 hS1 hMB0 HML ⊢
    have HS := Lib.hid hS1
    clear hS1 hg hS
    go_enter Try.func65, Try.ntmps65
    go_upto_region 5 with fail
    have hB1 := hB.grownKeep0 hgr1 hBa
    have hMB := hMB0.grownKeep hgr1 (ha.away hQ)
    generalize w.setCell ⟨g, 6144, none⟩ (.int .i64 (wrap64 (f.done + 1))) = w1 at HG hgr1 hB1 hMB ⊢
    clear hB hMB0
    have hfin : ∀ wr : World, wr.heap[g]? = some (.cells (rfCells { f1 with S := layS (!f1.dead) f1.mask tb (k * 1024 + a0) n f1.S } A0 n0 c0).toArray 89 (0, 0)) → w1.grownBy wr (some g) → RF Q wr g { f1 with S := layS (!f1.dead) f1.mask tb (k * 1024 + a0) n f1.S } ∧ w.grownBy wr (some g) := fun wr h1 h2 =>
      ⟨⟨A0, n0, c0, h1, by show (layS _ _ _ _ _ _).length = 6144; rw [ZC]; exact HS.out, hf0, hf9, hMB.grownKeep h2 (ha.away hQ), hn0, hc0, ha⟩, Z0 hgr1 h2⟩
    cases hd : f1.dead
    · rw [hd] at hfin
      simp only [Bool.not_false] at hfin ⊢
      go_wp2_with fail
      go_loopw [9] (fun iv wr => ∃ (j : Nat), j ≤ n ∧ iv = .int .i64 j ∧ wr.heap[g]? = some (.cells (rfCells { f1 with S := layS (!f1.dead) f1.mask tb (k * 1024 + a0) j f1.S } A0 n0 c0).toArray 89 (0, 0)) ∧ w1.grownBy wr (some g)) (fun iv _ => n - (intOf iv).toNat)
      case atStart => exact ⟨0, by omega, rfl, HG.out, ZG _ _⟩
      case round =>
        obtain ⟨j, hj, rfl, hgk, hgr⟩ := hrel
        by_cases hlt : j < n
        · have hj1 : (j : Int) < n := by omega
          have hj0 : (0 : Int) ≤ j := by omega
          obtain ⟨b, o, y, hBe, cy, _, hy⟩ := hB1.next (k := j) hlt
          subst hBe
          have hyv : Hid (y = tb.getD j 0) := by
            have := hy.out
            show y = tb.getD j 0
            rw [List.getD_eq_getElem?_getD, this]
            rfl
          have hbg : b ≠ g := by
            have := hBa (by omega) _ rfl
            exact this
          have cy := hgr.cell cy (fun e => hbg (by injection e))
          obtain ⟨q, hqe0⟩ : ∃ q, a0 + j = q := ⟨_, rfl⟩
          have hadd : (a0 : Int) + (j : Int) = ((q : Nat) : Int) := by omega
          have hq1 : (q : Int) < 1024 := by omega
          have hq0 : (0 : Int) ≤ q := by omega
          have HQ := Lib.hid hqe0
          have hoq : k * 1024 + q < 6144 := by omega
          have hSl : k * 1024 + q < (layS (!f1.dead) f1.mask tb (k * 1024 + a0) j f1.S).length := by rw [ZC, HS.out]; omega
          have cx0 := XX (i := k * 1024 + q) hgk hSl
          obtain ⟨x, hxv⟩ : ∃ x : UInt8, Hid (x = (layS (!f1.dead) f1.mask tb (k * 1024 + a0) j f1.S).getD (k * 1024 + a0 + j) 0) := ⟨_, rfl⟩
          have cx : wr.cell? ⟨g, k * 1024 + q, none⟩ = some (.int .u8 (x.toNat : Int)) := by rw [hxv.out, show k * 1024 + a0 + j = k * 1024 + q by omega]; exact cx0
          have HGK := Lib.hid hgk
          have hdd := YQ hgk (by show (layS _ _ _ _ _ _).length = 6144; rw [ZC]; exact HS.out)
          have hmk0 := Wh hgk (by show (layS _ _ _ _ _ _).length = 6144; rw [ZC]; exact HS.out)
          dsimp only at hdd
          rw [hd] at hdd
          clear cx0 hSl hgk hy hB1 hqe0
          obtain ⟨m, hmv, hm255⟩ : ∃ m : UInt8, Hid (m = mByte (!f1.dead) f1.mask j) ∧ m = 255 := ⟨255, by show 255 = mByte (!f1.dead) f1.mask j; rw [hd]; rfl, rfl⟩
          obtain ⟨p, qq, r, hpe, hqe, hre, hrv⟩ := Xd x y m
          have hmz : (m.toNat : Int) = 255 := by rw [hm255]; rfl
          rw [hmz] at hpe hqe
          clear hm255 hmz
          go_upto_region 14 with fail
          refine ZD 19 [Is (.pointer (some ⟨g, 0, none⟩)), Is (.int .i64 (k : Int)), Is (.int .i64 (a0 : Int)), Is (.int .i64 (j : Int)), Is (.int .i64 ((q : Nat) : Int)), Is (.int .u8 (x.toNat : Int)), Is (.int .u8 255), Is (.int .u8 (p.toNat : Int)), Is (.slice (some ⟨b, o, none⟩) n c2), Is (.int .i64 (j : Int)), Is (.pointer (some ⟨b, o + j, none⟩)), Is (.int .u8 (y.toNat : Int)), Is (.int .u8 255), Is (.int .u8 (qq.toNat : Int)), Is (.int .u8 (r.toNat : Int)), Is (.pointer (some ⟨g, 0, none⟩)), Is (.pointer (some ⟨g, 0, none⟩)), Is (.pointer (some ⟨g, k * 1024, none⟩)), Is (.pointer (some ⟨g, k * 1024 + q, none⟩))]
            [[(0, none)], [(1, none)], [(2, none)], [(9, none)], [(80, some 2), (81, some 3)], [(11, none)], [(10, none)], [(83, some 5), (84, some 6)], [(3, none)], [(9, none)], [(86, some 8), (87, some 9)], [(88, some 10)], [(10, none)], [(89, some 11), (90, some 12)], [(85, some 7), (91, some 13)], [(78, some 0)], [(93, some 15)], [(94, some 16), (79, some 1)], [(95, some 17), (82, some 4)]]
            (by kernel_rfl) (by kernel_rfl) (by kernel_rfl) (by kernel_rfl)
            ⟨Zo _, Zo _, Zo _, Zo _, Zo _, Zo _, Zo _, Zo _, Zo _, Zo _, Zo _, Zo _, Zo _, Zo _, Zo _, Zo _, Zo _, Zo _, Zo _, trivial⟩ ?vc ?fin
          case vc =>
            refine ⟨?_, ?_, ?_, ?_, ?_, ?_, ?_, ?_, ?_, ?_, ?_, ?_, ?_, ?_, ?_, ?_, ?_, ?_, ?_, trivial⟩
            · exact Zl rfl (ZF (.inl rfl) fun A W _ h => h.1)
            · exact Zl rfl (ZF (.inl rfl) fun A W _ h => h.1)
            · exact Zl rfl (ZF (.inl rfl) fun A W _ h => h.1)
            · exact Zl rfl (ZF (.inl rfl) fun A W _ h => h.1)
            · refine Zl rfl (Z7 fun A' W hR h => ?_)
              obtain ⟨h80, h81, _⟩ := h
              replace h80 : A'.tmps[80]?.getD undef = _ := h80
              replace h81 : A'.tmps[81]?.getD undef = _ := h81
              refine ⟨_, W, ?_, Below.refl _ _, rfl⟩
              go_simp
              all_goals exact IntWalk.i64_in _ (by omega)
            · exact Zl rfl (ZF (.inl rfl) fun A W _ h => h.1)
            · exact Zl rfl (ZF (.inl rfl) fun A W _ h => h.1)
            · refine Zl rfl (Z7 fun A' W hR h => ?_)
              obtain ⟨h83, h84, _⟩ := h
              replace h83 : A'.tmps[83]?.getD undef = _ := h83
              replace h84 : A'.tmps[84]?.getD undef = _ := h84
              refine ⟨_, W, ?_, Below.refl _ _, rfl⟩
              go_simp
              all_goals exact hpe
            · exact Zl rfl (ZF (.inl rfl) fun A W _ h => h.1)
            · exact Zl rfl (ZF (.inl rfl) fun A W _ h => h.1)
            · refine Zl rfl (Z7 fun A' W hR h => ?_)
              obtain ⟨h86, h87, _⟩ := h
              replace h86 : A'.tmps[86]?.getD undef = _ := h86
              replace h87 : A'.tmps[87]?.getD undef = _ := h87
              refine ⟨_, W, ?_, Below.refl _ _, rfl⟩
              go_simp
              all_goals omega
            · refine Zl rfl (Z7 fun A' W hR h => ?_)
              obtain ⟨h88, _⟩ := h
              replace h88 : A'.tmps[88]?.getD undef = _ := h88
              have hc := Keeps.of_below hR _ _ cy
              refine ⟨_, W, ?_, Below.refl _ _, rfl⟩
              go_simp
            · exact Zl rfl (ZF (.inl rfl) fun A W _ h => h.1)
            · refine Zl rfl (Z7 fun A' W hR h => ?_)
              obtain ⟨h89, h90, _⟩ := h
              replace h89 : A'.tmps[89]?.getD undef = _ := h89
              replace h90 : A'.tmps[90]?.getD undef = _ := h90
              refine ⟨_, W, ?_, Below.refl _ _, rfl⟩
              go_simp
              all_goals exact hqe
            · refine Zl rfl (Z7 fun A' W hR h => ?_)
              obtain ⟨h85, h91, _⟩ := h
              replace h85 : A'.tmps[85]?.getD undef = _ := h85
              replace h91 : A'.tmps[91]?.getD undef = _ := h91
              refine ⟨_, W, ?_, Below.refl _ _, rfl⟩
              go_simp
              all_goals exact hre
            · refine Zl rfl (Z7 fun A' W hR h => ?_)
              obtain ⟨h78, _⟩ := h
              replace h78 : A'.tmps[78]?.getD undef = _ := h78
              refine ⟨_, W, ?_, Below.refl _ _, rfl⟩
              go_simp
            · refine Zl rfl (Z7 fun A' W hR h => ?_)
              obtain ⟨h93, _⟩ := h
              replace h93 : A'.tmps[93]?.getD undef = _ := h93
              refine ⟨_, W, ?_, Below.refl _ _, rfl⟩
              go_simp
            · refine Zl rfl (Z7 fun A' W hR h => ?_)
              obtain ⟨h94, h79, _⟩ := h
              replace h94 : A'.tmps[94]?.getD undef = _ := h94
              replace h79 : A'.tmps[79]?.getD undef = _ := h79
              refine ⟨_, W, ?_, Below.refl _ _, rfl⟩
              go_simp
              all_goals omega
            · refine Zl rfl (Z7 fun A' W hR h => ?_)
              obtain ⟨h95, h82, _⟩ := h
              replace h95 : A'.tmps[95]?.getD undef = _ := h95
              replace h82 : A'.tmps[82]?.getD undef = _ := h82
              refine ⟨_, W, ?_, Below.refl _ _, rfl⟩
              go_simp
              all_goals omega
          case fin =>
            intro A' W hd hs hR he hr
            obtain ⟨e0, e1, e2, e3, e4, e5, e6, e7, e8, e9, e10, e11, e12, e13, e14, e15, e16, e17, e18, _⟩ := he
            have hA' := Yn [78, 79, 80, 81, 82, 83, 84, 85, 86, 87, 88, 89, 90, 91, 92, 93, 94, 95, 96] rfl hd hs hr
            clear hd hs hr
            replace e0 : A'.tmps[78]?.getD undef = _ := e0
            replace e1 : A'.tmps[79]?.getD undef = _ := e1
            replace e2 : A'.tmps[80]?.getD undef = _ := e2
            replace e3 : A'.tmps[81]?.getD undef = _ := e3
            replace e4 : A'.tmps[82]?.getD undef = _ := e4
            replace e5 : A'.tmps[83]?.getD undef = _ := e5
            replace e6 : A'.tmps[84]?.getD undef = _ := e6
            replace e7 : A'.tmps[85]?.getD undef = _ := e7
            replace e8 : A'.tmps[86]?.getD undef = _ := e8
            replace e9 : A'.tmps[87]?.getD undef = _ := e9
            replace e10 : A'.tmps[88]?.getD undef = _ := e10
            replace e11 : A'.tmps[89]?.getD undef = _ := e11
            replace e12 : A'.tmps[90]?.getD undef = _ := e12
            replace e13 : A'.tmps[91]?.getD undef = _ := e13
            replace e14 : A'.tmps[92]?.getD undef = _ := e14
            replace e15 : A'.tmps[93]?.getD undef = _ := e15
            replace e16 : A'.tmps[94]?.getD undef = _ := e16
            replace e17 : A'.tmps[95]?.getD undef = _ := e17
            replace e18 : A'.tmps[96]?.getD undef = _ := e18
            simp only [frameAfter, List.contains_cons, List.contains_nil, Nat.reduceBEq, Bool.or_false, Bool.or_true, Bool.or_self, Bool.false_or, Bool.true_or, Bool.false_eq_true, if_true, if_false, Nat.reduceAdd, e0, e1, e2, e3, e4, e5, e6, e7, e8, e9, e10, e11, e12, e13, e14, e15, e16, e17, e18] at hA'
            subst hA'
            clear e0 e1 e2 e3 e4 e5 e6 e7 e8 e9 e10 e11 e12 e13 e14 e15 e16 e17 e18
            have hg' : W.heap[g]? = some (.cells (rfCells { f1 with S := layS (!f1.dead) f1.mask tb (k * 1024 + a0) j f1.S } A0 n0 c0).toArray 89 (0, 0)) := by rw [hR.block g (Array.getElem?_eq_some_iff.1 HGK.out).1]; exact HGK.out
            have fx : W.frozen? ⟨g, k * 1024 + q, none⟩ = false := Z6 hg'
            have cxw := Keeps.of_below hR _ _ cx
            have hg2 := ZB (i := k * 1024 + q) (.int .u8 (r.toNat : Int)) hg'
            rw [Xf _ (by show _ < (layS _ _ _ _ _ _).length; rw [ZC, HS.out]; omega)] at hg2
            have hS' : (layS (!f1.dead) f1.mask tb (k * 1024 + a0) j f1.S).set (k * 1024 + q) r = layS (!f1.dead) f1.mask tb (k * 1024 + a0) (j + 1) f1.S := by
              rw [hrv.out, hxv.out, hyv.out, hmv.out, ← HQ.out, ← Nat.add_assoc]; rfl
            dsimp only at hg2
            rw [hS'] at hg2
            have hgr' := Z0 (Z0 hgr (Z8 hR _)) (ZJ W g (k * 1024 + q) (.int .u8 (r.toNat : Int)))
            have HG2 := Lib.hid hg2
            clear hg' hg2 hS'
            go_wp2_with fail
            go_roundw
            case rel => exact ⟨j + 1, by omega, by go_num, HG2.out, hgr'⟩
            case measure => simp [intOf]; omega
        · obtain rfl : n = j := by omega
          have hdd := YQ hgk (by show (layS _ _ _ _ _ _).length = 6144; rw [ZC]; exact HS.out)
          dsimp only at hdd
          rw [hd] at hdd hgk
          have hend := hfin wr hgk hgr
          clear hgk hfin
          go_wp2_with fail
          all_goals
            go_ret
            exact ⟨rfl, hend.1, hend.2⟩
    · rw [hd] at hfin
      simp only [Bool.not_true] at hfin ⊢
      by_cases hn00 : n0 = 0
      · go_wp2_with fail
        go_loopw [9] (fun iv wr => ∃ (j : Nat), j ≤ n ∧ iv = .int .i64 j ∧ wr.heap[g]? = some (.cells (rfCells { f1 with S := layS (!f1.dead) f1.mask tb (k * 1024 + a0) j f1.S } A0 n0 c0).toArray 89 (0, 0)) ∧ w1.grownBy wr (some g)) (fun iv _ => n - (intOf iv).toNat)
        case atStart => exact ⟨0, by omega, rfl, HG.out, ZG _ _⟩
        case round =>
          obtain ⟨j, hj, rfl, hgk, hgr⟩ := hrel
          by_cases hlt : j < n
          · have hj1 : (j : Int) < n := by omega
            have hj0 : (0 : Int) ≤ j := by omega
            obtain ⟨b, o, y, hBe, cy, _, hy⟩ := hB1.next (k := j) hlt
            subst hBe
            have hyv : Hid (y = tb.getD j 0) := by
              have := hy.out
              show y = tb.getD j 0
              rw [List.getD_eq_getElem?_getD, this]
              rfl
            have hbg : b ≠ g := by
              have := hBa (by omega) _ rfl
              exact this
            have cy := hgr.cell cy (fun e => hbg (by injection e))
            obtain ⟨q, hqe0⟩ : ∃ q, a0 + j = q := ⟨_, rfl⟩
            have hadd : (a0 : Int) + (j : Int) = ((q : Nat) : Int) := by omega
            have hq1 : (q : Int) < 1024 := by omega
            have hq0 : (0 : Int) ≤ q := by omega
            have HQ := Lib.hid hqe0
            have hoq : k * 1024 + q < 6144 := by omega
            have hSl : k * 1024 + q < (layS (!f1.dead) f1.mask tb (k * 1024 + a0) j f1.S).length := by rw [ZC, HS.out]; omega
            have cx0 := XX (i := k * 1024 + q) hgk hSl
            obtain ⟨x, hxv⟩ : ∃ x : UInt8, Hid (x = (layS (!f1.dead) f1.mask tb (k * 1024 + a0) j f1.S).getD (k * 1024 + a0 + j) 0) := ⟨_, rfl⟩
            have cx : wr.cell? ⟨g, k * 1024 + q, none⟩ = some (.int .u8 (x.toNat : Int)) := by rw [hxv.out, show k * 1024 + a0 + j = k * 1024 + q by omega]; exact cx0
            have HGK := Lib.hid hgk
            have hdd := YQ hgk (by show (layS _ _ _ _ _ _).length = 6144; rw [ZC]; exact HS.out)
            have hmk0 := Wh hgk (by show (layS _ _ _ _ _ _).length = 6144; rw [ZC]; exact HS.out)
            dsimp only at hdd
            rw [hd] at hdd
            clear cx0 hSl hgk hy hB1 hqe0
            have hn00i : ¬ (0 : Int) < n0 := by omega
            obtain ⟨m, hmv, hm0⟩ : ∃ m : UInt8, Hid (m = mByte (!f1.dead) f1.mask j) ∧ m = 0 := ⟨0, by show 0 = mByte (!f1.dead) f1.mask j; unfold mByte; rw [hd, if_neg (by simp), if_pos (by rw [HML.out]; exact hn00)], rfl⟩
            obtain ⟨p, qq, r, hpe, hqe, hre, hrv⟩ := Xd x y m
            have hmz : (m.toNat : Int) = 0 := by rw [hm0]; rfl
            rw [hmz] at hpe hqe
            clear hm0 hmz
            go_upto_region 14 with fail
            refine ZD 19 [Is (.pointer (some ⟨g, 0, none⟩)), Is (.int .i64 (k : Int)), Is (.int .i64 (a0 : Int)), Is (.int .i64 (j : Int)), Is (.int .i64 ((q : Nat) : Int)), Is (.int .u8 (x.toNat : Int)), Is (.int .u8 0), Is (.int .u8 (p.toNat : Int)), Is (.slice (some ⟨b, o, none⟩) n c2), Is (.int .i64 (j : Int)), Is (.pointer (some ⟨b, o + j, none⟩)), Is (.int .u8 (y.toNat : Int)), Is (.int .u8 0), Is (.int .u8 (qq.toNat : Int)), Is (.int .u8 (r.toNat : Int)), Is (.pointer (some ⟨g, 0, none⟩)), Is (.pointer (some ⟨g, 0, none⟩)), Is (.pointer (some ⟨g, k * 1024, none⟩)), Is (.pointer (some ⟨g, k * 1024 + q, none⟩))]
              [[(0, none)], [(1, none)], [(2, none)], [(9, none)], [(80, some 2), (81, some 3)], [(11, none)], [(10, none)], [(83, some 5), (84, some 6)], [(3, none)], [(9, none)], [(86, some 8), (87, some 9)], [(88, some 10)], [(10, none)], [(89, some 11), (90, some 12)], [(85, some 7), (91, some 13)], [(78, some 0)], [(93, some 15)], [(94, some 16), (79, some 1)], [(95, some 17), (82, some 4)]]
              (by kernel_rfl) (by kernel_rfl) (by kernel_rfl) (by kernel_rfl)
              ⟨Zo _, Zo _, Zo _, Zo _, Zo _, Zo _, Zo _, Zo _, Zo _, Zo _, Zo _, Zo _, Zo _, Zo _, Zo _, Zo _, Zo _, Zo _, Zo _, trivial⟩ ?vc ?fin
            case vc =>
              refine ⟨?_, ?_, ?_, ?_, ?_, ?_, ?_, ?_, ?_, ?_, ?_, ?_, ?_, ?_, ?_, ?_, ?_, ?_, ?_, trivial⟩
              · exact Zl rfl (ZF (.inl rfl) fun A W _ h => h.1)
              · exact Zl rfl (ZF (.inl rfl) fun A W _ h => h.1)
              · exact Zl rfl (ZF (.inl rfl) fun A W _ h => h.1)
              · exact Zl rfl (ZF (.inl rfl) fun A W _ h => h.1)
              · refine Zl rfl (Z7 fun A' W hR h => ?_)
                obtain ⟨h80, h81, _⟩ := h
                replace h80 : A'.tmps[80]?.getD undef = _ := h80
                replace h81 : A'.tmps[81]?.getD undef = _ := h81
                refine ⟨_, W, ?_, Below.refl _ _, rfl⟩
                go_simp
                all_goals exact IntWalk.i64_in _ (by omega)
              · exact Zl rfl (ZF (.inl rfl) fun A W _ h => h.1)
              · exact Zl rfl (ZF (.inl rfl) fun A W _ h => h.1)
              · refine Zl rfl (Z7 fun A' W hR h => ?_)
                obtain ⟨h83, h84, _⟩ := h
                replace h83 : A'.tmps[83]?.getD undef = _ := h83
                replace h84 : A'.tmps[84]?.getD undef = _ := h84
                refine ⟨_, W, ?_, Below.refl _ _, rfl⟩
                go_simp
                all_goals exact hpe
              · exact Zl rfl (ZF (.inl rfl) fun A W _ h => h.1)
              · exact Zl rfl (ZF (.inl rfl) fun A W _ h => h.1)
              · refine Zl rfl (Z7 fun A' W hR h => ?_)
                obtain ⟨h86, h87, _⟩ := h
                replace h86 : A'.tmps[86]?.getD undef = _ := h86
                replace h87 : A'.tmps[87]?.getD undef = _ := h87
                refine ⟨_, W, ?_, Below.refl _ _, rfl⟩
                go_simp
                all_goals omega
              · refine Zl rfl (Z7 fun A' W hR h => ?_)
                obtain ⟨h88, _⟩ := h
                replace h88 : A'.tmps[88]?.getD undef = _ := h88
                have hc := Keeps.of_below hR _ _ cy
                refine ⟨_, W, ?_, Below.refl _ _, rfl⟩
                go_simp
              · exact Zl rfl (ZF (.inl rfl) fun A W _ h => h.1)
              · refine Zl rfl (Z7 fun A' W hR h => ?_)
                obtain ⟨h89, h90, _⟩ := h
                replace h89 : A'.tmps[89]?.getD undef = _ := h89
                replace h90 : A'.tmps[90]?.getD undef = _ := h90
                refine ⟨_, W, ?_, Below.refl _ _, rfl⟩
                go_simp
                all_goals exact hqe
              · refine Zl rfl (Z7 fun A' W hR h => ?_)
                obtain ⟨h85, h91, _⟩ := h
                replace h85 : A'.tmps[85]?.getD undef = _ := h85
                replace h91 : A'.tmps[91]?.getD undef = _ := h91
                refine ⟨_, W, ?_, Below.refl _ _, rfl⟩
                go_simp
                all_goals exact hre
              · refine Zl rfl (Z7 fun A' W hR h => ?_)
                obtain ⟨h78, _⟩ := h
                replace h78 : A'.tmps[78]?.getD undef = _ := h78
                refine ⟨_, W, ?_, Below.refl _ _, rfl⟩
                go_simp
              · refine Zl rfl (Z7 fun A' W hR h => ?_)
                obtain ⟨h93, _⟩ := h
                replace h93 : A'.tmps[93]?.getD undef = _ := h93
                refine ⟨_, W, ?_, Below.refl _ _, rfl⟩
                go_simp
              · refine Zl rfl (Z7 fun A' W hR h => ?_)
                obtain ⟨h94, h79, _⟩ := h
                replace h94 : A'.tmps[94]?.getD undef = _ := h94
                replace h79 : A'.tmps[79]?.getD undef = _ := h79
                refine ⟨_, W, ?_, Below.refl _ _, rfl⟩
                go_simp
                all_goals omega
              · refine Zl rfl (Z7 fun A' W hR h => ?_)
                obtain ⟨h95, h82, _⟩ := h
                replace h95 : A'.tmps[95]?.getD undef = _ := h95
                replace h82 : A'.tmps[82]?.getD undef = _ := h82
                refine ⟨_, W, ?_, Below.refl _ _, rfl⟩
                go_simp
                all_goals omega
            case fin =>
              intro A' W hd hs hR he hr
              obtain ⟨e0, e1, e2, e3, e4, e5, e6, e7, e8, e9, e10, e11, e12, e13, e14, e15, e16, e17, e18, _⟩ := he
              have hA' := Yn [78, 79, 80, 81, 82, 83, 84, 85, 86, 87, 88, 89, 90, 91, 92, 93, 94, 95, 96] rfl hd hs hr
              clear hd hs hr
              replace e0 : A'.tmps[78]?.getD undef = _ := e0
              replace e1 : A'.tmps[79]?.getD undef = _ := e1
              replace e2 : A'.tmps[80]?.getD undef = _ := e2
              replace e3 : A'.tmps[81]?.getD undef = _ := e3
              replace e4 : A'.tmps[82]?.getD undef = _ := e4
              replace e5 : A'.tmps[83]?.getD undef = _ := e5
              replace e6 : A'.tmps[84]?.getD undef = _ := e6
              replace e7 : A'.tmps[85]?.getD undef = _ := e7
              replace e8 : A'.tmps[86]?.getD undef = _ := e8
              replace e9 : A'.tmps[87]?.getD undef = _ := e9
              replace e10 : A'.tmps[88]?.getD undef = _ := e10
              replace e11 : A'.tmps[89]?.getD undef = _ := e11
              replace e12 : A'.tmps[90]?.getD undef = _ := e12
              replace e13 : A'.tmps[91]?.getD undef = _ := e13
              replace e14 : A'.tmps[92]?.getD undef = _ := e14
              replace e15 : A'.tmps[93]?.getD undef = _ := e15
              replace e16 : A'.tmps[94]?.getD undef = _ := e16
              replace e17 : A'.tmps[95]?.getD undef = _ := e17
              replace e18 : A'.tmps[96]?.getD undef = _ := e18
              simp only [frameAfter, List.contains_cons, List.contains_nil, Nat.reduceBEq, Bool.or_false, Bool.or_true, Bool.or_self, Bool.false_or, Bool.true_or, Bool.false_eq_true, if_true, if_false, Nat.reduceAdd, e0, e1, e2, e3, e4, e5, e6, e7, e8, e9, e10, e11, e12, e13, e14, e15, e16, e17, e18] at hA'
              subst hA'
              clear e0 e1 e2 e3 e4 e5 e6 e7 e8 e9 e10 e11 e12 e13 e14 e15 e16 e17 e18
              have hg' : W.heap[g]? = some (.cells (rfCells { f1 with S := layS (!f1.dead) f1.mask tb (k * 1024 + a0) j f1.S } A0 n0 c0).toArray 89 (0, 0)) := by rw [hR.block g (Array.getElem?_eq_some_iff.1 HGK.out).1]; exact HGK.out
              have fx : W.frozen? ⟨g, k * 1024 + q, none⟩ = false := Z6 hg'
              have cxw := Keeps.of_below hR _ _ cx
              have hg2 := ZB (i := k * 1024 + q) (.int .u8 (r.toNat : Int)) hg'
              rw [Xf _ (by show _ < (layS _ _ _ _ _ _).length; rw [ZC, HS.out]; omega)] at hg2
              have hS' : (layS (!f1.dead) f1.mask tb (k * 1024 + a0) j f1.S).set (k * 1024 + q) r = layS (!f1.dead) f1.mask tb (k * 1024 + a0) (j + 1) f1.S := by
                rw [hrv.out, hxv.out, hyv.out, hmv.out, ← HQ.out, ← Nat.add_assoc]; rfl
              dsimp only at hg2
              rw [hS'] at hg2
              have hgr' := Z0 (Z0 hgr (Z8 hR _)) (ZJ W g (k * 1024 + q) (.int .u8 (r.toNat : Int)))
              have HG2 := Lib.hid hg2
              clear hg' hg2 hS'
              go_wp2_with fail
              go_roundw
              case rel => exact ⟨j + 1, by omega, by go_num, HG2.out, hgr'⟩
              case measure => simp [intOf]; omega
          · obtain rfl : n = j := by omega
            have hdd := YQ hgk (by show (layS _ _ _ _ _ _).length = 6144; rw [ZC]; exact HS.out)
            dsimp only at hdd
            rw [hd] at hdd hgk
            have hend := hfin wr hgk hgr
            clear hgk hfin
            go_wp2_with fail
            all_goals
              go_ret
              exact ⟨rfl, hend.1, hend.2⟩
      · have hn0p : 0 < n0 := by omega
        have hn0i : (0 : Int) < n0 := by omega
        go_wp2_with fail
        go_loopw [9] (fun iv wr => ∃ (j : Nat), j ≤ n ∧ iv = .int .i64 j ∧ wr.heap[g]? = some (.cells (rfCells { f1 with S := layS (!f1.dead) f1.mask tb (k * 1024 + a0) j f1.S } A0 n0 c0).toArray 89 (0, 0)) ∧ w1.grownBy wr (some g)) (fun iv _ => n - (intOf iv).toNat)
        case atStart => exact ⟨0, by omega, rfl, HG.out, ZG _ _⟩
        case round =>
          obtain ⟨j, hj, rfl, hgk, hgr⟩ := hrel
          by_cases hlt : j < n
          · have hj1 : (j : Int) < n := by omega
            have hj0 : (0 : Int) ≤ j := by omega
            obtain ⟨b, o, y, hBe, cy, _, hy⟩ := hB1.next (k := j) hlt
            subst hBe
            have hyv : Hid (y = tb.getD j 0) := by
              have := hy.out
              show y = tb.getD j 0
              rw [List.getD_eq_getElem?_getD, this]
              rfl
            have hbg : b ≠ g := by
              have := hBa (by omega) _ rfl
              exact this
            have cy := hgr.cell cy (fun e => hbg (by injection e))
            obtain ⟨q, hqe0⟩ : ∃ q, a0 + j = q := ⟨_, rfl⟩
            have hadd : (a0 : Int) + (j : Int) = ((q : Nat) : Int) := by omega
            have hq1 : (q : Int) < 1024 := by omega
            have hq0 : (0 : Int) ≤ q := by omega
            have HQ := Lib.hid hqe0
            have hoq : k * 1024 + q < 6144 := by omega
            have hSl : k * 1024 + q < (layS (!f1.dead) f1.mask tb (k * 1024 + a0) j f1.S).length := by rw [ZC, HS.out]; omega
            have cx0 := XX (i := k * 1024 + q) hgk hSl
            obtain ⟨x, hxv⟩ : ∃ x : UInt8, Hid (x = (layS (!f1.dead) f1.mask tb (k * 1024 + a0) j f1.S).getD (k * 1024 + a0 + j) 0) := ⟨_, rfl⟩
            have cx : wr.cell? ⟨g, k * 1024 + q, none⟩ = some (.int .u8 (x.toNat : Int)) := by rw [hxv.out, show k * 1024 + a0 + j = k * 1024 + q by omega]; exact cx0
            have HGK := Lib.hid hgk
            have hdd := YQ hgk (by show (layS _ _ _ _ _ _).length = 6144; rw [ZC]; exact HS.out)
            have hmk0 := Wh hgk (by show (layS _ _ _ _ _ _).length = 6144; rw [ZC]; exact HS.out)
            dsimp only at hdd
            rw [hd] at hdd
            clear cx0 hSl hgk hy hB1 hqe0
            have hkm : j % n0 < n0 := Nat.mod_lt _ hn0p
            have hMBr := hMB.grownKeep hgr (ha.away hQ)
            obtain ⟨mb, mo, m, hAe, cm, _, hm2'⟩ := hMBr.next (k := j % n0) hkm
            have hmv : Hid (m = mByte (!f1.dead) f1.mask j) := by
              show m = mByte (!f1.dead) f1.mask j
              unfold mByte
              rw [hd, if_neg (by simp), if_neg (by rw [HML.out]; omega), HML.out, List.getD_eq_getElem?_getD, hm2'.out]
              rfl
            clear hm2' hMBr
            obtain ⟨p, qq, r, hpe, hqe, hre, hrv⟩ := Xd x y m
            have htm : Int.tmod (j : Int) (n0 : Int) = ((j % n0 : Nat) : Int) := rfl
            generalize hkm' : j % n0 = km at hkm cm htm
            have hkm0 : (0 : Int) ≤ km := by omega
            have hkm1 : (km : Int) < n0 := by omega
            clear hkm'
            subst hAe
            go_upto_region 12 with fail
            refine Ys [Is (.pointer (some ⟨g, 0, none⟩)), Is (.pointer (some ⟨g, 0, none⟩)), Is (.pointer (some ⟨g, 6146, none⟩)), Is (.slice (some ⟨mb, mo, none⟩) n0 c0), Is (.int .i64 (j : Int)), Is (.pointer (some ⟨g, 0, none⟩)), Is (.pointer (some ⟨g, 0, none⟩)), Is (.pointer (some ⟨g, 6146, none⟩)), Is (.slice (some ⟨mb, mo, none⟩) n0 c0), Is (.int .i64 (n0 : Int)), Is (.int .i64 (km : Int)), Is (.pointer (some ⟨mb, mo + km, none⟩)), Is (.int .u8 (m.toNat : Int)), Is (.int .u8 (m.toNat : Int))]
              [[(0, none)], [(55, some 0)], [(56, some 1)], [(57, some 2)], [(9, none)], [(0, none)], [(60, some 5)], [(61, some 6)], [(62, some 7)], [(63, some 8)], [(59, some 4), (64, some 9)], [(58, some 3), (65, some 10)], [(66, some 11)], [(67, some 12)]]
              (by kernel_rfl) (by kernel_rfl) (by kernel_rfl)
              ⟨Zo _, Zo _, Zo _, Zo _, Zo _, Zo _, Zo _, Zo _, Zo _, Zo _, Zo _, Zo _, Zo _, Zo _, trivial⟩ ?vc ?fin
            case vc =>
              refine ⟨?_, ?_, ?_, ?_, ?_, ?_, ?_, ?_, ?_, ?_, ?_, ?_, ?_, ?_, trivial⟩
              · exact Zl rfl (ZF (.inl rfl) fun A W _ h => h.1)
              · refine Zl rfl (Z7 fun A' W hR h => ?_)
                obtain ⟨h55, _⟩ := h
                replace h55 : A'.tmps[55]?.getD undef = _ := h55
                refine ⟨_, W, ?_, Below.refl _ _, rfl⟩
                go_simp
              · refine Zl rfl (Z7 fun A' W hR h => ?_)
                obtain ⟨h56, _⟩ := h
                replace h56 : A'.tmps[56]?.getD undef = _ := h56
                refine ⟨_, W, ?_, Below.refl _ _, rfl⟩
                go_simp
              · refine Zl rfl (Z7 fun A' W hR h => ?_)
                obtain ⟨h57, _⟩ := h
                replace h57 : A'.tmps[57]?.getD undef = _ := h57
                have hc := Keeps.of_below hR _ _ hmk0
                refine ⟨_, W, ?_, Below.refl _ _, rfl⟩
                go_simp
              · exact Zl rfl (ZF (.inl rfl) fun A W _ h => h.1)
              · exact Zl rfl (ZF (.inl rfl) fun A W _ h => h.1)
              · refine Zl rfl (Z7 fun A' W hR h => ?_)
                obtain ⟨h60, _⟩ := h
                replace h60 : A'.tmps[60]?.getD undef = _ := h60
                refine ⟨_, W, ?_, Below.refl _ _, rfl⟩
                go_simp
              · refine Zl rfl (Z7 fun A' W hR h => ?_)
                obtain ⟨h61, _⟩ := h
                replace h61 : A'.tmps[61]?.getD undef = _ := h61
                refine ⟨_, W, ?_, Below.refl _ _, rfl⟩
                go_simp
              · refine Zl rfl (Z7 fun A' W hR h => ?_)
                obtain ⟨h62, _⟩ := h
                replace h62 : A'.tmps[62]?.getD undef = _ := h62
                have hc := Keeps.of_below hR _ _ hmk0
                refine ⟨_, W, ?_, Below.refl _ _, rfl⟩
                go_simp
              · refine Zl rfl (Z7 fun A' W hR h => ?_)
                obtain ⟨h63, _⟩ := h
                replace h63 : A'.tmps[63]?.getD undef = _ := h63
                refine ⟨_, W, ?_, Below.refl _ _, rfl⟩
                go_simp
              · refine Zl rfl (Z7 fun A' W hR h => ?_)
                obtain ⟨h59, h64, _⟩ := h
                replace h59 : A'.tmps[59]?.getD undef = _ := h59
                replace h64 : A'.tmps[64]?.getD undef = _ := h64
                refine ⟨_, W, ?_, Below.refl _ _, rfl⟩
                go_simp
                all_goals exact IntWalk.i64_in _ (by omega)
              · refine Zl rfl (Z7 fun A' W hR h => ?_)
                obtain ⟨h58, h65, _⟩ := h
                replace h58 : A'.tmps[58]?.getD undef = _ := h58
                replace h65 : A'.tmps[65]?.getD undef = _ := h65
                refine ⟨_, W, ?_, Below.refl _ _, rfl⟩
                go_simp
                all_goals omega
              · refine Zl rfl (Z7 fun A' W hR h => ?_)
                obtain ⟨h66, _⟩ := h
                replace h66 : A'.tmps[66]?.getD undef = _ := h66
                have hc := Keeps.of_below hR _ _ cm
                refine ⟨_, W, ?_, Below.refl _ _, rfl⟩
                go_simp
              · exact Zl rfl (ZF (.inr rfl) fun A W _ h => h.1)
            case fin =>
              intro A' W hd hs hR he hr
              obtain ⟨e0, e1, e2, e3, e4, e5, e6, e7, e8, e9, e10, e11, e12, e13, _⟩ := he
              have hA' := Yn [55, 56, 57, 58, 59, 60, 61, 62, 63, 64, 65, 66, 67, 10] rfl hd hs hr
              clear hd hs hr
              replace e0 : A'.tmps[55]?.getD undef = _ := e0
              replace e1 : A'.tmps[56]?.getD undef = _ := e1
              replace e2 : A'.tmps[57]?.getD undef = _ := e2
              replace e3 : A'.tmps[58]?.getD undef = _ := e3
              replace e4 : A'.tmps[59]?.getD undef = _ := e4
              replace e5 : A'.tmps[60]?.getD undef = _ := e5
              replace e6 : A'.tmps[61]?.getD undef = _ := e6
              replace e7 : A'.tmps[62]?.getD undef = _ := e7
              replace e8 : A'.tmps[63]?.getD undef = _ := e8
              replace e9 : A'.tmps[64]?.getD undef = _ := e9
              replace e10 : A'.tmps[65]?.getD undef = _ := e10
              replace e11 : A'.tmps[66]?.getD undef = _ := e11
              replace e12 : A'.tmps[67]?.getD undef = _ := e12
              replace e13 : A'.tmps[10]?.getD undef = _ := e13
              simp only [frameAfter, List.contains_cons, List.contains_nil, Nat.reduceBEq, Bool.or_false, Bool.or_true, Bool.or_self, Bool.false_or, Bool.true_or, Bool.false_eq_true, if_true, if_false, Nat.reduceAdd, e0, e1, e2, e3, e4, e5, e6, e7, e8, e9, e10, e11, e12, e13] at hA'
              subst hA'
              clear e0 e1 e2 e3 e4 e5 e6 e7 e8 e9 e10 e11 e12 e13
              have HGK : Hid (W.heap[g]? = some (.cells (rfCells { f1 with S := layS (!f1.dead) f1.mask tb (k * 1024 + a0) j f1.S } (some ⟨mb, mo, none⟩) n0 c0).toArray 89 (0, 0))) := by
                show W.heap[g]? = _
                rw [hR.block g (Array.getElem?_eq_some_iff.1 HGK.out).1]; exact HGK.out
              have cx := Keeps.of_below hR _ _ cx
              have cy := Keeps.of_below hR _ _ cy
              have hgr := Z0 hgr (Z8 hR _)
              clear hR cm hmk0 hdd
              go_upto_region 14 with fail
              refine ZD 19 [Is (.pointer (some ⟨g, 0, none⟩)), Is (.int .i64 (k : Int)), Is (.int .i64 (a0 : Int)), Is (.int .i64 (j : Int)), Is (.int .i64 ((q : Nat) : Int)), Is (.int .u8 (x.toNat : Int)), Is (.int .u8 (m.toNat : Int)), Is (.int .u8 (p.toNat : Int)), Is (.slice (some ⟨b, o, none⟩) n c2), Is (.int .i64 (j : Int)), Is (.pointer (some ⟨b, o + j, none⟩)), Is (.int .u8 (y.toNat : Int)), Is (.int .u8 (m.toNat : Int)), Is (.int .u8 (qq.toNat : Int)), Is (.int .u8 (r.toNat : Int)), Is (.pointer (some ⟨g, 0, none⟩)), Is (.pointer (some ⟨g, 0, none⟩)), Is (.pointer (some ⟨g, k * 1024, none⟩)), Is (.pointer (some ⟨g, k * 1024 + q, none⟩))]
                [[(0, none)], [(1, none)], [(2, none)], [(9, none)], [(80, some 2), (81, some 3)], [(11, none)], [(10, none)], [(83, some 5), (84, some 6)], [(3, none)], [(9, none)], [(86, some 8), (87, some 9)], [(88, some 10)], [(10, none)], [(89, some 11), (90, some 12)], [(85, some 7), (91, some 13)], [(78, some 0)], [(93, some 15)], [(94, some 16), (79, some 1)], [(95, some 17), (82, some 4)]]
                (by kernel_rfl) (by kernel_rfl) (by kernel_rfl) (by kernel_rfl)
                ⟨Zo _, Zo _, Zo _, Zo _, Zo _, Zo _, Zo _, Zo _, Zo _, Zo _, Zo _, Zo _, Zo _, Zo _, Zo _, Zo _, Zo _, Zo _, Zo _, trivial⟩ ?vc ?fin
              case vc =>
                refine ⟨?_, ?_, ?_, ?_, ?_, ?_, ?_, ?_, ?_, ?_, ?_, ?_, ?_, ?_, ?_, ?_, ?_, ?_, ?_, trivial⟩
                · exact Zl rfl (ZF (.inl rfl) fun A W _ h => h.1)
                · exact Zl rfl (ZF (.inl rfl) fun A W _ h => h.1)
                · exact Zl rfl (ZF (.inl rfl) fun A W _ h => h.1)
                · exact Zl rfl (ZF (.inl rfl) fun A W _ h => h.1)
                · refine Zl rfl (Z7 fun A' W hR h => ?_)
                  obtain ⟨h80, h81, _⟩ := h
                  replace h80 : A'.tmps[80]?.getD undef = _ := h80
                  replace h81 : A'.tmps[81]?.getD undef = _ := h81
                  refine ⟨_, W, ?_, Below.refl _ _, rfl⟩
                  go_simp
                  all_goals exact IntWalk.i64_in _ (by omega)
                · exact Zl rfl (ZF (.inl rfl) fun A W _ h => h.1)
                · exact Zl rfl (ZF (.inl rfl) fun A W _ h => h.1)
                · refine Zl rfl (Z7 fun A' W hR h => ?_)
                  obtain ⟨h83, h84, _⟩ := h
                  replace h83 : A'.tmps[83]?.getD undef = _ := h83
                  replace h84 : A'.tmps[84]?.getD undef = _ := h84
                  refine ⟨_, W, ?_, Below.refl _ _, rfl⟩
                  go_simp
                  all_goals exact hpe
                · exact Zl rfl (ZF (.inl rfl) fun A W _ h => h.1)
                · exact Zl rfl (ZF (.inl rfl) fun A W _ h => h.1)
                · refine Zl rfl (Z7 fun A' W hR h => ?_)
                  obtain ⟨h86, h87, _⟩ := h
                  replace h86 : A'.tmps[86]?.getD undef = _ := h86
                  replace h87 : A'.tmps[87]?.getD undef = _ := h87
                  refine ⟨_, W, ?_, Below.refl _ _, rfl⟩
                  go_simp
                  all_goals omega
                · refine Zl rfl (Z7 fun A' W hR h => ?_)
                  obtain ⟨h88, _⟩ := h
                  replace h88 : A'.tmps[88]?.getD undef = _ := h88
                  have hc := Keeps.of_below hR _ _ cy
                  refine ⟨_, W, ?_, Below.refl _ _, rfl⟩
                  go_simp
                · exact Zl rfl (ZF (.inl rfl) fun A W _ h => h.1)
                · refine Zl rfl (Z7 fun A' W hR h => ?_)
                  obtain ⟨h89, h90, _⟩ := h
                  replace h89 : A'.tmps[89]?.getD undef = _ := h89
                  replace h90 : A'.tmps[90]?.getD undef = _ := h90
                  refine ⟨_, W, ?_, Below.refl _ _, rfl⟩
                  go_simp
                  all_goals exact hqe
                · refine Zl rfl (Z7 fun A' W hR h => ?_)
                  obtain ⟨h85, h91, _⟩ := h
                  replace h85 : A'.tmps[85]?.getD undef = _ := h85
                  replace h91 : A'.tmps[91]?.getD undef = _ := h91
                  refine ⟨_, W, ?_, Below.refl _ _, rfl⟩
                  go_simp
                  all_goals exact hre
                · refine Zl rfl (Z7 fun A' W hR h => ?_)
                  obtain ⟨h78, _⟩ := h
                  replace h78 : A'.tmps[78]?.getD undef = _ := h78
                  refine ⟨_, W, ?_, Below.refl _ _, rfl⟩
                  go_simp
                · refine Zl rfl (Z7 fun A' W hR h => ?_)
                  obtain ⟨h93, _⟩ := h
                  replace h93 : A'.tmps[93]?.getD undef = _ := h93
                  refine ⟨_, W, ?_, Below.refl _ _, rfl⟩
                  go_simp
                · refine Zl rfl (Z7 fun A' W hR h => ?_)
                  obtain ⟨h94, h79, _⟩ := h
                  replace h94 : A'.tmps[94]?.getD undef = _ := h94
                  replace h79 : A'.tmps[79]?.getD undef = _ := h79
                  refine ⟨_, W, ?_, Below.refl _ _, rfl⟩
                  go_simp
                  all_goals omega
                · refine Zl rfl (Z7 fun A' W hR h => ?_)
                  obtain ⟨h95, h82, _⟩ := h
                  replace h95 : A'.tmps[95]?.getD undef = _ := h95
                  replace h82 : A'.tmps[82]?.getD undef = _ := h82
                  refine ⟨_, W, ?_, Below.refl _ _, rfl⟩
                  go_simp
                  all_goals omega
              case fin =>
                intro A' W hd hs hR he hr
                obtain ⟨e0, e1, e2, e3, e4, e5, e6, e7, e8, e9, e10, e11, e12, e13, e14, e15, e16, e17, e18, _⟩ := he
                have hA' := Yn [78, 79, 80, 81, 82, 83, 84, 85, 86, 87, 88, 89, 90, 91, 92, 93, 94, 95, 96] rfl hd hs hr
                clear hd hs hr
                replace e0 : A'.tmps[78]?.getD undef = _ := e0
                replace e1 : A'.tmps[79]?.getD undef = _ := e1
                replace e2 : A'.tmps[80]?.getD undef = _ := e2
                replace e3 : A'.tmps[81]?.getD undef = _ := e3
                replace e4 : A'.tmps[82]?.getD undef = _ := e4
                replace e5 : A'.tmps[83]?.getD undef = _ := e5
                replace e6 : A'.tmps[84]?.getD undef = _ := e6
                replace e7 : A'.tmps[85]?.getD undef = _ := e7
                replace e8 : A'.tmps[86]?.getD undef = _ := e8
                replace e9 : A'.tmps[87]?.getD undef = _ := e9
                replace e10 : A'.tmps[88]?.getD undef = _ := e10
                replace e11 : A'.tmps[89]?.getD undef = _ := e11
                replace e12 : A'.tmps[90]?.getD undef = _ := e12
                replace e13 : A'.tmps[91]?.getD undef = _ := e13
                replace e14 : A'.tmps[92]?.getD undef = _ := e14
                replace e15 : A'.tmps[93]?.getD undef = _ := e15
                replace e16 : A'.tmps[94]?.getD undef = _ := e16
                replace e17 : A'.tmps[95]?.getD undef = _ := e17
                replace e18 : A'.tmps[96]?.getD undef = _ := e18
                simp only [frameAfter, List.contains_cons, List.contains_nil, Nat.reduceBEq, Bool.or_false, Bool.or_true, Bool.or_self, Bool.false_or, Bool.true_or, Bool.false_eq_true, if_true, if_false, Nat.reduceAdd, e0, e1, e2, e3, e4, e5, e6, e7, e8, e9, e10, e11, e12, e13, e14, e15, e16, e17, e18] at hA'
                subst hA'
                clear e0 e1 e2 e3 e4 e5 e6 e7 e8 e9 e10 e11 e12 e13 e14 e15 e16 e17 e18
                have hg' : W.heap[g]? = some (.cells (rfCells { f1 with S := layS (!f1.dead) f1.mask tb (k * 1024 + a0) j f1.S } (some ⟨mb, mo, none⟩) n0 c0).toArray 89 (0, 0)) := by rw [hR.block g (Array.getElem?_eq_some_iff.1 HGK.out).1]; exact HGK.out
                have fx : W.frozen? ⟨g, k * 1024 + q, none⟩ = false := Z6 hg'
                have cxw := Keeps.of_below hR _ _ cx
                have hg2 := ZB (i := k * 1024 + q) (.int .u8 (r.toNat : Int)) hg'
                rw [Xf _ (by show _ < (layS _ _ _ _ _ _).length; rw [ZC, HS.out]; omega)] at hg2
                have hS' : (layS (!f1.dead) f1.mask tb (k * 1024 + a0) j f1.S).set (k * 1024 + q) r = layS (!f1.dead) f1.mask tb (k * 1024 + a0) (j + 1) f1.S := by
                  rw [hrv.out, hxv.out, hyv.out, hmv.out, ← HQ.out, ← Nat.add_assoc]; rfl
                dsimp only at hg2
                rw [hS'] at hg2
                have hgr' := Z0 (Z0 hgr (Z8 hR _)) (ZJ W g (k * 1024 + q) (.int .u8 (r.toNat : Int)))
                have HG2 := Lib.hid hg2
                clear hg' hg2 hS'
                go_wp2_with fail
                go_roundw
                case rel => exact ⟨j + 1, by omega, by go_num, HG2.out, hgr'⟩
                case measure => simp [intOf]; omega
          · obtain rfl : n = j := by omega
            have hdd := YQ hgk (by show (layS _ _ _ _ _ _).length = 6144; rw [ZC]; exact HS.out)
            dsimp only at hdd
            rw [hd] at hdd hgk
            have hend := hfin wr hgk hgr
            clear hgk hfin
            go_wp2_with fail
            all_goals
              go_ret
              exact ⟨rfl, hend.1, hend.2⟩
end Go.Proofs.Ytkncomkncfcecaa
