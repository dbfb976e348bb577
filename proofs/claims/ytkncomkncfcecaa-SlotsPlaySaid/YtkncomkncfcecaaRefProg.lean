/- The document's flash memory: Program. -/
import Derived.Test.YtkncomkncfcecaaRefErase
set_option linter.unusedVariables false
set_option linter.unusedSimpArgs false
namespace Go.Proofs.Ytkncomkncfcecaa
open Go.RowKit
def lenOf : Value → Nat
  | .slice _ n _ => n
  | _ => 0
set_option maxRecDepth 100000 in
set_option maxHeartbeats 4000000 in
theorem YF (Q : Nat → Prop) (g : Nat) (hQ : ∀ b, Q b → b ≠ g) (f : FlashSt) (s p : Int) (A : Option Addr) (n c : Nat) (b : List UInt8) (w : World) (h : RF Q w g f) (hA : Bs w A n b) (hn : n ≤ c) (hc9 : c ≤ 9223372036854775807) :
    Calls Try.prog 69 #[.pointer (some ⟨g, 0, none⟩), .int .i64 s, .int .i64 p, .slice A n c] w fun r w' => r = .returned (.int .i64 (progF f s p b).1) ∧ RF Q w' g (progF f s p b).2 ∧ w.grownBy w' (some g) := by
  have h0 := h
  have hglt := h.lt
  obtain ⟨A0, n0, c0, hg, hS, hl0, hl1, hB, hn0, hc0, ha⟩ := h
  have c3 := YQ hg hS
  have HG := Lib.hid hg
  clear hg
  have hbl := hA.len
  cases hd : f.dead
  · rw [hd] at c3
    by_cases hs : s < 0 ∨ 6 ≤ s ∨ p < 0 ∨ 64 ≤ p
    · rw [show progF f s p b = (12, f) by unfold progF; rw [hd, if_neg (by simp), if_pos hs]]
      by_cases hs0 : s < 0
      · go_enter Try.func69, Try.ntmps69
        go_wp2_with fail
        go_ret
        exact ⟨rfl, h0, ZG _ _⟩
      by_cases hs6 : (6 : Int) ≤ s
      · go_enter Try.func69, Try.ntmps69
        go_wp2_with fail
        go_ret
        exact ⟨rfl, h0, ZG _ _⟩
      by_cases hp0 : p < 0
      · go_enter Try.func69, Try.ntmps69
        go_wp2_with fail
        go_ret
        exact ⟨rfl, h0, ZG _ _⟩
      have hp6 : (64 : Int) ≤ p := by omega
      go_enter Try.func69, Try.ntmps69
      go_wp2_with fail
      go_ret
      exact ⟨rfl, h0, ZG _ _⟩
    · obtain ⟨k, rfl⟩ : ∃ k : Nat, s = k := ⟨s.toNat, by omega⟩
      obtain ⟨q, rfl⟩ : ∃ q : Nat, p = q := ⟨p.toNat, by omega⟩
      have hk : k < 6 := by omega
      have hk1 : (k : Int) < 6 := by omega
      have hk0 : (0 : Int) ≤ k := by omega
      have hq : q < 64 := by omega
      have hq1 : (q : Int) < 64 := by omega
      have hq0 : (0 : Int) ≤ q := by omega
      by_cases h16 : 16 < n
      · rw [show progF f k q b = (5, f) by unfold progF; rw [hd, if_neg (by simp), if_neg hs, if_pos (by omega)]]
        have h16' : (16 : Int) < n := by omega
        go_enter Try.func69, Try.ntmps69
        go_wp2_with fail
        go_ret
        exact ⟨rfl, h0, ZG _ _⟩
      · have h16' : ¬ (16 : Int) < n := by omega
        have hprog : progF f k q b = if fits b (k * 1024 + q * 16) f.S 16 = false then (13, f) else (if (spendF f).dead = true then 14 else 0, { spendF f with S := layS (!(spendF f).dead) f.mask (pad b) (k * 1024 + q * 16) 16 f.S }) := by
          unfold progF; rw [hd, if_neg (by simp), if_neg hs, if_neg (by omega)]; rfl
        obtain ⟨R, F', hRF, hbad0, hgood0⟩ : ∃ (R : Int) (F' : FlashSt), progF f k q b = (R, F') ∧ (fits b (k * 1024 + q * 16) f.S 16 = false → R = 13 ∧ F' = f) ∧
            (fits b (k * 1024 + q * 16) f.S 16 = true → (if (spendF f).dead = true then (14 : Int) else 0) = R ∧ { spendF f with S := layS (!(spendF f).dead) f.mask (pad b) (k * 1024 + q * 16) 16 f.S } = F') := by
          cases hfit : fits b (k * 1024 + q * 16) f.S 16
          · rw [hfit, if_pos rfl] at hprog
            exact ⟨_, _, hprog, fun _ => ⟨rfl, rfl⟩, fun h => absurd h (by decide)⟩
          · rw [hfit, if_neg (by simp)] at hprog
            exact ⟨_, _, hprog, fun h => absurd h (by decide), fun _ => ⟨rfl, rfl⟩⟩
        have hbad := Lib.hid hbad0
        have hgood := Lib.hid hgood0
        clear hbad0 hgood0
        rw [hRF]
        clear hprog hRF
        have HBL := Lib.hid hbl
        clear hbl
        go_enter Try.func69, Try.ntmps69
        go_wp2_with (at_builtin; refine cloneB w rfl (.tmp 35) (.tmp 36) rfl _ rfl rfl _ _ _ b rfl hA (by omega) ?_; intro v1 w1 hown1 hb1)
        go_loopw [9] (fun v wr => ∃ (len : Nat), n ≤ len ∧ len ≤ 16 ∧ wr.ownsRow w.heap.size 5 1 v len (bv (b ++ List.replicate (len - n) 255)) ∧ Below w.heap.size w wr) (fun v _ => 16 - lenOf v)
        case atStart => exact ⟨n, Nat.le_refl _, by omega, by rw [Nat.sub_self, List.replicate_zero, List.append_nil]; exact hown1, hb1⟩
        case round =>
          clear hown1 hb1
          obtain ⟨len, hln, hl16, hown, hbr⟩ := hrel
          obtain ⟨Bx, cbx, rfl, x1, x2, x3, _⟩ := ZP hown
          by_cases hlt : len < 16
          · have hli : (len : Int) < 16 := by omega
            have hbw := hbr.size
            go_wp2_with (at_builtin; refine appendB _ rfl (.tmp 41) (.tmp 42) rfl w.heap.size _ _ _ rfl (Yx hown (.alloc (.refl _ _) (Nat.le_refl _) _)) _ _ _ [255] rfl (Bs.lit _ rfl [255] rfl rfl) (by omega) (by simp; omega) ?_; intro v2 w2 hown2 hg2 hat2; obtain ⟨By, cy, rfl, y1, y2, y3, _⟩ := ZP hown2)
            go_roundw
            case rel => exact ⟨len + 1, by omega, by omega, by rw [show len + 1 - n = len - n + 1 by omega, List.replicate_succ', ← List.append_assoc]; exact hown2, Yq (hbr.alloc hbr.size _) hg2 (Yx hown (.alloc (.refl _ _) (Nat.le_refl _) _)) (by simp; omega)⟩
            case measure => simp [lenOf]; omega
          · obtain rfl : len = 16 := by omega
            have hpd : b ++ List.replicate (16 - n) 255 = pad b := by unfold pad; rw [HBL.out]
            rw [hpd] at hown x3
            obtain ⟨gx, cx0, hxe, hgx1, hgx2, hcx1, hcx2⟩ := own_form hown (by omega)
            injection hxe with e1 _ e3
            subst e1; subst e3
            have hT : Bs wr (some ⟨gx, 0, none⟩) 16 (pad b) := x3
            have hb2 := hbr
            obtain ⟨w2, hw2⟩ : ∃ w2, w2 = wr := ⟨_, rfl⟩
            subst hw2
            have HG2 : Hid (w2.heap[g]? = some (.cells (rfCells f A0 n0 c0).toArray 89 (0, 0))) := by
              show w2.heap[g]? = _
              rw [hb2.block g hglt]; exact HG.out
            clear hown x1 x2 x3 hbr hpd
            go_wp2_with fail
            go_loopw [10] (fun jv wr => ∃ (j : Nat), j ≤ 16 ∧ jv = .int .i64 j ∧ Hid (fits b (k * 1024 + q * 16) f.S j = true) ∧ Below w2.heap.size w2 wr) (fun jv _ => 16 - (intOf jv).toNat)
            case atStart => exact ⟨0, by omega, rfl, rfl, Below.refl _ _⟩
            case round =>
              obtain ⟨j, hj, rfl, hfit, hbr⟩ := hrel
              by_cases hlt : j < 16
              · have hj1 : (j : Int) < 16 := by omega
                have hj0 : (0 : Int) ≤ j := by omega
                obtain ⟨_, _, x, hTe, cx, _, hx⟩ := hT.next (k := j) hlt
                injection hTe with hTe
                injection hTe with e1 e2
                subst e1; subst e2
                rw [Nat.zero_add] at cx
                have cx1 := Keeps.of_below hbr _ _ cx
                clear cx
                have cx := cx1
                clear cx1
                have cy0 := XX (i := k * 1024 + (q * 16 + j)) HG2.out (by rw [hS]; omega)
                have cy := Keeps.of_below hbr _ _ cy0
                clear cy0
                have hfj : fits b (k * 1024 + q * 16) f.S (j + 1) = ((x &&& ~~~(f.S.getD (k * 1024 + (q * 16 + j)) 0)) == 0) := by
                  have : (pad b).getD j 0 = x := by rw [List.getD_eq_getElem?_getD, hx.out]; rfl
                  unfold fits
                  rw [hfit.out, this, Bool.true_and, Nat.add_assoc]
                obtain ⟨q2, hq2⟩ : ∃ q2, q * 16 = q2 := ⟨_, rfl⟩
                obtain ⟨q3, hq3⟩ : ∃ q3, q2 + j = q3 := ⟨_, rfl⟩
                have hm1 : (q : Int) * 16 = ((q2 : Nat) : Int) := by omega
                have hm2 : ((q2 : Nat) : Int) + (j : Int) = ((q3 : Nat) : Int) := by omega
                have hb3 : ((q3 : Nat) : Int) < 1024 := by omega
                have hb4 : ((q2 : Nat) : Int) < 1024 := by omega
                have hb5 : (0 : Int) ≤ (q2 : Int) := by omega
                have hb6 : (0 : Int) ≤ (q3 : Int) := by omega
                rw [hq2, hq3] at cy hfj
                generalize f.S.getD (k * 1024 + q3) 0 = y at cy hfj
                obtain ⟨z, hz, hzv⟩ : ∃ z : UInt8, bits .andNot .u8 (x.toNat : Int) (y.toNat : Int) = (z.toNat : Int) ∧ Hid (z = x &&& ~~~y) := ⟨_, u8n_andNot x y, rfl⟩
                rw [← hzv.out, ← hq2] at hfj
                have HQ2 := Lib.hid hq2
                have HQ3 := Lib.hid hq3
                clear hq2 hq3
                by_cases hz0 : z = 0
                · rw [hz0] at hz hfj
                  have hz : bits .andNot .u8 (x.toNat : Int) (y.toNat : Int) = 0 := hz
                  have HF := Lib.hid hfj
                  clear hfj hx
                  go_upto_region 13 with fail
                  refine Ys [Is (.slice (some ⟨gx, 0, none⟩) 16 cbx), Is (.int .i64 (j : Int)), Is (.pointer (some ⟨gx, j, none⟩)), Is (.int .u8 (x.toNat : Int)), Is (.pointer (some ⟨g, 0, none⟩)), Is (.int .i64 (k : Int)), Is (.int .i64 (q : Int)), Is (.int .i64 ((q2 : Nat) : Int)), Is (.int .i64 (j : Int)), Is (.int .i64 ((q3 : Nat) : Int)), Is (.pointer (some ⟨g, 0, none⟩)), Is (.pointer (some ⟨g, 0, none⟩)), Is (.pointer (some ⟨g, k * 1024, none⟩)), Is (.pointer (some ⟨g, k * 1024 + q3, none⟩)), Is (.int .u8 (y.toNat : Int)), Is (.int .u8 0), Is (.bool false)]
                    [[(9, none)], [(10, none)], [(48, some 0), (49, some 1)], [(50, some 2)], [(0, none)], [(1, none)], [(2, none)], [(54, some 6)], [(10, none)], [(55, some 7), (56, some 8)], [(52, some 4)], [(58, some 10)], [(59, some 11), (53, some 5)], [(60, some 12), (57, some 9)], [(61, some 13)], [(51, some 3), (62, some 14)], [(63, some 15)]]
                    (by kernel_rfl) (by kernel_rfl) (by kernel_rfl)
                    ⟨Zo _, Zo _, Zo _, Zo _, Zo _, Zo _, Zo _, Zo _, Zo _, Zo _, Zo _, Zo _, Zo _, Zo _, Zo _, Zo _, Zo _, trivial⟩ ?vc ?fin
                  case vc =>
                    refine ⟨?_, ?_, ?_, ?_, ?_, ?_, ?_, ?_, ?_, ?_, ?_, ?_, ?_, ?_, ?_, ?_, ?_, trivial⟩
                    · exact Zl rfl (ZF (.inl rfl) fun A W _ h => h.1)
                    · exact Zl rfl (ZF (.inl rfl) fun A W _ h => h.1)
                    · refine Zl rfl (Z7 fun A' W hR h => ?_)
                      obtain ⟨h48, h49, _⟩ := h
                      replace h48 : A'.tmps[48]?.getD undef = _ := h48
                      replace h49 : A'.tmps[49]?.getD undef = _ := h49
                      refine ⟨_, W, ?_, Below.refl _ _, rfl⟩
                      go_simp
                      all_goals omega
                    · refine Zl rfl (Z7 fun A' W hR h => ?_)
                      obtain ⟨h50, _⟩ := h
                      replace h50 : A'.tmps[50]?.getD undef = _ := h50
                      have hc := Keeps.of_below hR _ _ cx
                      refine ⟨_, W, ?_, Below.refl _ _, rfl⟩
                      go_simp
                    · exact Zl rfl (ZF (.inl rfl) fun A W _ h => h.1)
                    · exact Zl rfl (ZF (.inl rfl) fun A W _ h => h.1)
                    · exact Zl rfl (ZF (.inl rfl) fun A W _ h => h.1)
                    · refine Zl rfl (Z7 fun A' W hR h => ?_)
                      obtain ⟨h54, _⟩ := h
                      replace h54 : A'.tmps[54]?.getD undef = _ := h54
                      refine ⟨_, W, ?_, Below.refl _ _, rfl⟩
                      go_simp
                      all_goals exact IntWalk.i64_in _ (by omega)
                    · exact Zl rfl (ZF (.inl rfl) fun A W _ h => h.1)
                    · refine Zl rfl (Z7 fun A' W hR h => ?_)
                      obtain ⟨h55, h56, _⟩ := h
                      replace h55 : A'.tmps[55]?.getD undef = _ := h55
                      replace h56 : A'.tmps[56]?.getD undef = _ := h56
                      refine ⟨_, W, ?_, Below.refl _ _, rfl⟩
                      go_simp
                      all_goals exact IntWalk.i64_in _ (by omega)
                    · refine Zl rfl (Z7 fun A' W hR h => ?_)
                      obtain ⟨h52, _⟩ := h
                      replace h52 : A'.tmps[52]?.getD undef = _ := h52
                      refine ⟨_, W, ?_, Below.refl _ _, rfl⟩
                      go_simp
                    · refine Zl rfl (Z7 fun A' W hR h => ?_)
                      obtain ⟨h58, _⟩ := h
                      replace h58 : A'.tmps[58]?.getD undef = _ := h58
                      refine ⟨_, W, ?_, Below.refl _ _, rfl⟩
                      go_simp
                    · refine Zl rfl (Z7 fun A' W hR h => ?_)
                      obtain ⟨h59, h53, _⟩ := h
                      replace h59 : A'.tmps[59]?.getD undef = _ := h59
                      replace h53 : A'.tmps[53]?.getD undef = _ := h53
                      refine ⟨_, W, ?_, Below.refl _ _, rfl⟩
                      go_simp
                      all_goals omega
                    · refine Zl rfl (Z7 fun A' W hR h => ?_)
                      obtain ⟨h60, h57, _⟩ := h
                      replace h60 : A'.tmps[60]?.getD undef = _ := h60
                      replace h57 : A'.tmps[57]?.getD undef = _ := h57
                      refine ⟨_, W, ?_, Below.refl _ _, rfl⟩
                      go_simp
                      all_goals omega
                    · refine Zl rfl (Z7 fun A' W hR h => ?_)
                      obtain ⟨h61, _⟩ := h
                      replace h61 : A'.tmps[61]?.getD undef = _ := h61
                      have hc := Keeps.of_below hR _ _ cy
                      refine ⟨_, W, ?_, Below.refl _ _, rfl⟩
                      go_simp
                    · refine Zl rfl (Z7 fun A' W hR h => ?_)
                      obtain ⟨h51, h62, _⟩ := h
                      replace h51 : A'.tmps[51]?.getD undef = _ := h51
                      replace h62 : A'.tmps[62]?.getD undef = _ := h62
                      refine ⟨_, W, ?_, Below.refl _ _, rfl⟩
                      go_simp
                      all_goals exact hz
                    · refine Zl rfl (Z7 fun A' W hR h => ?_)
                      obtain ⟨h63, _⟩ := h
                      replace h63 : A'.tmps[63]?.getD undef = _ := h63
                      refine ⟨_, W, ?_, Below.refl _ _, rfl⟩
                      go_simp
                  case fin =>
                    intro A' W hd hs hR he hr
                    obtain ⟨e0, e1, e2, e3, e4, e5, e6, e7, e8, e9, e10, e11, e12, e13, e14, e15, e16, _⟩ := he
                    have hA' := Yn [48, 49, 50, 51, 52, 53, 54, 55, 56, 57, 58, 59, 60, 61, 62, 63, 64] rfl hd hs hr
                    clear hd hs hr
                    replace e0 : A'.tmps[48]?.getD undef = _ := e0
                    replace e1 : A'.tmps[49]?.getD undef = _ := e1
                    replace e2 : A'.tmps[50]?.getD undef = _ := e2
                    replace e3 : A'.tmps[51]?.getD undef = _ := e3
                    replace e4 : A'.tmps[52]?.getD undef = _ := e4
                    replace e5 : A'.tmps[53]?.getD undef = _ := e5
                    replace e6 : A'.tmps[54]?.getD undef = _ := e6
                    replace e7 : A'.tmps[55]?.getD undef = _ := e7
                    replace e8 : A'.tmps[56]?.getD undef = _ := e8
                    replace e9 : A'.tmps[57]?.getD undef = _ := e9
                    replace e10 : A'.tmps[58]?.getD undef = _ := e10
                    replace e11 : A'.tmps[59]?.getD undef = _ := e11
                    replace e12 : A'.tmps[60]?.getD undef = _ := e12
                    replace e13 : A'.tmps[61]?.getD undef = _ := e13
                    replace e14 : A'.tmps[62]?.getD undef = _ := e14
                    replace e15 : A'.tmps[63]?.getD undef = _ := e15
                    replace e16 : A'.tmps[64]?.getD undef = _ := e16
                    simp only [frameAfter, List.contains_cons, List.contains_nil, Nat.reduceBEq, Bool.or_false, Bool.or_true, Bool.or_self, Bool.false_or, Bool.true_or, Bool.false_eq_true, if_true, if_false, Nat.reduceAdd, e0, e1, e2, e3, e4, e5, e6, e7, e8, e9, e10, e11, e12, e13, e14, e15, e16] at hA'
                    subst hA'
                    clear e0 e1 e2 e3 e4 e5 e6 e7 e8 e9 e10 e11 e12 e13 e14 e15 e16
                    go_wp2_with fail
                    go_roundw
                    case rel => exact ⟨j + 1, by omega, by go_num, HF.out, Z1 hbr hR hbr.size⟩
                    case measure => simp [intOf]; omega
                · have hzn : ((z.toNat : Int) != 0) = true := by rw [u8_zero, beq_eq_false_iff_ne.2 hz0]; rfl
                  have hff : fits b (k * 1024 + q * 16) f.S 16 = false := fits_mono b _ _ (k := j + 1) (by omega) (by rw [hfj]; exact beq_eq_false_iff_ne.2 hz0)
                  obtain ⟨rfl, rfl⟩ := hbad.out hff
                  clear hff hfj hx
                  go_upto_region 13 with fail
                  refine Ys [Is (.slice (some ⟨gx, 0, none⟩) 16 cbx), Is (.int .i64 (j : Int)), Is (.pointer (some ⟨gx, j, none⟩)), Is (.int .u8 (x.toNat : Int)), Is (.pointer (some ⟨g, 0, none⟩)), Is (.int .i64 (k : Int)), Is (.int .i64 (q : Int)), Is (.int .i64 ((q2 : Nat) : Int)), Is (.int .i64 (j : Int)), Is (.int .i64 ((q3 : Nat) : Int)), Is (.pointer (some ⟨g, 0, none⟩)), Is (.pointer (some ⟨g, 0, none⟩)), Is (.pointer (some ⟨g, k * 1024, none⟩)), Is (.pointer (some ⟨g, k * 1024 + q3, none⟩)), Is (.int .u8 (y.toNat : Int)), Is (.int .u8 (z.toNat : Int)), Is (.bool true)]
                    [[(9, none)], [(10, none)], [(48, some 0), (49, some 1)], [(50, some 2)], [(0, none)], [(1, none)], [(2, none)], [(54, some 6)], [(10, none)], [(55, some 7), (56, some 8)], [(52, some 4)], [(58, some 10)], [(59, some 11), (53, some 5)], [(60, some 12), (57, some 9)], [(61, some 13)], [(51, some 3), (62, some 14)], [(63, some 15)]]
                    (by kernel_rfl) (by kernel_rfl) (by kernel_rfl)
                    ⟨Zo _, Zo _, Zo _, Zo _, Zo _, Zo _, Zo _, Zo _, Zo _, Zo _, Zo _, Zo _, Zo _, Zo _, Zo _, Zo _, Zo _, trivial⟩ ?vc ?fin
                  case vc =>
                    refine ⟨?_, ?_, ?_, ?_, ?_, ?_, ?_, ?_, ?_, ?_, ?_, ?_, ?_, ?_, ?_, ?_, ?_, trivial⟩
                    · exact Zl rfl (ZF (.inl rfl) fun A W _ h => h.1)
                    · exact Zl rfl (ZF (.inl rfl) fun A W _ h => h.1)
                    · refine Zl rfl (Z7 fun A' W hR h => ?_)
                      obtain ⟨h48, h49, _⟩ := h
                      replace h48 : A'.tmps[48]?.getD undef = _ := h48
                      replace h49 : A'.tmps[49]?.getD undef = _ := h49
                      refine ⟨_, W, ?_, Below.refl _ _, rfl⟩
                      go_simp
                      all_goals omega
                    · refine Zl rfl (Z7 fun A' W hR h => ?_)
                      obtain ⟨h50, _⟩ := h
                      replace h50 : A'.tmps[50]?.getD undef = _ := h50
                      have hc := Keeps.of_below hR _ _ cx
                      refine ⟨_, W, ?_, Below.refl _ _, rfl⟩
                      go_simp
                    · exact Zl rfl (ZF (.inl rfl) fun A W _ h => h.1)
                    · exact Zl rfl (ZF (.inl rfl) fun A W _ h => h.1)
                    · exact Zl rfl (ZF (.inl rfl) fun A W _ h => h.1)
                    · refine Zl rfl (Z7 fun A' W hR h => ?_)
                      obtain ⟨h54, _⟩ := h
                      replace h54 : A'.tmps[54]?.getD undef = _ := h54
                      refine ⟨_, W, ?_, Below.refl _ _, rfl⟩
                      go_simp
                      all_goals exact IntWalk.i64_in _ (by omega)
                    · exact Zl rfl (ZF (.inl rfl) fun A W _ h => h.1)
                    · refine Zl rfl (Z7 fun A' W hR h => ?_)
                      obtain ⟨h55, h56, _⟩ := h
                      replace h55 : A'.tmps[55]?.getD undef = _ := h55
                      replace h56 : A'.tmps[56]?.getD undef = _ := h56
                      refine ⟨_, W, ?_, Below.refl _ _, rfl⟩
                      go_simp
                      all_goals exact IntWalk.i64_in _ (by omega)
                    · refine Zl rfl (Z7 fun A' W hR h => ?_)
                      obtain ⟨h52, _⟩ := h
                      replace h52 : A'.tmps[52]?.getD undef = _ := h52
                      refine ⟨_, W, ?_, Below.refl _ _, rfl⟩
                      go_simp
                    · refine Zl rfl (Z7 fun A' W hR h => ?_)
                      obtain ⟨h58, _⟩ := h
                      replace h58 : A'.tmps[58]?.getD undef = _ := h58
                      refine ⟨_, W, ?_, Below.refl _ _, rfl⟩
                      go_simp
                    · refine Zl rfl (Z7 fun A' W hR h => ?_)
                      obtain ⟨h59, h53, _⟩ := h
                      replace h59 : A'.tmps[59]?.getD undef = _ := h59
                      replace h53 : A'.tmps[53]?.getD undef = _ := h53
                      refine ⟨_, W, ?_, Below.refl _ _, rfl⟩
                      go_simp
                      all_goals omega
                    · refine Zl rfl (Z7 fun A' W hR h => ?_)
                      obtain ⟨h60, h57, _⟩ := h
                      replace h60 : A'.tmps[60]?.getD undef = _ := h60
                      replace h57 : A'.tmps[57]?.getD undef = _ := h57
                      refine ⟨_, W, ?_, Below.refl _ _, rfl⟩
                      go_simp
                      all_goals omega
                    · refine Zl rfl (Z7 fun A' W hR h => ?_)
                      obtain ⟨h61, _⟩ := h
                      replace h61 : A'.tmps[61]?.getD undef = _ := h61
                      have hc := Keeps.of_below hR _ _ cy
                      refine ⟨_, W, ?_, Below.refl _ _, rfl⟩
                      go_simp
                    · refine Zl rfl (Z7 fun A' W hR h => ?_)
                      obtain ⟨h51, h62, _⟩ := h
                      replace h51 : A'.tmps[51]?.getD undef = _ := h51
                      replace h62 : A'.tmps[62]?.getD undef = _ := h62
                      refine ⟨_, W, ?_, Below.refl _ _, rfl⟩
                      go_simp
                      all_goals exact hz
                    · refine Zl rfl (Z7 fun A' W hR h => ?_)
                      obtain ⟨h63, _⟩ := h
                      replace h63 : A'.tmps[63]?.getD undef = _ := h63
                      refine ⟨_, W, ?_, Below.refl _ _, rfl⟩
                      go_simp
                  case fin =>
                    intro A' W hd hs hR he hr
                    obtain ⟨e0, e1, e2, e3, e4, e5, e6, e7, e8, e9, e10, e11, e12, e13, e14, e15, e16, _⟩ := he
                    have hA' := Yn [48, 49, 50, 51, 52, 53, 54, 55, 56, 57, 58, 59, 60, 61, 62, 63, 64] rfl hd hs hr
                    clear hd hs hr
                    replace e0 : A'.tmps[48]?.getD undef = _ := e0
                    replace e1 : A'.tmps[49]?.getD undef = _ := e1
                    replace e2 : A'.tmps[50]?.getD undef = _ := e2
                    replace e3 : A'.tmps[51]?.getD undef = _ := e3
                    replace e4 : A'.tmps[52]?.getD undef = _ := e4
                    replace e5 : A'.tmps[53]?.getD undef = _ := e5
                    replace e6 : A'.tmps[54]?.getD undef = _ := e6
                    replace e7 : A'.tmps[55]?.getD undef = _ := e7
                    replace e8 : A'.tmps[56]?.getD undef = _ := e8
                    replace e9 : A'.tmps[57]?.getD undef = _ := e9
                    replace e10 : A'.tmps[58]?.getD undef = _ := e10
                    replace e11 : A'.tmps[59]?.getD undef = _ := e11
                    replace e12 : A'.tmps[60]?.getD undef = _ := e12
                    replace e13 : A'.tmps[61]?.getD undef = _ := e13
                    replace e14 : A'.tmps[62]?.getD undef = _ := e14
                    replace e15 : A'.tmps[63]?.getD undef = _ := e15
                    replace e16 : A'.tmps[64]?.getD undef = _ := e16
                    simp only [frameAfter, List.contains_cons, List.contains_nil, Nat.reduceBEq, Bool.or_false, Bool.or_true, Bool.or_self, Bool.false_or, Bool.true_or, Bool.false_eq_true, if_true, if_false, Nat.reduceAdd, e0, e1, e2, e3, e4, e5, e6, e7, e8, e9, e10, e11, e12, e13, e14, e15, e16] at hA'
                    subst hA'
                    clear e0 e1 e2 e3 e4 e5 e6 e7 e8 e9 e10 e11 e12 e13 e14 e15 e16
                    go_wp2_with fail
                    go_ret
                    exact ⟨rfl, h0.below (X5 hb2 (Z1 hbr hR hbr.size)), Z8 (X5 hb2 (Z1 hbr hR hbr.size)) _⟩
              · obtain rfl : j = 16 := by omega
                obtain ⟨g1, g2⟩ := hgood.out hfit.out
                have hlay := change_any Q g hQ f k (q * 16) 16 (some ⟨gx, 0, none⟩) cbx (pad b) wr ((h0.below hb2).below hbr) hk (by omega) (hT.below hbr) (fun _ a e => by injection e with e; subst e; exact Nat.ne_of_gt (Nat.lt_of_lt_of_le hglt hgx1)) hcx1 hcx2
                rw [g1, g2] at hlay
                have HM : Hid ((q : Int) * 16 = ((q * 16 : Nat) : Int)) := by show (q : Int) * 16 = ((q * 16 : Nat) : Int); omega
                clear g1 g2 hbad hgood
                go_wp2_with (go_at_call 65; rw [HM.out]; refine Calls.mono hlay ?_; rintro r w3 ⟨rfl, hf3, hg3⟩)
                go_ret
                exact ⟨rfl, hf3, Z0 (Z8 (X5 hb2 hbr) _) hg3⟩
  · rw [hd] at c3
    rw [show progF f s p b = (14, f) by unfold progF; rw [hd, if_pos rfl]]
    go_enter Try.func69, Try.ntmps69
    go_wp2_with fail
    go_ret
    exact ⟨rfl, h0, ZG _ _⟩
end Go.Proofs.Ytkncomkncfcecaa
