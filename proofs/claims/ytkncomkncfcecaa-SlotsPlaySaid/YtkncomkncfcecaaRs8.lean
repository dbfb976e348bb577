/- The document's sum: written out. -/
import Derived.Test.YtkncomkncfcecaaRs
set_option linter.unusedVariables false
set_option linter.unusedSimpArgs false
namespace Go.Proofs.Ytkncomkncfcecaa
open Go.RowKit
attribute [local go_sem] Y1 Yl Yp ZT Yy Yo ZI ZO Yi ZN ZH ZU
set_option maxRecDepth 100000 in
set_option maxHeartbeats 1600000 in
theorem rs_loop8 {Q : Exit → Act → World → Prop} {w wr : World} {g2 g4 g7 : Nat} {F : List W32} (HFl : Hid (F.length = 8)) (n27 : g2 ≠ g7) (n47 : g4 ≠ g7) (b7 : w.heap.size ≤ g7)
    (hbw : Below w.heap.size w wr) (h2 : wr.heap[g2]? = some (.cells (bv z32).toArray 29 (0, 0))) (h4 : wr.heap[g4]? = some (.cells (wv F).toArray 83 (0, 0))) (h7 : wr.heap[g7]? = some (.cells (bv (outB F (4 * 0) ++ List.replicate (32 - 4 * 0) 0)).toArray 29 (0, 0)))
    (hQ : ∀ wr', Below w.heap.size w wr' → wr'.heap[g2]? = some (.cells (bv z32).toArray 29 (0, 0)) → wr'.heap[g7]? = some (.cells (bv (outB F 32)).toArray 29 (0, 0)) → KQ Q .normal 278 [(2, .pointer (some ⟨g2, 0, none⟩)), (21, .pointer (some ⟨g7, 0, none⟩))] wr') :
    KW Try.prog (blockOf Try.f18 14) Q 278 [(2, .pointer (some ⟨g2, 0, none⟩)), (4, .pointer (some ⟨g4, 0, none⟩)), (21, .pointer (some ⟨g7, 0, none⟩)), (22, .int .i64 0)] wr := by
  conv => arg 2; whnf
  have HQ := Lib.hid hQ
  clear hQ
  refine Zs ?_
  refine Yw (fun m L' wr => ∃ (k : Nat), k ≤ 8 ∧ m = 8 - k ∧ L' = [(2, .pointer (some ⟨g2, 0, none⟩)), (4, .pointer (some ⟨g4, 0, none⟩)), (21, .pointer (some ⟨g7, 0, none⟩)), (22, .int .i64 (k : Int))] ∧ Below w.heap.size w wr ∧ wr.heap[g2]? = some (.cells (bv z32).toArray 29 (0, 0)) ∧ wr.heap[g4]? = some (.cells (wv F).toArray 83 (0, 0)) ∧
      wr.heap[g7]? = some (.cells (bv (outB F (4 * k) ++ List.replicate (32 - 4 * k) 0)).toArray 29 (0, 0))) ⟨0, by omega, rfl, rfl, hbw, h2, h4, h7⟩ ?_
  clear hbw h2 h4 h7 wr
  rintro m L' wr ⟨k, hk, rfl, rfl, hbw, h2, h4, h7⟩
  by_cases hlt8 : k < 8
  · have hk1 : (k : Int) < 8 := by omega
    have hk0 : (0 : Int) ≤ k := by omega
    have e0 : IntKind.i64.wrap (4 * (k : Int)) = 4 * k := IntWalk.i64_in _ (by omega)
    have e1 : IntKind.i64.wrap (4 * (k : Int) + 1) = 4 * k + 1 := IntWalk.i64_in _ (by omega)
    have e2 : IntKind.i64.wrap (4 * (k : Int) + 2) = 4 * k + 2 := IntWalk.i64_in _ (by omega)
    have e3 : IntKind.i64.wrap (4 * (k : Int) + 3) = 4 * k + 3 := IntWalk.i64_in _ (by omega)
    have t0 : (4 * (k : Int)).toNat = 4 * k := by omega
    have t1 : (4 * (k : Int) + 1).toNat = 4 * k + 1 := by omega
    have t2 : (4 * (k : Int) + 2).toNat = 4 * k + 2 := by omega
    have t3 : (4 * (k : Int) + 3).toNat = 4 * k + 3 := by omega
    have i0 : 4 * (k : Int) < 32 := by omega
    have i1 : 4 * (k : Int) + 1 < 32 := by omega
    have i2 : 4 * (k : Int) + 2 < 32 := by omega
    have i3 : 4 * (k : Int) + 3 < 32 := by omega
    have j0 : 0 ≤ 4 * (k : Int) := by omega
    have j1 : 0 ≤ 4 * (k : Int) + 1 := by omega
    have j2 : 0 ≤ 4 * (k : Int) + 2 := by omega
    have j3 : 0 ≤ 4 * (k : Int) + 3 := by omega
    obtain ⟨X, hX⟩ : ∃ X, F.getD k 0 = X := ⟨_, rfl⟩
    have hkF : k < F.length := by rw [HFl.out]; exact hlt8
    obtain ⟨x0, Hx0, G0⟩ := WY X 24 16777216 rfl
    obtain ⟨x1, Hx1, G1⟩ := WY X 16 65536 rfl
    obtain ⟨x2, Hx2, G2⟩ := WY X 8 256 rfl
    obtain ⟨x3, Hx3, G3⟩ := WY X 0 1 rfl
    have Hx0 : Hid ((X.toNat : Int) / 16777216 % 256 = (x0.toNat : Int)) := Hx0
    have Hx1 : Hid ((X.toNat : Int) / 65536 % 256 = (x1.toNat : Int)) := Hx1
    have Hx2 : Hid ((X.toNat : Int) / 256 % 256 = (x2.toNat : Int)) := Hx2
    have Hx3 : Hid ((X.toNat : Int) % 256 = (x3.toNat : Int)) := by
      have h : (X.toNat : Int) / 1 % 256 = (x3.toNat : Int) := Hx3
      rw [Int.ediv_one] at h
      exact h
    have HFX := Lib.hid hX
    have H2 := Lib.hid h2
    have H4 := Lib.hid h4
    have H7 := Lib.hid h7
    clear hX h2 h4 h7
    repeat (first | refine Zv ?_ | refine Zs ?_ | refine Zu ?_ | refine Zc ?_ | refine Zq ?_ | refine Zm ?_ | refine Zp ?_ | refine Zw ?_ | refine Zf ?_ | refine Zd rfl ?_ | refine Zj rfl ?_ | refine Ze ?_ | refine Z3 ?_ | refine Zk ?_ | refine Zg ?_ | refine Zi ?_ | refine Zy rfl ?_ | refine Zx rfl ?_ | refine Zz rfl rfl ?_ | refine Zt rfl rfl rfl rfl ?_ | refine Zr rfl rfl rfl ?_ | (first | refine Zb rfl rfl (.inl rfl) rfl rfl ?_ | refine Zb rfl rfl (.inr rfl) rfl rfl ?_ | refine Za rfl rfl (.inl rfl) rfl ?_ | refine Za rfl rfl (.inr rfl) rfl ?_) | ((first | refine Zn rfl rfl rfl fun K hK => ?_ | refine Zh rfl rfl rfl fun K hK => ?_); go_simp; (try go_bits); (first | refine hK _ _ ?_ | refine hK _ ?_); clear hK K))
    refine KW.less [2, 4, 21, 22] ?_
    simp only [nrm, lk, Nat.reduceBEq, cond_true, cond_false]
    refine ⟨fun a ka => ?_⟩
    refine wp_region_L (a := a) (SLL (outSs g4 g7 k X x0 x1 x2 x3)) (OutR w g2 g4 g7 k F x0 x1 x2 x3)
      [[(22, none)], [(243, some 0)], [(22, none)], [(245, some 2)], [(246, some 3)], [(22, none)], [(248, some 5)], [(249, some 6)], [(22, none)], [(251, some 8)], [(252, some 9)], [(22, none)], [(4, none), (254, some 11)], [(255, some 12)], [(256, some 13)], [(257, some 14)], [(22, none)], [(4, none), (259, some 16)], [(260, some 17)], [(261, some 18)], [(262, some 19)], [(22, none)], [(4, none), (264, some 21)], [(265, some 22)], [(266, some 23)], [(267, some 24)], [(22, none)], [(4, none), (269, some 26)], [(270, some 27)], [(271, some 28)], [(21, none), (244, some 1)], [(273, some 30), (258, some 15)], [(21, none), (247, some 4)], [(274, some 32), (263, some 20)], [(21, none), (250, some 7)], [(275, some 34), (268, some 25)], [(21, none), (253, some 10)], [(276, some 36), (272, some 29)]]
      (by kernel_rfl) (by rw [ka.size]; kernel_rfl) (by kernel_rfl) ?start ?vc ?fin
    case vc =>
      refine ⟨?_, ?_, ?_, ?_, ?_, ?_, ?_, ?_, ?_, ?_, ?_, ?_, ?_, ?_, ?_, ?_, ?_, ?_, ?_, ?_, ?_, ?_, ?_, ?_, ?_, ?_, ?_, ?_, ?_, ?_, ?_, ?_, ?_, ?_, ?_, ?_, ?_, ?_, trivial⟩
      · refine YS (ZK g4 g7 k X x0 x1 x2 x3) (Yc (by decide) (by decide) (by decide) (by decide)) fun L W0 hc hl hp hW => ?_
        exact Zl rfl (ZF (.inl rfl) fun A W _ h => h.1.trans (ka.slot 22 rfl))
      · refine YS (ZK g4 g7 k X x0 x1 x2 x3) (Yc (by decide) (by decide) (by decide) (by decide)) fun L W0 hc hl hp hW => ?_
        refine Zl rfl (Z7 fun A' W hR h => ?_)
        obtain ⟨h243, _⟩ := h
        replace h243 : A'.tmps[243]?.getD undef = _ := h243
        refine ⟨_, W, ?_, Below.refl _ _, rfl⟩
        go_simp
      · refine YS (ZK g4 g7 k X x0 x1 x2 x3) (Yc (by decide) (by decide) (by decide) (by decide)) fun L W0 hc hl hp hW => ?_
        exact Zl rfl (ZF (.inl rfl) fun A W _ h => h.1.trans (ka.slot 22 rfl))
      · refine YS (ZK g4 g7 k X x0 x1 x2 x3) (Yc (by decide) (by decide) (by decide) (by decide)) fun L W0 hc hl hp hW => ?_
        refine Zl rfl (Z7 fun A' W hR h => ?_)
        obtain ⟨h245, _⟩ := h
        replace h245 : A'.tmps[245]?.getD undef = _ := h245
        refine ⟨_, W, ?_, Below.refl _ _, rfl⟩
        go_simp
      · refine YS (ZK g4 g7 k X x0 x1 x2 x3) (Yc (by decide) (by decide) (by decide) (by decide)) fun L W0 hc hl hp hW => ?_
        refine Zl rfl (Z7 fun A' W hR h => ?_)
        obtain ⟨h246, _⟩ := h
        replace h246 : A'.tmps[246]?.getD undef = _ := h246
        refine ⟨_, W, ?_, Below.refl _ _, rfl⟩
        go_simp
      · refine YS (ZK g4 g7 k X x0 x1 x2 x3) (Yc (by decide) (by decide) (by decide) (by decide)) fun L W0 hc hl hp hW => ?_
        exact Zl rfl (ZF (.inl rfl) fun A W _ h => h.1.trans (ka.slot 22 rfl))
      · refine YS (ZK g4 g7 k X x0 x1 x2 x3) (Yc (by decide) (by decide) (by decide) (by decide)) fun L W0 hc hl hp hW => ?_
        refine Zl rfl (Z7 fun A' W hR h => ?_)
        obtain ⟨h248, _⟩ := h
        replace h248 : A'.tmps[248]?.getD undef = _ := h248
        refine ⟨_, W, ?_, Below.refl _ _, rfl⟩
        go_simp
      · refine YS (ZK g4 g7 k X x0 x1 x2 x3) (Yc (by decide) (by decide) (by decide) (by decide)) fun L W0 hc hl hp hW => ?_
        refine Zl rfl (Z7 fun A' W hR h => ?_)
        obtain ⟨h249, _⟩ := h
        replace h249 : A'.tmps[249]?.getD undef = _ := h249
        refine ⟨_, W, ?_, Below.refl _ _, rfl⟩
        go_simp
      · refine YS (ZK g4 g7 k X x0 x1 x2 x3) (Yc (by decide) (by decide) (by decide) (by decide)) fun L W0 hc hl hp hW => ?_
        exact Zl rfl (ZF (.inl rfl) fun A W _ h => h.1.trans (ka.slot 22 rfl))
      · refine YS (ZK g4 g7 k X x0 x1 x2 x3) (Yc (by decide) (by decide) (by decide) (by decide)) fun L W0 hc hl hp hW => ?_
        refine Zl rfl (Z7 fun A' W hR h => ?_)
        obtain ⟨h251, _⟩ := h
        replace h251 : A'.tmps[251]?.getD undef = _ := h251
        refine ⟨_, W, ?_, Below.refl _ _, rfl⟩
        go_simp
      · refine YS (ZK g4 g7 k X x0 x1 x2 x3) (Yc (by decide) (by decide) (by decide) (by decide)) fun L W0 hc hl hp hW => ?_
        refine Zl rfl (Z7 fun A' W hR h => ?_)
        obtain ⟨h252, _⟩ := h
        replace h252 : A'.tmps[252]?.getD undef = _ := h252
        refine ⟨_, W, ?_, Below.refl _ _, rfl⟩
        go_simp
      · refine YS (ZK g4 g7 k X x0 x1 x2 x3) (Yc (by decide) (by decide) (by decide) (by decide)) fun L W0 hc hl hp hW => ?_
        exact Zl rfl (ZF (.inl rfl) fun A W _ h => h.1.trans (ka.slot 22 rfl))
      · refine YS (ZK g4 g7 k X x0 x1 x2 x3) (Yc (by decide) (by decide) (by decide) (by decide)) fun L W0 hc hl hp hW => ?_
        refine Zl rfl (Z7 fun A' W hR h => ?_)
        obtain ⟨h4, h254, _⟩ := h
        replace h4 := h4.trans (ka.slot 4 rfl)
        replace h254 : A'.tmps[254]?.getD undef = _ := h254
        refine ⟨_, W, ?_, Below.refl _ _, rfl⟩
        go_simp
      · refine YS (ZK g4 g7 k X x0 x1 x2 x3) (Yc (by decide) (by decide) (by decide) (by decide)) fun L W0 hc hl hp hW => ?_
        refine Zl rfl (Z7 fun A' W hR h => ?_)
        obtain ⟨h255, _⟩ := h
        replace h255 : A'.tmps[255]?.getD undef = _ := h255
        have hc := Keeps.of_below hR _ _ (out_cell hW HFX.out hkF)
        refine ⟨_, W, ?_, Below.refl _ _, rfl⟩
        go_simp
      · refine YS (ZK g4 g7 k X x0 x1 x2 x3) (Yc (by decide) (by decide) (by decide) (by decide)) fun L W0 hc hl hp hW => ?_
        refine Zl rfl (Z7 fun A' W hR h => ?_)
        obtain ⟨h256, _⟩ := h
        replace h256 : A'.tmps[256]?.getD undef = _ := h256
        refine ⟨_, W, ?_, Below.refl _ _, rfl⟩
        go_simp
      · refine YS (ZK g4 g7 k X x0 x1 x2 x3) (Yc (by decide) (by decide) (by decide) (by decide)) fun L W0 hc hl hp hW => ?_
        refine Zl rfl (Z7 fun A' W hR h => ?_)
        obtain ⟨h257, _⟩ := h
        replace h257 : A'.tmps[257]?.getD undef = _ := h257
        refine ⟨_, W, ?_, Below.refl _ _, rfl⟩
        go_simp
        all_goals exact Hx0.out
      · refine YS (ZK g4 g7 k X x0 x1 x2 x3) (Yc (by decide) (by decide) (by decide) (by decide)) fun L W0 hc hl hp hW => ?_
        exact Zl rfl (ZF (.inl rfl) fun A W _ h => h.1.trans (ka.slot 22 rfl))
      · refine YS (ZK g4 g7 k X x0 x1 x2 x3) (Yc (by decide) (by decide) (by decide) (by decide)) fun L W0 hc hl hp hW => ?_
        refine Zl rfl (Z7 fun A' W hR h => ?_)
        obtain ⟨h4, h259, _⟩ := h
        replace h4 := h4.trans (ka.slot 4 rfl)
        replace h259 : A'.tmps[259]?.getD undef = _ := h259
        refine ⟨_, W, ?_, Below.refl _ _, rfl⟩
        go_simp
      · refine YS (ZK g4 g7 k X x0 x1 x2 x3) (Yc (by decide) (by decide) (by decide) (by decide)) fun L W0 hc hl hp hW => ?_
        refine Zl rfl (Z7 fun A' W hR h => ?_)
        obtain ⟨h260, _⟩ := h
        replace h260 : A'.tmps[260]?.getD undef = _ := h260
        have hc := Keeps.of_below hR _ _ (out_cell hW HFX.out hkF)
        refine ⟨_, W, ?_, Below.refl _ _, rfl⟩
        go_simp
      · refine YS (ZK g4 g7 k X x0 x1 x2 x3) (Yc (by decide) (by decide) (by decide) (by decide)) fun L W0 hc hl hp hW => ?_
        refine Zl rfl (Z7 fun A' W hR h => ?_)
        obtain ⟨h261, _⟩ := h
        replace h261 : A'.tmps[261]?.getD undef = _ := h261
        refine ⟨_, W, ?_, Below.refl _ _, rfl⟩
        go_simp
      · refine YS (ZK g4 g7 k X x0 x1 x2 x3) (Yc (by decide) (by decide) (by decide) (by decide)) fun L W0 hc hl hp hW => ?_
        refine Zl rfl (Z7 fun A' W hR h => ?_)
        obtain ⟨h262, _⟩ := h
        replace h262 : A'.tmps[262]?.getD undef = _ := h262
        refine ⟨_, W, ?_, Below.refl _ _, rfl⟩
        go_simp
        all_goals exact Hx1.out
      · refine YS (ZK g4 g7 k X x0 x1 x2 x3) (Yc (by decide) (by decide) (by decide) (by decide)) fun L W0 hc hl hp hW => ?_
        exact Zl rfl (ZF (.inl rfl) fun A W _ h => h.1.trans (ka.slot 22 rfl))
      · refine YS (ZK g4 g7 k X x0 x1 x2 x3) (Yc (by decide) (by decide) (by decide) (by decide)) fun L W0 hc hl hp hW => ?_
        refine Zl rfl (Z7 fun A' W hR h => ?_)
        obtain ⟨h4, h264, _⟩ := h
        replace h4 := h4.trans (ka.slot 4 rfl)
        replace h264 : A'.tmps[264]?.getD undef = _ := h264
        refine ⟨_, W, ?_, Below.refl _ _, rfl⟩
        go_simp
      · refine YS (ZK g4 g7 k X x0 x1 x2 x3) (Yc (by decide) (by decide) (by decide) (by decide)) fun L W0 hc hl hp hW => ?_
        refine Zl rfl (Z7 fun A' W hR h => ?_)
        obtain ⟨h265, _⟩ := h
        replace h265 : A'.tmps[265]?.getD undef = _ := h265
        have hc := Keeps.of_below hR _ _ (out_cell hW HFX.out hkF)
        refine ⟨_, W, ?_, Below.refl _ _, rfl⟩
        go_simp
      · refine YS (ZK g4 g7 k X x0 x1 x2 x3) (Yc (by decide) (by decide) (by decide) (by decide)) fun L W0 hc hl hp hW => ?_
        refine Zl rfl (Z7 fun A' W hR h => ?_)
        obtain ⟨h266, _⟩ := h
        replace h266 : A'.tmps[266]?.getD undef = _ := h266
        refine ⟨_, W, ?_, Below.refl _ _, rfl⟩
        go_simp
      · refine YS (ZK g4 g7 k X x0 x1 x2 x3) (Yc (by decide) (by decide) (by decide) (by decide)) fun L W0 hc hl hp hW => ?_
        refine Zl rfl (Z7 fun A' W hR h => ?_)
        obtain ⟨h267, _⟩ := h
        replace h267 : A'.tmps[267]?.getD undef = _ := h267
        refine ⟨_, W, ?_, Below.refl _ _, rfl⟩
        go_simp
        all_goals exact Hx2.out
      · refine YS (ZK g4 g7 k X x0 x1 x2 x3) (Yc (by decide) (by decide) (by decide) (by decide)) fun L W0 hc hl hp hW => ?_
        exact Zl rfl (ZF (.inl rfl) fun A W _ h => h.1.trans (ka.slot 22 rfl))
      · refine YS (ZK g4 g7 k X x0 x1 x2 x3) (Yc (by decide) (by decide) (by decide) (by decide)) fun L W0 hc hl hp hW => ?_
        refine Zl rfl (Z7 fun A' W hR h => ?_)
        obtain ⟨h4, h269, _⟩ := h
        replace h4 := h4.trans (ka.slot 4 rfl)
        replace h269 : A'.tmps[269]?.getD undef = _ := h269
        refine ⟨_, W, ?_, Below.refl _ _, rfl⟩
        go_simp
      · refine YS (ZK g4 g7 k X x0 x1 x2 x3) (Yc (by decide) (by decide) (by decide) (by decide)) fun L W0 hc hl hp hW => ?_
        refine Zl rfl (Z7 fun A' W hR h => ?_)
        obtain ⟨h270, _⟩ := h
        replace h270 : A'.tmps[270]?.getD undef = _ := h270
        have hc := Keeps.of_below hR _ _ (out_cell hW HFX.out hkF)
        refine ⟨_, W, ?_, Below.refl _ _, rfl⟩
        go_simp
      · refine YS (ZK g4 g7 k X x0 x1 x2 x3) (Yc (by decide) (by decide) (by decide) (by decide)) fun L W0 hc hl hp hW => ?_
        refine Zl rfl (Z7 fun A' W hR h => ?_)
        obtain ⟨h271, _⟩ := h
        replace h271 : A'.tmps[271]?.getD undef = _ := h271
        refine ⟨_, W, ?_, Below.refl _ _, rfl⟩
        go_simp
        all_goals exact Hx3.out
      · refine YS (ZK g4 g7 k X x0 x1 x2 x3) (Yc (by decide) (by decide) (by decide) (by decide)) fun L W0 hc hl hp hW => ?_
        refine Zl rfl (Z7 fun A' W hR h => ?_)
        obtain ⟨h21, h244, _⟩ := h
        replace h21 := h21.trans (ka.slot 21 rfl)
        replace h244 : A'.tmps[244]?.getD undef = _ := h244
        refine ⟨_, W, ?_, Below.refl _ _, rfl⟩
        go_simp
      · refine vl_store (fun L A W _ => WX rfl A) fun L A' W hc hl hp hW h => ?_
        obtain ⟨h273, h258, _⟩ := h
        replace h273 : A'.tmps[273]?.getD undef = _ := h273
        replace h258 : A'.tmps[258]?.getD undef = _ := h258
        obtain ⟨y, hy⟩ := out_old hW (i := 4 * k) (by omega)
        have hf := out_free hW (i := 4 * k)
        refine ⟨W.setCell ⟨g7, 4 * k, none⟩ (.int .u8 (x0.toNat : Int)), ?_, out_st31 hl hW (by omega), ?_, trivial⟩
        · exact Xb 273 258 rfl h273 h258 hy hf
        · exact WB ..
      · refine YS (ZK g4 g7 k X x0 x1 x2 x3) (Yc (by decide) (by decide) (by decide) (by decide)) fun L W0 hc hl hp hW => ?_
        refine Zl rfl (Z7 fun A' W hR h => ?_)
        obtain ⟨h21, h247, _⟩ := h
        replace h21 := h21.trans (ka.slot 21 rfl)
        replace h247 : A'.tmps[247]?.getD undef = _ := h247
        refine ⟨_, W, ?_, Below.refl _ _, rfl⟩
        go_simp
      · refine vl_store (fun L A W _ => WX rfl A) fun L A' W hc hl hp hW h => ?_
        obtain ⟨h274, h263, _⟩ := h
        replace h274 : A'.tmps[274]?.getD undef = _ := h274
        replace h263 : A'.tmps[263]?.getD undef = _ := h263
        obtain ⟨y, hy⟩ := out_old hW (i := 4 * k + 1) (by omega)
        have hf := out_free hW (i := 4 * k + 1)
        refine ⟨W.setCell ⟨g7, 4 * k + 1, none⟩ (.int .u8 (x1.toNat : Int)), ?_, out_st33 hl hW (by omega), ?_, trivial⟩
        · exact Xb 274 263 rfl h274 h263 hy hf
        · exact WB ..
      · refine YS (ZK g4 g7 k X x0 x1 x2 x3) (Yc (by decide) (by decide) (by decide) (by decide)) fun L W0 hc hl hp hW => ?_
        refine Zl rfl (Z7 fun A' W hR h => ?_)
        obtain ⟨h21, h250, _⟩ := h
        replace h21 := h21.trans (ka.slot 21 rfl)
        replace h250 : A'.tmps[250]?.getD undef = _ := h250
        refine ⟨_, W, ?_, Below.refl _ _, rfl⟩
        go_simp
      · refine vl_store (fun L A W _ => WX rfl A) fun L A' W hc hl hp hW h => ?_
        obtain ⟨h275, h268, _⟩ := h
        replace h275 : A'.tmps[275]?.getD undef = _ := h275
        replace h268 : A'.tmps[268]?.getD undef = _ := h268
        obtain ⟨y, hy⟩ := out_old hW (i := 4 * k + 2) (by omega)
        have hf := out_free hW (i := 4 * k + 2)
        refine ⟨W.setCell ⟨g7, 4 * k + 2, none⟩ (.int .u8 (x2.toNat : Int)), ?_, out_st35 hl hW (by omega), ?_, trivial⟩
        · exact Xb 275 268 rfl h275 h268 hy hf
        · exact WB ..
      · refine YS (ZK g4 g7 k X x0 x1 x2 x3) (Yc (by decide) (by decide) (by decide) (by decide)) fun L W0 hc hl hp hW => ?_
        refine Zl rfl (Z7 fun A' W hR h => ?_)
        obtain ⟨h21, h253, _⟩ := h
        replace h21 := h21.trans (ka.slot 21 rfl)
        replace h253 : A'.tmps[253]?.getD undef = _ := h253
        refine ⟨_, W, ?_, Below.refl _ _, rfl⟩
        go_simp
      · refine vl_store (fun L A W _ => WX rfl A) fun L A' W hc hl hp hW h => ?_
        obtain ⟨h276, h272, _⟩ := h
        replace h276 : A'.tmps[276]?.getD undef = _ := h276
        replace h272 : A'.tmps[272]?.getD undef = _ := h272
        obtain ⟨y, hy⟩ := out_old hW (i := 4 * k + 3) (by omega)
        have hf := out_free hW (i := 4 * k + 3)
        refine ⟨W.setCell ⟨g7, 4 * k + 3, none⟩ (.int .u8 (x3.toNat : Int)), ?_, out_st37 hl hW (by omega), ?_, trivial⟩
        · exact Xb 276 272 rfl h276 h272 hy hf
        · exact WB ..
    case start => exact ⟨hbw.drew, b7, n27, n47, hlt8, H2.out, H4.out, H7.out⟩
    case fin =>
      intro L A' W hd hs hl hW he hr
      have kn := kn_after ka [2, 4, 21, 22] (by kernel_rfl) hd hs hr
      clear he hd hs hr ka
      obtain ⟨a1, a2, a3, a4, a5, a6, a7, a8⟩ := hW
      rw [outB_four F k hlt8 x0 x1 x2 x3 (by rw [HFX.out]; exact G0.out) (by rw [HFX.out]; exact G1.out) (by rw [HFX.out]; exact G2.out) (by rw [HFX.out]; exact G3.out) L hl] at a8
      have A6 := Lib.hid a6
      have A7 := Lib.hid a7
      have A8 := Lib.hid a8
      clear hl a6 a7 a8 e0 e1 e2 e3 t0 t1 t2 t3 i0 i1 i2 i3 j0 j1 j2 j3
      refine kq_of _ _ ?_ kn
      clear kn A' a
      simp only [nrm, lk, Nat.reduceBEq, cond_true, cond_false]
      repeat (first | refine Zv ?_ | refine Zs ?_ | refine Zu ?_ | refine Zc ?_ | refine Zq ?_ | refine Zm ?_ | refine Zp ?_ | refine Zw ?_ | refine Zf ?_ | refine Zd rfl ?_ | refine Zj rfl ?_ | refine Ze ?_ | refine Z3 ?_ | refine Zk ?_ | refine Zg ?_ | refine Zi ?_ | refine Zy rfl ?_ | refine Zx rfl ?_ | refine Zz rfl rfl ?_ | refine Zt rfl rfl rfl rfl ?_ | refine Zr rfl rfl rfl ?_ | (first | refine Zb rfl rfl (.inl rfl) rfl rfl ?_ | refine Zb rfl rfl (.inr rfl) rfl rfl ?_ | refine Za rfl rfl (.inl rfl) rfl ?_ | refine Za rfl rfl (.inr rfl) rfl ?_) | ((first | refine Zn rfl rfl rfl fun K hK => ?_ | refine Zh rfl rfl rfl fun K hK => ?_); go_simp; (try go_bits); (first | refine hK _ _ ?_ | refine hK _ ?_); clear hK K))
      refine Yk (8 - (k + 1)) [2, 4, 21, 22] (by omega) ?_
      simp only [nrm, lk, Nat.reduceBEq, cond_true, cond_false]
      exact ⟨k + 1, by omega, rfl, by congr 1, a1, A6.out, A7.out, A8.out⟩
  · obtain rfl : k = 8 := by omega
    have H2 := Lib.hid h2
    have H7 := Lib.hid h7
    clear h2 h4 h7
    repeat (first | refine Zv ?_ | refine Zs ?_ | refine Zu ?_ | refine Zc ?_ | refine Zq ?_ | refine Zm ?_ | refine Zp ?_ | refine Zw ?_ | refine Zf ?_ | refine Zd rfl ?_ | refine Zj rfl ?_ | refine Ze ?_ | refine Z3 ?_ | refine Zk ?_ | refine Zg ?_ | refine Zi ?_ | refine Zy rfl ?_ | refine Zx rfl ?_ | refine Zz rfl rfl ?_ | refine Zt rfl rfl rfl rfl ?_ | refine Zr rfl rfl rfl ?_ | (first | refine Zb rfl rfl (.inl rfl) rfl rfl ?_ | refine Zb rfl rfl (.inr rfl) rfl rfl ?_ | refine Za rfl rfl (.inl rfl) rfl ?_ | refine Za rfl rfl (.inr rfl) rfl ?_) | ((first | refine Zn rfl rfl rfl fun K hK => ?_ | refine Zh rfl rfl rfl fun K hK => ?_); go_simp; (try go_bits); (first | refine hK _ _ ?_ | refine hK _ ?_); clear hK K))
    refine KQ.less [2, 21] ?_
    simp only [nrm, lk, Nat.reduceBEq, cond_true, cond_false]
    refine HQ.out _ hbw H2.out ?_
    have h := H7.out
    simpa using h
end Go.Proofs.Ytkncomkncfcecaa
