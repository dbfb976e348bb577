/- The document's sum: sixteen words of a piece. -/
import Derived.Test.YtkncomkncfcecaaRs
set_option linter.unusedVariables false
set_option linter.unusedSimpArgs false
namespace Go.Proofs.Ytkncomkncfcecaa
open Go.RowKit
attribute [local go_sem] Y1 Yl Yp ZT Yy Yo ZI ZO Yi ZN ZH ZU
set_option maxRecDepth 100000 in
set_option maxHeartbeats 1600000 in
theorem rs_loop4 {Q : Exit → Act → World → Prop} {w wr : World} {b o q c5 p j g2 g3 g4 g8 : Nat} {P B : List UInt8} {S W : List W32} (ha : Ap w b g2 g3 g4 g8) (hq47 : q ≤ 1099511627776 + 72) (hqc : q ≤ c5) (hc5 : c5 ≤ 9223372036854775807) (hpq : p + 64 ≤ q) (HP64 : Hid (p = 64 * j)) (HB : Hid ((P.drop (64 * j)).take 64 = B)) (hW : Hid (W.length = 64))
    (h : Sh w b o q P g2 g3 g4 g8 S W wr) (hQ : ∀ wr', Sh w b o q P g2 g3 g4 g8 S (wl B 16 ++ W.drop 16) wr' → KQ Q .normal 278 [(2, .pointer (some ⟨g2, 0, none⟩)), (3, .pointer (some ⟨g3, 0, none⟩)), (4, .pointer (some ⟨g4, 0, none⟩)), (5, .slice (some ⟨b, o, none⟩) q c5), (8, .pointer (some ⟨g8, 0, none⟩)), (9, .int .i64 (p : Int))] wr') :
    KW Try.prog (blockOf Try.f18 6) Q 278 [(2, .pointer (some ⟨g2, 0, none⟩)), (3, .pointer (some ⟨g3, 0, none⟩)), (4, .pointer (some ⟨g4, 0, none⟩)), (5, .slice (some ⟨b, o, none⟩) q c5), (8, .pointer (some ⟨g8, 0, none⟩)), (9, .int .i64 (p : Int)), (10, .int .i64 0)] wr := by
  conv => arg 2; whnf
  have HQ := Lib.hid hQ
  clear hQ
  refine Zs ?_
  refine Yw (fun m L wr => ∃ k, k ≤ 16 ∧ m = 16 - k ∧ L = [(2, .pointer (some ⟨g2, 0, none⟩)), (3, .pointer (some ⟨g3, 0, none⟩)), (4, .pointer (some ⟨g4, 0, none⟩)), (5, .slice (some ⟨b, o, none⟩) q c5), (8, .pointer (some ⟨g8, 0, none⟩)), (9, .int .i64 (p : Int)), (10, .int .i64 (k : Int))] ∧ Sh w b o q P g2 g3 g4 g8 S (wl B k ++ W.drop k) wr) ⟨0, by omega, rfl, rfl, h⟩ ?_
  clear h wr
  rintro m L wr ⟨k, hk, rfl, rfl, h⟩
  have HS := Lib.hid h
  by_cases hlt4 : k < 16
  · have hk1 : (k : Int) < 16 := by omega
    have hk64 : (k : Int) < 64 := by omega
    have hk0 : (0 : Int) ≤ k := by omega
    obtain ⟨s, hs⟩ : ∃ s, p + 4 * k = s := ⟨_, rfl⟩
    have e0 : IntKind.i64.wrap (4 * (k : Int)) = 4 * k := IntWalk.i64_in _ (by omega)
    have es : (p : Int) + 4 * k = s := by omega
    have e1 : IntKind.i64.wrap ((p : Int) + 4 * k) = s := by rw [es]; exact IntWalk.i64_in _ (by omega)
    have f1 : IntKind.i64.wrap ((s : Int) + 1) = s + 1 := IntWalk.i64_in _ (by omega)
    have f2 : IntKind.i64.wrap ((s : Int) + 2) = s + 2 := IntWalk.i64_in _ (by omega)
    have f3 : IntKind.i64.wrap ((s : Int) + 3) = s + 3 := IntWalk.i64_in _ (by omega)
    have t1 : ((s : Int) + 1).toNat = s + 1 := by omega
    have t2 : ((s : Int) + 2).toNat = s + 2 := by omega
    have t3 : ((s : Int) + 3).toNat = s + 3 := by omega
    have i0 : (s : Int) < q := by omega
    have i1 : (s : Int) + 1 < q := by omega
    have i2 : (s : Int) + 2 < q := by omega
    have i3 : (s : Int) + 3 < q := by omega
    have j0 : 0 ≤ (s : Int) := by omega
    have j1 : 0 ≤ (s : Int) + 1 := by omega
    have j2 : 0 ≤ (s : Int) + 2 := by omega
    have j3 : 0 ≤ (s : Int) + 3 := by omega
    obtain ⟨x0, hx0, c0⟩ := Ws h.B (show s < q by omega)
    obtain ⟨x1, hx1, c1⟩ := Ws h.B (show s + 1 < q by omega)
    obtain ⟨x2, hx2, c2⟩ := Ws h.B (show s + 2 < q by omega)
    obtain ⟨x3, hx3, c3⟩ := Ws h.B (show s + 3 < q by omega)
    have E1 := Lib.hid (be4_code x0 x1 x2 x3)
    have E2 : be4 x0 x1 x2 x3 = be32 B (4 * k) := by
      rw [← HB.out, be32_piece _ _ _ (by omega), ← HP64.out, hs, hx0.out, hx1.out, hx2.out, hx3.out]
    have E2 := Lib.hid E2
    clear hs hx0 hx1 hx2 hx3 h
    repeat (first | refine Zv ?_ | refine Zs ?_ | refine Zu ?_ | refine Zc ?_ | refine Zq ?_ | refine Zm ?_ | refine Zp ?_ | refine Zw ?_ | refine Zf ?_ | refine Zd rfl ?_ | refine Zj rfl ?_ | refine Ze ?_ | refine Z3 ?_ | refine Zk ?_ | refine Zg ?_ | refine Zi ?_ | refine Zy rfl ?_ | refine Zx rfl ?_ | refine Zz rfl rfl ?_ | refine Zt rfl rfl rfl rfl ?_ | refine Zr rfl rfl rfl ?_ | (first | refine Zb rfl rfl (.inl rfl) rfl rfl ?_ | refine Zb rfl rfl (.inr rfl) rfl rfl ?_ | refine Za rfl rfl (.inl rfl) rfl ?_ | refine Za rfl rfl (.inr rfl) rfl ?_) | ((first | refine Zn rfl rfl rfl fun K hK => ?_ | refine Zh rfl rfl rfl fun K hK => ?_); go_simp; (try go_bits); (first | refine hK _ _ ?_ | refine hK _ ?_); clear hK K))
    refine KW.less [2, 3, 4, 5, 8, 9, 10, 11] ?_
    simp only [nrm, lk, Nat.reduceBEq, cond_true, cond_false]
    refine We 31 [none, none, none, none, none, none, none, none, none, none, none, none, none, none, none, none, none, none, none, none, none, none, none, none, none, none, none, none, none, none, none]
      [[(10, none)], [(5, none)], [(11, none)], [(70, some 1), (71, some 2)], [(72, some 3)], [(73, some 4)], [(74, some 5)], [(5, none)], [(11, none)], [(77, some 8)], [(76, some 7), (78, some 9)], [(79, some 10)], [(80, some 11)], [(81, some 12)], [(75, some 6), (82, some 13)], [(5, none)], [(11, none)], [(85, some 16)], [(84, some 15), (86, some 17)], [(87, some 18)], [(88, some 19)], [(89, some 20)], [(83, some 14), (90, some 21)], [(5, none)], [(11, none)], [(93, some 24)], [(92, some 23), (94, some 25)], [(95, some 26)], [(96, some 27)], [(91, some 22), (97, some 28)], [(8, none), (69, some 0)]]
      [2, 3, 4, 5, 8, 9, 10] (by kernel_rfl) (by kernel_rfl) (by kernel_rfl) (by kernel_rfl) (by kernel_rfl)
      trivial ?_
    repeat (first | apply W5 | apply W8)
    refine exs_nil (And.intro ?v1_vc ?v1_fin)
    case v1_vc =>
      refine ⟨?_, ?_, ?_, ?_, ?_, ?_, ?_, ?_, ?_, ?_, ?_, ?_, ?_, ?_, ?_, ?_, ?_, ?_, ?_, ?_, ?_, ?_, ?_, ?_, ?_, ?_, ?_, ?_, ?_, ?_, ?_, trivial⟩
      · exact Yz rfl (.inl rfl) fun A W _ h => h.1 _ rfl
      · exact Yz rfl (.inl rfl) fun A W _ h => h.1 _ rfl
      · exact Yz rfl (.inl rfl) fun A W _ h => h.1 _ rfl
      · refine ZA rfl fun A W hR h N hN => ?_
        refine ZV N ?_
        obtain ⟨h70, h71, _⟩ := h
        replace h70 : A.tmps[70]?.getD undef = _ := h70
        replace h71 : A.tmps[71]?.getD undef = _ := h71
        go_simp
        (try go_bits)
        exact hN _ _ (Below.refl _ _) rfl
      · refine ZA rfl fun A W hR h N hN => ?_
        refine ZV N ?_
        obtain ⟨h72, _⟩ := h
        replace h72 : A.tmps[72]?.getD undef = _ := h72
        have c0 := Keeps.of_below hR _ _ c0
        have c1 := Keeps.of_below hR _ _ c1
        have c2 := Keeps.of_below hR _ _ c2
        have c3 := Keeps.of_below hR _ _ c3
        go_simp
        (try go_bits)
        exact hN _ _ (Below.refl _ _) rfl
      · refine ZA rfl fun A W hR h N hN => ?_
        refine ZV N ?_
        obtain ⟨h73, _⟩ := h
        replace h73 : A.tmps[73]?.getD undef = _ := h73
        go_simp
        (try go_bits)
        exact hN _ _ (Below.refl _ _) rfl
      · refine ZA rfl fun A W hR h N hN => ?_
        refine ZV N ?_
        obtain ⟨h74, _⟩ := h
        replace h74 : A.tmps[74]?.getD undef = _ := h74
        go_simp
        (try go_bits)
        exact hN _ _ (Below.refl _ _) rfl
      · exact Yz rfl (.inl rfl) fun A W _ h => h.1 _ rfl
      · exact Yz rfl (.inl rfl) fun A W _ h => h.1 _ rfl
      · refine ZA rfl fun A W hR h N hN => ?_
        refine ZV N ?_
        obtain ⟨h77, _⟩ := h
        replace h77 : A.tmps[77]?.getD undef = _ := h77
        go_simp
        (try go_bits)
        exact hN _ _ (Below.refl _ _) rfl
      · refine ZA rfl fun A W hR h N hN => ?_
        refine ZV N ?_
        obtain ⟨h76, h78, _⟩ := h
        replace h76 : A.tmps[76]?.getD undef = _ := h76
        replace h78 : A.tmps[78]?.getD undef = _ := h78
        go_simp
        (try go_bits)
        exact hN _ _ (Below.refl _ _) rfl
      · refine ZA rfl fun A W hR h N hN => ?_
        refine ZV N ?_
        obtain ⟨h79, _⟩ := h
        replace h79 : A.tmps[79]?.getD undef = _ := h79
        have c0 := Keeps.of_below hR _ _ c0
        have c1 := Keeps.of_below hR _ _ c1
        have c2 := Keeps.of_below hR _ _ c2
        have c3 := Keeps.of_below hR _ _ c3
        go_simp
        (try go_bits)
        exact hN _ _ (Below.refl _ _) rfl
      · refine ZA rfl fun A W hR h N hN => ?_
        refine ZV N ?_
        obtain ⟨h80, _⟩ := h
        replace h80 : A.tmps[80]?.getD undef = _ := h80
        go_simp
        (try go_bits)
        exact hN _ _ (Below.refl _ _) rfl
      · refine ZA rfl fun A W hR h N hN => ?_
        refine ZV N ?_
        obtain ⟨h81, _⟩ := h
        replace h81 : A.tmps[81]?.getD undef = _ := h81
        go_simp
        (try go_bits)
        exact hN _ _ (Below.refl _ _) rfl
      · refine ZA rfl fun A W hR h N hN => ?_
        refine ZV N ?_
        obtain ⟨h75, h82, _⟩ := h
        replace h75 : A.tmps[75]?.getD undef = _ := h75
        replace h82 : A.tmps[82]?.getD undef = _ := h82
        go_simp
        (try go_bits)
        exact hN _ _ (Below.refl _ _) rfl
      · exact Yz rfl (.inl rfl) fun A W _ h => h.1 _ rfl
      · exact Yz rfl (.inl rfl) fun A W _ h => h.1 _ rfl
      · refine ZA rfl fun A W hR h N hN => ?_
        refine ZV N ?_
        obtain ⟨h85, _⟩ := h
        replace h85 : A.tmps[85]?.getD undef = _ := h85
        go_simp
        (try go_bits)
        exact hN _ _ (Below.refl _ _) rfl
      · refine ZA rfl fun A W hR h N hN => ?_
        refine ZV N ?_
        obtain ⟨h84, h86, _⟩ := h
        replace h84 : A.tmps[84]?.getD undef = _ := h84
        replace h86 : A.tmps[86]?.getD undef = _ := h86
        go_simp
        (try go_bits)
        exact hN _ _ (Below.refl _ _) rfl
      · refine ZA rfl fun A W hR h N hN => ?_
        refine ZV N ?_
        obtain ⟨h87, _⟩ := h
        replace h87 : A.tmps[87]?.getD undef = _ := h87
        have c0 := Keeps.of_below hR _ _ c0
        have c1 := Keeps.of_below hR _ _ c1
        have c2 := Keeps.of_below hR _ _ c2
        have c3 := Keeps.of_below hR _ _ c3
        go_simp
        (try go_bits)
        exact hN _ _ (Below.refl _ _) rfl
      · refine ZA rfl fun A W hR h N hN => ?_
        refine ZV N ?_
        obtain ⟨h88, _⟩ := h
        replace h88 : A.tmps[88]?.getD undef = _ := h88
        go_simp
        (try go_bits)
        exact hN _ _ (Below.refl _ _) rfl
      · refine ZA rfl fun A W hR h N hN => ?_
        refine ZV N ?_
        obtain ⟨h89, _⟩ := h
        replace h89 : A.tmps[89]?.getD undef = _ := h89
        go_simp
        (try go_bits)
        exact hN _ _ (Below.refl _ _) rfl
      · refine ZA rfl fun A W hR h N hN => ?_
        refine ZV N ?_
        obtain ⟨h83, h90, _⟩ := h
        replace h83 : A.tmps[83]?.getD undef = _ := h83
        replace h90 : A.tmps[90]?.getD undef = _ := h90
        go_simp
        (try go_bits)
        exact hN _ _ (Below.refl _ _) rfl
      · exact Yz rfl (.inl rfl) fun A W _ h => h.1 _ rfl
      · exact Yz rfl (.inl rfl) fun A W _ h => h.1 _ rfl
      · refine ZA rfl fun A W hR h N hN => ?_
        refine ZV N ?_
        obtain ⟨h93, _⟩ := h
        replace h93 : A.tmps[93]?.getD undef = _ := h93
        go_simp
        (try go_bits)
        exact hN _ _ (Below.refl _ _) rfl
      · refine ZA rfl fun A W hR h N hN => ?_
        refine ZV N ?_
        obtain ⟨h92, h94, _⟩ := h
        replace h92 : A.tmps[92]?.getD undef = _ := h92
        replace h94 : A.tmps[94]?.getD undef = _ := h94
        go_simp
        (try go_bits)
        exact hN _ _ (Below.refl _ _) rfl
      · refine ZA rfl fun A W hR h N hN => ?_
        refine ZV N ?_
        obtain ⟨h95, _⟩ := h
        replace h95 : A.tmps[95]?.getD undef = _ := h95
        have c0 := Keeps.of_below hR _ _ c0
        have c1 := Keeps.of_below hR _ _ c1
        have c2 := Keeps.of_below hR _ _ c2
        have c3 := Keeps.of_below hR _ _ c3
        go_simp
        (try go_bits)
        exact hN _ _ (Below.refl _ _) rfl
      · refine ZA rfl fun A W hR h N hN => ?_
        refine ZV N ?_
        obtain ⟨h96, _⟩ := h
        replace h96 : A.tmps[96]?.getD undef = _ := h96
        go_simp
        (try go_bits)
        exact hN _ _ (Below.refl _ _) rfl
      · refine ZA rfl fun A W hR h N hN => ?_
        refine ZV N ?_
        obtain ⟨h91, h97, _⟩ := h
        replace h91 : A.tmps[91]?.getD undef = _ := h91
        replace h97 : A.tmps[97]?.getD undef = _ := h97
        go_simp
        (try go_bits)
        exact hN _ _ (Below.refl _ _) rfl
      · refine ZA rfl fun A W hR h N hN => ?_
        refine ZV N ?_
        obtain ⟨h8, h69, _⟩ := h
        have h8 := h8 _ rfl
        replace h69 : A.tmps[69]?.getD undef = _ := h69
        go_simp
        (try go_bits)
        exact hN _ _ (Below.refl _ _) rfl
    case v1_fin =>
      intro fa fW fk hR he
      have e0 := he.1
      have e29 := he.2.2.2.2.2.2.2.2.2.2.2.2.2.2.2.2.2.2.2.2.2.2.2.2.2.2.2.2.2.1
      have e30 := he.2.2.2.2.2.2.2.2.2.2.2.2.2.2.2.2.2.2.2.2.2.2.2.2.2.2.2.2.2.2.1
      clear he
      replace e0 : fa.tmps[69]?.getD undef = _ := e0
      replace fk := fk.more 69 _ e0
      clear e0
      replace e29 : fa.tmps[98]?.getD undef = _ := e29
      replace fk := fk.more 98 _ e29
      clear e29
      replace e30 : fa.tmps[99]?.getD undef = _ := e30
      replace fk := fk.more 99 _ e30
      clear e30
      have h := HS.out.next hR
      clear HS c0 c1 c2 c3 e0 e1 es f1 f2 f3 t1 t2 t3 i0 i1 i2 i3 j0 j1 j2 j3
      have d1 : fW.cell? ⟨g8, k, none⟩ = some (.int .u32 (((wl B k ++ W.drop k).getD k 0).toNat : Int)) := YA h.h8 (by rw [List.length_append, YJ, List.length_drop, hW.out]; omega)
      have f8 : fW.frozen? ⟨g8, k, none⟩ = false := Z6 h.h8
      have HS := Lib.hid h
      clear h hR
      refine kl_of _ _ ?_ fk
      clear fk fa
      simp only [nrm, lk, Nat.reduceBEq, cond_true, cond_false, List.take_succ_cons, List.take_zero, List.drop_succ_cons, List.drop_zero]
      repeat (first | refine Zv ?_ | refine Zs ?_ | refine Zu ?_ | refine Zc ?_ | refine Zq ?_ | refine Zm ?_ | refine Zp ?_ | refine Zw ?_ | refine Zf ?_ | refine Zd rfl ?_ | refine Zj rfl ?_ | refine Ze ?_ | refine Z3 ?_ | refine Zk ?_ | refine Zg ?_ | refine Zi ?_ | refine Zy rfl ?_ | refine Zx rfl ?_ | refine Zz rfl rfl ?_ | refine Zt rfl rfl rfl rfl ?_ | refine Zr rfl rfl rfl ?_ | (first | refine Zb rfl rfl (.inl rfl) rfl rfl ?_ | refine Zb rfl rfl (.inr rfl) rfl rfl ?_ | refine Za rfl rfl (.inl rfl) rfl ?_ | refine Za rfl rfl (.inr rfl) rfl ?_) | ((first | refine Zn rfl rfl rfl fun K hK => ?_ | refine Zh rfl rfl rfl fun K hK => ?_); go_simp; (try go_bits); (first | refine hK _ _ ?_ | refine hK _ ?_); clear hK K))
      refine Yk (16 - (k + 1)) [2, 3, 4, 5, 8, 9, 10] (by omega) ?_
      simp only [nrm, lk, Nat.reduceBEq, cond_true, cond_false]
      refine ⟨k + 1, by omega, rfl, by congr 1, ?_⟩
      rw [E1.out, E2.out, ← wl_setR B k (by omega) W hW.out _ (wl_low B k hlt4)]
      exact HS.out.set8 ha k _
  · obtain rfl : k = 16 := by omega
    clear h
    repeat (first | refine Zv ?_ | refine Zs ?_ | refine Zu ?_ | refine Zc ?_ | refine Zq ?_ | refine Zm ?_ | refine Zp ?_ | refine Zw ?_ | refine Zf ?_ | refine Zd rfl ?_ | refine Zj rfl ?_ | refine Ze ?_ | refine Z3 ?_ | refine Zk ?_ | refine Zg ?_ | refine Zi ?_ | refine Zy rfl ?_ | refine Zx rfl ?_ | refine Zz rfl rfl ?_ | refine Zt rfl rfl rfl rfl ?_ | refine Zr rfl rfl rfl ?_ | (first | refine Zb rfl rfl (.inl rfl) rfl rfl ?_ | refine Zb rfl rfl (.inr rfl) rfl rfl ?_ | refine Za rfl rfl (.inl rfl) rfl ?_ | refine Za rfl rfl (.inr rfl) rfl ?_) | ((first | refine Zn rfl rfl rfl fun K hK => ?_ | refine Zh rfl rfl rfl fun K hK => ?_); go_simp; (try go_bits); (first | refine hK _ _ ?_ | refine hK _ ?_); clear hK K))
    refine KQ.less [2, 3, 4, 5, 8, 9] ?_
    simp only [nrm, lk, Nat.reduceBEq, cond_true, cond_false]
    exact HQ.out _ HS.out
end Go.Proofs.Ytkncomkncfcecaa
