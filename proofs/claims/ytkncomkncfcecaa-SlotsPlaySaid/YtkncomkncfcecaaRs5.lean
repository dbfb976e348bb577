/- The document's sum: the other words of a piece. -/
import Derived.Test.YtkncomkncfcecaaRs
set_option linter.unusedVariables false
set_option linter.unusedSimpArgs false
namespace Go.Proofs.Ytkncomkncfcecaa
open Go.RowKit
attribute [local go_sem] Y1 Yl Yp ZT Yy Yo ZI ZO Yi ZN ZH ZU
set_option maxRecDepth 100000 in
set_option maxHeartbeats 1600000 in
theorem rs_loop5 {Q : Exit → Act → World → Prop} {w wr : World} {b o q c5 p g2 g3 g4 g8 : Nat} {P B : List UInt8} {S W : List W32} (ha : Ap w b g2 g3 g4 g8) (hW : Hid (W.length = 64))
    (h : Sh w b o q P g2 g3 g4 g8 S (wl B 16 ++ W.drop 16) wr) (hQ : ∀ wr', Sh w b o q P g2 g3 g4 g8 S (wl B 64) wr' → KQ Q .normal 278 [(2, .pointer (some ⟨g2, 0, none⟩)), (3, .pointer (some ⟨g3, 0, none⟩)), (4, .pointer (some ⟨g4, 0, none⟩)), (5, .slice (some ⟨b, o, none⟩) q c5), (8, .pointer (some ⟨g8, 0, none⟩)), (9, .int .i64 (p : Int))] wr') :
    KW Try.prog (blockOf Try.f18 8) Q 278 [(2, .pointer (some ⟨g2, 0, none⟩)), (3, .pointer (some ⟨g3, 0, none⟩)), (4, .pointer (some ⟨g4, 0, none⟩)), (5, .slice (some ⟨b, o, none⟩) q c5), (8, .pointer (some ⟨g8, 0, none⟩)), (9, .int .i64 (p : Int)), (12, .int .i64 16)] wr := by
  conv => arg 2; whnf
  have HQ := Lib.hid hQ
  clear hQ
  refine Zs ?_
  refine Yw (fun m L wr => ∃ k, 16 ≤ k ∧ k ≤ 64 ∧ m = 64 - k ∧ L = [(2, .pointer (some ⟨g2, 0, none⟩)), (3, .pointer (some ⟨g3, 0, none⟩)), (4, .pointer (some ⟨g4, 0, none⟩)), (5, .slice (some ⟨b, o, none⟩) q c5), (8, .pointer (some ⟨g8, 0, none⟩)), (9, .int .i64 (p : Int)), (12, .int .i64 (k : Int))] ∧ Sh w b o q P g2 g3 g4 g8 S (wl B k ++ W.drop k) wr) ⟨16, by omega, by omega, rfl, rfl, h⟩ ?_
  clear h wr
  rintro m L wr ⟨k, hk16, hk, rfl, rfl, h⟩
  have HS := Lib.hid h
  by_cases hlt5 : k < 64
  · have hk1 : (k : Int) < 64 := by omega
    have hk0 : (0 : Int) ≤ k := by omega
    have e15 : IntKind.i64.wrap ((k : Int) - 15) = k - 15 := IntWalk.i64_in _ (by omega)
    have e2 : IntKind.i64.wrap ((k : Int) - 2) = k - 2 := IntWalk.i64_in _ (by omega)
    have e16 : IntKind.i64.wrap ((k : Int) - 16) = k - 16 := IntWalk.i64_in _ (by omega)
    have e7 : IntKind.i64.wrap ((k : Int) - 7) = k - 7 := IntWalk.i64_in _ (by omega)
    have t15 : ((k : Int) - 15).toNat = k - 15 := by omega
    have t2 : ((k : Int) - 2).toNat = k - 2 := by omega
    have t16 : ((k : Int) - 16).toNat = k - 16 := by omega
    have t7 : ((k : Int) - 7).toNat = k - 7 := by omega
    have i15 : (k : Int) - 15 < 64 := by omega
    have i2 : (k : Int) - 2 < 64 := by omega
    have i16 : (k : Int) - 16 < 64 := by omega
    have i7 : (k : Int) - 7 < 64 := by omega
    have j15 : 0 ≤ (k : Int) - 15 := by omega
    have j2 : 0 ≤ (k : Int) - 2 := by omega
    have j16 : 0 ≤ (k : Int) - 16 := by omega
    have j7 : 0 ≤ (k : Int) - 7 := by omega
    have q16 : (16 : Int) ≤ k := by omega
    have q7 : (7 : Int) ≤ k := by omega
    have q15 : (15 : Int) ≤ k := by omega
    have q2 : (2 : Int) ≤ k := by omega
    have c15 := Wo h.h8 (show k - 15 < k by omega)
    have c2 := Wo h.h8 (show k - 2 < k by omega)
    have c16 := Wo h.h8 (show k - 16 < k by omega)
    have c7 := Wo h.h8 (show k - 7 < k by omega)
    have EW := Lib.hid (wl_high B k hk16)
    generalize (wl B k).getD (k - 15) 0 = x15 at c15 EW
    generalize (wl B k).getD (k - 2) 0 = x2 at c2 EW
    generalize (wl B k).getD (k - 16) 0 = x16 at c16 EW
    generalize (wl B k).getD (k - 7) 0 = x7 at c7 EW
    clear h
    repeat (first | refine Zv ?_ | refine Zs ?_ | refine Zu ?_ | refine Zc ?_ | refine Zq ?_ | refine Zm ?_ | refine Zp ?_ | refine Zw ?_ | refine Zf ?_ | refine Zd rfl ?_ | refine Zj rfl ?_ | refine Ze ?_ | refine Z3 ?_ | refine Zk ?_ | refine Zg ?_ | refine Zi ?_ | refine Zy rfl ?_ | refine Zx rfl ?_ | refine Zz rfl rfl ?_ | refine Zt rfl rfl rfl rfl ?_ | refine Zr rfl rfl rfl ?_ | (first | refine Zb rfl rfl (.inl rfl) rfl rfl ?_ | refine Zb rfl rfl (.inr rfl) rfl rfl ?_ | refine Za rfl rfl (.inl rfl) rfl ?_ | refine Za rfl rfl (.inr rfl) rfl ?_) | ((first | refine Zn rfl rfl rfl fun K hK => ?_ | refine Zh rfl rfl rfl fun K hK => ?_); go_simp; (try go_bits); (first | refine hK _ _ ?_ | refine hK _ ?_); clear hK K))
    refine KW.less [2, 3, 4, 5, 8, 9, 12] ?_
    simp only [nrm, lk, Nat.reduceBEq, cond_true, cond_false]
    refine WP [none, none, none, none, none, none, none, none, none, none]
      [[(12, none)], [(104, some 0)], [(8, none), (105, some 1)], [(106, some 2)], [(12, none)], [(108, some 4)], [(8, none), (109, some 5)], [(110, some 6)], [(107, some 3)], [(111, some 7)]]
      [2, 3, 4, 5, 8, 9, 12] (by kernel_rfl) (by kernel_rfl) (by kernel_rfl) (by kernel_rfl)
      trivial ?_
    repeat (first | apply W5 | apply W8)
    refine exs_nil (And.intro ?v2_vc ?v2_fin)
    case v2_vc =>
      refine ⟨?_, ?_, ?_, ?_, ?_, ?_, ?_, ?_, ?_, ?_, trivial⟩
      · exact Yz rfl (.inl rfl) fun A W _ h => h.1 _ rfl
      · refine ZA rfl fun A W hR h N hN => ?_
        refine ZV N ?_
        obtain ⟨h104, _⟩ := h
        replace h104 : A.tmps[104]?.getD undef = _ := h104
        go_simp
        (try go_bits)
        exact hN _ _ (Below.refl _ _) rfl
      · refine ZA rfl fun A W hR h N hN => ?_
        refine ZV N ?_
        obtain ⟨h8, h105, _⟩ := h
        have h8 := h8 _ rfl
        replace h105 : A.tmps[105]?.getD undef = _ := h105
        go_simp
        (try go_bits)
        exact hN _ _ (Below.refl _ _) rfl
      · refine ZA rfl fun A W hR h N hN => ?_
        refine ZV N ?_
        obtain ⟨h106, _⟩ := h
        replace h106 : A.tmps[106]?.getD undef = _ := h106
        have c15 := Keeps.of_below hR _ _ c15
        have c2 := Keeps.of_below hR _ _ c2
        have c16 := Keeps.of_below hR _ _ c16
        have c7 := Keeps.of_below hR _ _ c7
        go_simp
        (try go_bits)
        exact hN _ _ (Below.refl _ _) rfl
      · exact Yz rfl (.inl rfl) fun A W _ h => h.1 _ rfl
      · refine ZA rfl fun A W hR h N hN => ?_
        refine ZV N ?_
        obtain ⟨h108, _⟩ := h
        replace h108 : A.tmps[108]?.getD undef = _ := h108
        go_simp
        (try go_bits)
        exact hN _ _ (Below.refl _ _) rfl
      · refine ZA rfl fun A W hR h N hN => ?_
        refine ZV N ?_
        obtain ⟨h8, h109, _⟩ := h
        have h8 := h8 _ rfl
        replace h109 : A.tmps[109]?.getD undef = _ := h109
        go_simp
        (try go_bits)
        exact hN _ _ (Below.refl _ _) rfl
      · refine ZA rfl fun A W hR h N hN => ?_
        refine ZV N ?_
        obtain ⟨h110, _⟩ := h
        replace h110 : A.tmps[110]?.getD undef = _ := h110
        have c15 := Keeps.of_below hR _ _ c15
        have c2 := Keeps.of_below hR _ _ c2
        have c16 := Keeps.of_below hR _ _ c16
        have c7 := Keeps.of_below hR _ _ c7
        go_simp
        (try go_bits)
        exact hN _ _ (Below.refl _ _) rfl
      · exact Yz rfl (.inr rfl) fun A W _ h => h.1
      · exact Yz rfl (.inr rfl) fun A W _ h => h.1
    case v2_fin =>
      intro fa fW fk hR he
      have e8 := he.2.2.2.2.2.2.2.2.1
      have e9 := he.2.2.2.2.2.2.2.2.2.1
      clear he
      replace e8 : fa.tmps[13]?.getD undef = _ := e8
      replace fk := fk.more 13 _ e8
      clear e8
      replace e9 : fa.tmps[14]?.getD undef = _ := e9
      replace fk := fk.more 14 _ e9
      clear e9
      have h := HS.out.next hR
      have c16 := Keeps.of_below hR _ _ c16
      have c7 := Keeps.of_below hR _ _ c7
      clear HS c15 c2
      have HS := Lib.hid h
      clear h hR
      refine kq_of _ _ ?_ fk
      clear fk fa
      simp only [nrm, lk, Nat.reduceBEq, cond_true, cond_false, List.take_succ_cons, List.take_zero, List.drop_succ_cons, List.drop_zero]
      repeat (first | refine Zv ?_ | refine Zs ?_ | refine Zu ?_ | refine Zc ?_ | refine Zq ?_ | refine Zm ?_ | refine Zp ?_ | refine Zw ?_ | refine Zf ?_ | refine Zd rfl ?_ | refine Zj rfl ?_ | refine Ze ?_ | refine Z3 ?_ | refine Zk ?_ | refine Zg ?_ | refine Zi ?_ | refine Zy rfl ?_ | refine Zx rfl ?_ | refine Zz rfl rfl ?_ | refine Zt rfl rfl rfl rfl ?_ | refine Zr rfl rfl rfl ?_ | (first | refine Zb rfl rfl (.inl rfl) rfl rfl ?_ | refine Zb rfl rfl (.inr rfl) rfl rfl ?_ | refine Za rfl rfl (.inl rfl) rfl ?_ | refine Za rfl rfl (.inr rfl) rfl ?_) | ((first | refine Zn rfl rfl rfl fun K hK => ?_ | refine Zh rfl rfl rfl fun K hK => ?_); go_simp; (try go_bits); (first | refine hK _ _ ?_ | refine hK _ ?_); clear hK K))
      refine We 29 [none, none, none, none, none, none, none, none, none, none, none, none, none, none, none, none, none, none, none, none, none, none, none, none, none, none, none, none, none]
        [[(12, none)], [(14, none)], [(113, some 1)], [(14, none)], [(115, some 3)], [(114, some 2), (116, some 4)], [(14, none)], [(118, some 6)], [(117, some 5), (119, some 7)], [(12, none)], [(121, some 9)], [(8, none), (122, some 10)], [(123, some 11)], [(120, some 8), (124, some 12)], [(13, none)], [(126, some 14)], [(13, none)], [(128, some 16)], [(127, some 15), (129, some 17)], [(13, none)], [(131, some 19)], [(130, some 18), (132, some 20)], [(125, some 13), (133, some 21)], [(12, none)], [(135, some 23)], [(8, none), (136, some 24)], [(137, some 25)], [(134, some 22), (138, some 26)], [(8, none), (112, some 0)]]
        [2, 3, 4, 5, 8, 9, 12] (by kernel_rfl) (by kernel_rfl) (by kernel_rfl) (by kernel_rfl) (by kernel_rfl)
        trivial ?_
      repeat (first | apply W5 | apply W8)
      refine exs_nil (And.intro ?v3_vc ?v3_fin)
      case v3_vc =>
        refine ⟨?_, ?_, ?_, ?_, ?_, ?_, ?_, ?_, ?_, ?_, ?_, ?_, ?_, ?_, ?_, ?_, ?_, ?_, ?_, ?_, ?_, ?_, ?_, ?_, ?_, ?_, ?_, ?_, ?_, trivial⟩
        · exact Yz rfl (.inl rfl) fun A W _ h => h.1 _ rfl
        · exact Yz rfl (.inl rfl) fun A W _ h => h.1 _ rfl
        · refine XF rfl rfl Try.func42 rfl (by kernel_rfl) fun A W hR h => ?_
          obtain ⟨h113, _⟩ := h
          replace h113 : A.tmps[113]?.getD undef = _ := h113
          show Calls _ _ #[A.tmps[113]?.getD undef, _] _ _
          rw [h113]
          refine Calls.mono (WI x2 17 17 rfl (by omega) (by omega) _) ?_
          rintro e W' ⟨rfl, rfl⟩
          exact ⟨_, rfl, Below.refl _ _, rfl⟩
        · exact Yz rfl (.inl rfl) fun A W _ h => h.1 _ rfl
        · refine XF rfl rfl Try.func42 rfl (by kernel_rfl) fun A W hR h => ?_
          obtain ⟨h115, _⟩ := h
          replace h115 : A.tmps[115]?.getD undef = _ := h115
          show Calls _ _ #[A.tmps[115]?.getD undef, _] _ _
          rw [h115]
          refine Calls.mono (WI x2 19 19 rfl (by omega) (by omega) _) ?_
          rintro e W' ⟨rfl, rfl⟩
          exact ⟨_, rfl, Below.refl _ _, rfl⟩
        · refine ZA rfl fun A W hR h N hN => ?_
          refine ZV N ?_
          obtain ⟨h114, h116, _⟩ := h
          replace h114 : A.tmps[114]?.getD undef = _ := h114
          replace h116 : A.tmps[116]?.getD undef = _ := h116
          go_simp
          (try go_bits)
          exact hN _ _ (Below.refl _ _) rfl
        · exact Yz rfl (.inl rfl) fun A W _ h => h.1 _ rfl
        · refine ZA rfl fun A W hR h N hN => ?_
          refine ZV N ?_
          obtain ⟨h118, _⟩ := h
          replace h118 : A.tmps[118]?.getD undef = _ := h118
          go_simp
          (try go_bits)
          exact hN _ _ (Below.refl _ _) rfl
        · refine ZA rfl fun A W hR h N hN => ?_
          refine ZV N ?_
          obtain ⟨h117, h119, _⟩ := h
          replace h117 : A.tmps[117]?.getD undef = _ := h117
          replace h119 : A.tmps[119]?.getD undef = _ := h119
          go_simp
          (try go_bits)
          exact hN _ _ (Below.refl _ _) rfl
        · exact Yz rfl (.inl rfl) fun A W _ h => h.1 _ rfl
        · refine ZA rfl fun A W hR h N hN => ?_
          refine ZV N ?_
          obtain ⟨h121, _⟩ := h
          replace h121 : A.tmps[121]?.getD undef = _ := h121
          go_simp
          (try go_bits)
          exact hN _ _ (Below.refl _ _) rfl
        · refine ZA rfl fun A W hR h N hN => ?_
          refine ZV N ?_
          obtain ⟨h8, h122, _⟩ := h
          have h8 := h8 _ rfl
          replace h122 : A.tmps[122]?.getD undef = _ := h122
          go_simp
          (try go_bits)
          exact hN _ _ (Below.refl _ _) rfl
        · refine ZA rfl fun A W hR h N hN => ?_
          refine ZV N ?_
          obtain ⟨h123, _⟩ := h
          replace h123 : A.tmps[123]?.getD undef = _ := h123
          have c16 := Keeps.of_below hR _ _ c16
          have c7 := Keeps.of_below hR _ _ c7
          go_simp
          (try go_bits)
          exact hN _ _ (Below.refl _ _) rfl
        · refine ZA rfl fun A W hR h N hN => ?_
          refine ZV N ?_
          obtain ⟨h120, h124, _⟩ := h
          replace h120 : A.tmps[120]?.getD undef = _ := h120
          replace h124 : A.tmps[124]?.getD undef = _ := h124
          go_simp
          (try go_bits)
          exact hN _ _ (Below.refl _ _) rfl
        · exact Yz rfl (.inl rfl) fun A W _ h => h.1 _ rfl
        · refine XF rfl rfl Try.func42 rfl (by kernel_rfl) fun A W hR h => ?_
          obtain ⟨h126, _⟩ := h
          replace h126 : A.tmps[126]?.getD undef = _ := h126
          show Calls _ _ #[A.tmps[126]?.getD undef, _] _ _
          rw [h126]
          refine Calls.mono (WI x15 7 7 rfl (by omega) (by omega) _) ?_
          rintro e W' ⟨rfl, rfl⟩
          exact ⟨_, rfl, Below.refl _ _, rfl⟩
        · exact Yz rfl (.inl rfl) fun A W _ h => h.1 _ rfl
        · refine XF rfl rfl Try.func42 rfl (by kernel_rfl) fun A W hR h => ?_
          obtain ⟨h128, _⟩ := h
          replace h128 : A.tmps[128]?.getD undef = _ := h128
          show Calls _ _ #[A.tmps[128]?.getD undef, _] _ _
          rw [h128]
          refine Calls.mono (WI x15 18 18 rfl (by omega) (by omega) _) ?_
          rintro e W' ⟨rfl, rfl⟩
          exact ⟨_, rfl, Below.refl _ _, rfl⟩
        · refine ZA rfl fun A W hR h N hN => ?_
          refine ZV N ?_
          obtain ⟨h127, h129, _⟩ := h
          replace h127 : A.tmps[127]?.getD undef = _ := h127
          replace h129 : A.tmps[129]?.getD undef = _ := h129
          go_simp
          (try go_bits)
          exact hN _ _ (Below.refl _ _) rfl
        · exact Yz rfl (.inl rfl) fun A W _ h => h.1 _ rfl
        · refine ZA rfl fun A W hR h N hN => ?_
          refine ZV N ?_
          obtain ⟨h131, _⟩ := h
          replace h131 : A.tmps[131]?.getD undef = _ := h131
          go_simp
          (try go_bits)
          exact hN _ _ (Below.refl _ _) rfl
        · refine ZA rfl fun A W hR h N hN => ?_
          refine ZV N ?_
          obtain ⟨h130, h132, _⟩ := h
          replace h130 : A.tmps[130]?.getD undef = _ := h130
          replace h132 : A.tmps[132]?.getD undef = _ := h132
          go_simp
          (try go_bits)
          exact hN _ _ (Below.refl _ _) rfl
        · refine ZA rfl fun A W hR h N hN => ?_
          refine ZV N ?_
          obtain ⟨h125, h133, _⟩ := h
          replace h125 : A.tmps[125]?.getD undef = _ := h125
          replace h133 : A.tmps[133]?.getD undef = _ := h133
          go_simp
          (try go_bits)
          exact hN _ _ (Below.refl _ _) rfl
        · exact Yz rfl (.inl rfl) fun A W _ h => h.1 _ rfl
        · refine ZA rfl fun A W hR h N hN => ?_
          refine ZV N ?_
          obtain ⟨h135, _⟩ := h
          replace h135 : A.tmps[135]?.getD undef = _ := h135
          go_simp
          (try go_bits)
          exact hN _ _ (Below.refl _ _) rfl
        · refine ZA rfl fun A W hR h N hN => ?_
          refine ZV N ?_
          obtain ⟨h8, h136, _⟩ := h
          have h8 := h8 _ rfl
          replace h136 : A.tmps[136]?.getD undef = _ := h136
          go_simp
          (try go_bits)
          exact hN _ _ (Below.refl _ _) rfl
        · refine ZA rfl fun A W hR h N hN => ?_
          refine ZV N ?_
          obtain ⟨h137, _⟩ := h
          replace h137 : A.tmps[137]?.getD undef = _ := h137
          have c16 := Keeps.of_below hR _ _ c16
          have c7 := Keeps.of_below hR _ _ c7
          go_simp
          (try go_bits)
          exact hN _ _ (Below.refl _ _) rfl
        · refine ZA rfl fun A W hR h N hN => ?_
          refine ZV N ?_
          obtain ⟨h134, h138, _⟩ := h
          replace h134 : A.tmps[134]?.getD undef = _ := h134
          replace h138 : A.tmps[138]?.getD undef = _ := h138
          go_simp
          (try go_bits)
          exact hN _ _ (Below.refl _ _) rfl
        · refine ZA rfl fun A W hR h N hN => ?_
          refine ZV N ?_
          obtain ⟨h8, h112, _⟩ := h
          have h8 := h8 _ rfl
          replace h112 : A.tmps[112]?.getD undef = _ := h112
          go_simp
          (try go_bits)
          exact hN _ _ (Below.refl _ _) rfl
      case v3_fin =>
        intro fa fW fk hR he
        have e0 := he.1
        have e27 := he.2.2.2.2.2.2.2.2.2.2.2.2.2.2.2.2.2.2.2.2.2.2.2.2.2.2.2.1
        have e28 := he.2.2.2.2.2.2.2.2.2.2.2.2.2.2.2.2.2.2.2.2.2.2.2.2.2.2.2.2.1
        clear he
        replace e0 : fa.tmps[112]?.getD undef = _ := e0
        replace fk := fk.more 112 _ e0
        clear e0
        replace e27 : fa.tmps[139]?.getD undef = _ := e27
        replace fk := fk.more 139 _ e27
        clear e27
        replace e28 : fa.tmps[140]?.getD undef = _ := e28
        replace fk := fk.more 140 _ e28
        clear e28
        have h := HS.out.next hR
        clear HS e15 e2 e16 e7 t15 t2 t16 t7 i15 i2 i16 i7 j15 j2 j16 j7 c16 c7
        have d1 : fW.cell? ⟨g8, k, none⟩ = some (.int .u32 (((wl B k ++ W.drop k).getD k 0).toNat : Int)) := YA h.h8 (by rw [List.length_append, YJ, List.length_drop, hW.out]; omega)
        have f8 : fW.frozen? ⟨g8, k, none⟩ = false := Z6 h.h8
        have HS := Lib.hid h
        have E1 := Lib.hid (next_ref x16 x15 x7 x2)
        clear h hR
        refine kl_of _ _ ?_ fk
        clear fk fa
        simp only [nrm, lk, Nat.reduceBEq, cond_true, cond_false, List.take_succ_cons, List.take_zero, List.drop_succ_cons, List.drop_zero]
        repeat (first | refine Zv ?_ | refine Zs ?_ | refine Zu ?_ | refine Zc ?_ | refine Zq ?_ | refine Zm ?_ | refine Zp ?_ | refine Zw ?_ | refine Zf ?_ | refine Zd rfl ?_ | refine Zj rfl ?_ | refine Ze ?_ | refine Z3 ?_ | refine Zk ?_ | refine Zg ?_ | refine Zi ?_ | refine Zy rfl ?_ | refine Zx rfl ?_ | refine Zz rfl rfl ?_ | refine Zt rfl rfl rfl rfl ?_ | refine Zr rfl rfl rfl ?_ | (first | refine Zb rfl rfl (.inl rfl) rfl rfl ?_ | refine Zb rfl rfl (.inr rfl) rfl rfl ?_ | refine Za rfl rfl (.inl rfl) rfl ?_ | refine Za rfl rfl (.inr rfl) rfl ?_) | ((first | refine Zn rfl rfl rfl fun K hK => ?_ | refine Zh rfl rfl rfl fun K hK => ?_); go_simp; (try go_bits); (first | refine hK _ _ ?_ | refine hK _ ?_); clear hK K))
        refine Yk (64 - (k + 1)) [2, 3, 4, 5, 8, 9, 12] (by omega) ?_
        simp only [nrm, lk, Nat.reduceBEq, cond_true, cond_false]
        refine ⟨k + 1, by omega, by omega, rfl, by congr 1, ?_⟩
        rw [E1.out, ← wl_setR B k (by omega) W hW.out _ EW.out]
        exact HS.out.set8 ha k _
  · obtain rfl : k = 64 := by omega
    clear h
    repeat (first | refine Zv ?_ | refine Zs ?_ | refine Zu ?_ | refine Zc ?_ | refine Zq ?_ | refine Zm ?_ | refine Zp ?_ | refine Zw ?_ | refine Zf ?_ | refine Zd rfl ?_ | refine Zj rfl ?_ | refine Ze ?_ | refine Z3 ?_ | refine Zk ?_ | refine Zg ?_ | refine Zi ?_ | refine Zy rfl ?_ | refine Zx rfl ?_ | refine Zz rfl rfl ?_ | refine Zt rfl rfl rfl rfl ?_ | refine Zr rfl rfl rfl ?_ | (first | refine Zb rfl rfl (.inl rfl) rfl rfl ?_ | refine Zb rfl rfl (.inr rfl) rfl rfl ?_ | refine Za rfl rfl (.inl rfl) rfl ?_ | refine Za rfl rfl (.inr rfl) rfl ?_) | ((first | refine Zn rfl rfl rfl fun K hK => ?_ | refine Zh rfl rfl rfl fun K hK => ?_); go_simp; (try go_bits); (first | refine hK _ _ ?_ | refine hK _ ?_); clear hK K))
    refine KQ.less [2, 3, 4, 5, 8, 9] ?_
    simp only [nrm, lk, Nat.reduceBEq, cond_true, cond_false]
    refine HQ.out _ ?_
    have h := HS.out
    rw [List.drop_of_length_le (by rw [hW.out]; exact Nat.le_refl _), List.append_nil] at h
    exact h
end Go.Proofs.Ytkncomkncfcecaa
