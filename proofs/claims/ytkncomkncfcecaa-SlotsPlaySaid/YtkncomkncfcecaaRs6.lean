/- The document's sum: the rounds of a piece. -/
import Derived.Test.YtkncomkncfcecaaRs
set_option linter.unusedVariables false
set_option linter.unusedSimpArgs false
namespace Go.Proofs.Ytkncomkncfcecaa
open Go.RowKit
attribute [local go_sem] Y1 Yl Yp ZT Yy Yo ZI ZO Yi ZN ZH ZU
set_option maxRecDepth 100000 in
set_option maxHeartbeats 1600000 in
theorem rs_loop6 {Q : Exit → Act → World → Prop} {w wr : World} {b o q c5 p g2 g3 g4 g8 g15 : Nat} {P B : List UInt8} {S L : List W32} {s0 : ShaSt} (ha : Ap w b g2 g3 g4 g8) (ha15 : A15 w b g2 g3 g4 g8 g15) (hL : Hid (wl B 64 = L)) (hLL : Hid (L.length = 64))
    (h : Sh w b o q P g2 g3 g4 g8 S L wr) (h15 : wr.heap[g15]? = some (.cells (wv s0.words).toArray 83 (0, 0)))
    (hQ : ∀ wr', Sh w b o q P g2 g3 g4 g8 S L wr' → wr'.heap[g15]? = some (.cells (wv (rounds B s0 64).words).toArray 83 (0, 0)) → KQ Q .normal 278 [(2, .pointer (some ⟨g2, 0, none⟩)), (3, .pointer (some ⟨g3, 0, none⟩)), (4, .pointer (some ⟨g4, 0, none⟩)), (5, .slice (some ⟨b, o, none⟩) q c5), (8, .pointer (some ⟨g8, 0, none⟩)), (9, .int .i64 (p : Int)), (15, .pointer (some ⟨g15, 0, none⟩))] wr') :
    KW Try.prog (blockOf Try.f18 10) Q 278 [(2, .pointer (some ⟨g2, 0, none⟩)), (3, .pointer (some ⟨g3, 0, none⟩)), (4, .pointer (some ⟨g4, 0, none⟩)), (5, .slice (some ⟨b, o, none⟩) q c5), (8, .pointer (some ⟨g8, 0, none⟩)), (9, .int .i64 (p : Int)), (15, .pointer (some ⟨g15, 0, none⟩)), (16, .int .i64 0)] wr := by
  conv => arg 2; whnf
  have HQ := Lib.hid hQ
  clear hQ
  refine Zs ?_
  refine Yw (fun m L' wr => ∃ (k : Nat) (t : ShaSt), k ≤ 64 ∧ m = 64 - k ∧ Hid (t = rounds B s0 k) ∧ L' = [(2, .pointer (some ⟨g2, 0, none⟩)), (3, .pointer (some ⟨g3, 0, none⟩)), (4, .pointer (some ⟨g4, 0, none⟩)), (5, .slice (some ⟨b, o, none⟩) q c5), (8, .pointer (some ⟨g8, 0, none⟩)), (9, .int .i64 (p : Int)), (15, .pointer (some ⟨g15, 0, none⟩)), (16, .int .i64 (k : Int))] ∧ Sh w b o q P g2 g3 g4 g8 S L wr ∧ wr.heap[g15]? = some (.cells (wv t.words).toArray 83 (0, 0))) ⟨0, s0, by omega, rfl, rfl, rfl, h, h15⟩ ?_
  clear h h15 wr
  rintro m L' wr ⟨k, t, hk, rfl, HT, rfl, h, h15⟩
  have HS := Lib.hid h
  have H15 := Lib.hid h15
  by_cases hlt6 : k < 64
  · have hk1 : (k : Int) < 64 := by omega
    have hk0 : (0 : Int) ≤ k := by omega
    have c0 : wr.cell? ⟨g15, 0, none⟩ = some (.int .u32 (t.a.toNat : Int)) := YA h15 (i := 0) (by show 0 < 8; omega)
    have c1 : wr.cell? ⟨g15, 1, none⟩ = some (.int .u32 (t.b.toNat : Int)) := YA h15 (i := 1) (by show 1 < 8; omega)
    have c2 : wr.cell? ⟨g15, 2, none⟩ = some (.int .u32 (t.c.toNat : Int)) := YA h15 (i := 2) (by show 2 < 8; omega)
    have c3 : wr.cell? ⟨g15, 3, none⟩ = some (.int .u32 (t.d.toNat : Int)) := YA h15 (i := 3) (by show 3 < 8; omega)
    have c4 : wr.cell? ⟨g15, 4, none⟩ = some (.int .u32 (t.e.toNat : Int)) := YA h15 (i := 4) (by show 4 < 8; omega)
    have c5_ : wr.cell? ⟨g15, 5, none⟩ = some (.int .u32 (t.f.toNat : Int)) := YA h15 (i := 5) (by show 5 < 8; omega)
    have c6 : wr.cell? ⟨g15, 6, none⟩ = some (.int .u32 (t.g.toNat : Int)) := YA h15 (i := 6) (by show 6 < 8; omega)
    have c7 : wr.cell? ⟨g15, 7, none⟩ = some (.int .u32 (t.h.toNat : Int)) := YA h15 (i := 7) (by show 7 < 8; omega)
    obtain ⟨xk, hxk⟩ : ∃ x, ks.getD k 0 = x := ⟨_, rfl⟩
    obtain ⟨xw, hxw⟩ : ∃ x, L.getD k 0 = x := ⟨_, rfl⟩
    have ck : wr.cell? ⟨g3, k, none⟩ = some (.int .u32 (xk.toNat : Int)) := by rw [← hxk]; exact YA h.h3 (by rw [XN]; exact hlt6)
    have cw : wr.cell? ⟨g8, k, none⟩ = some (.int .u32 (xw.toNat : Int)) := by rw [← hxw]; exact YA h.h8 (by rw [hLL.out]; exact hlt6)
    have HXK := Lib.hid hxk
    have HXW := Lib.hid hxw
    clear h h15 hxk hxw
    repeat (first | refine Zv ?_ | refine Zs ?_ | refine Zu ?_ | refine Zc ?_ | refine Zq ?_ | refine Zm ?_ | refine Zp ?_ | refine Zw ?_ | refine Zf ?_ | refine Zd rfl ?_ | refine Zj rfl ?_ | refine Ze ?_ | refine Z3 ?_ | refine Zk ?_ | refine Zg ?_ | refine Zi ?_ | refine Zy rfl ?_ | refine Zx rfl ?_ | refine Zz rfl rfl ?_ | refine Zt rfl rfl rfl rfl ?_ | refine Zr rfl rfl rfl ?_ | (first | refine Zb rfl rfl (.inl rfl) rfl rfl ?_ | refine Zb rfl rfl (.inr rfl) rfl rfl ?_ | refine Za rfl rfl (.inl rfl) rfl ?_ | refine Za rfl rfl (.inr rfl) rfl ?_) | ((first | refine Zn rfl rfl rfl fun K hK => ?_ | refine Zh rfl rfl rfl fun K hK => ?_); go_simp; (try go_bits); (first | refine hK _ _ ?_ | refine hK _ ?_); clear hK K))
    refine KW.less [2, 3, 4, 5, 8, 9, 15, 16, 17] ?_
    simp only [nrm, lk, Nat.reduceBEq, cond_true, cond_false]
    refine WP [none, none, none, none, none, none, none, none, none, none, none, none, none, none, none, none, none, none, none, none, none, none, none, none, none, none, none, none, none, none, none]
      [[(15, none)], [(148, some 0)], [(17, none)], [(150, some 2)], [(17, none)], [(152, some 4)], [(151, some 3), (153, some 5)], [(17, none)], [(155, some 7)], [(154, some 6), (156, some 8)], [(149, some 1), (157, some 9)], [(17, none)], [(15, none)], [(160, some 12)], [(159, some 11), (161, some 13)], [(17, none)], [(163, some 15)], [(15, none)], [(165, some 17)], [(164, some 16), (166, some 18)], [(162, some 14), (167, some 19)], [(158, some 10), (168, some 20)], [(16, none)], [(3, none), (170, some 22)], [(171, some 23)], [(169, some 21), (172, some 24)], [(16, none)], [(8, none), (174, some 26)], [(175, some 27)], [(173, some 25), (176, some 28)], [(177, some 29)]]
      [2, 3, 4, 5, 8, 9, 15, 16, 17] (by kernel_rfl) (by kernel_rfl) (by kernel_rfl) (by kernel_rfl)
      trivial ?_
    repeat (first | apply W5 | apply W8)
    refine exs_nil (And.intro ?v1_vc ?v1_fin)
    case v1_vc =>
      refine ⟨?_, ?_, ?_, ?_, ?_, ?_, ?_, ?_, ?_, ?_, ?_, ?_, ?_, ?_, ?_, ?_, ?_, ?_, ?_, ?_, ?_, ?_, ?_, ?_, ?_, ?_, ?_, ?_, ?_, ?_, ?_, trivial⟩
      · refine ZA rfl fun A W hR h N hN => ?_
        refine ZV N ?_
        obtain ⟨h15, _⟩ := h
        have h15 := h15 _ rfl
        go_simp
        (try go_bits)
        exact hN _ _ (Below.refl _ _) rfl
      · refine ZA rfl fun A W hR h N hN => ?_
        refine ZV N ?_
        obtain ⟨h148, _⟩ := h
        replace h148 : A.tmps[148]?.getD undef = _ := h148
        have c5_ := Keeps.of_below hR _ _ c5_
        have c6 := Keeps.of_below hR _ _ c6
        have c7 := Keeps.of_below hR _ _ c7
        have ck := Keeps.of_below hR _ _ ck
        have cw := Keeps.of_below hR _ _ cw
        go_simp
        (try go_bits)
        exact hN _ _ (Below.refl _ _) rfl
      · exact Yz rfl (.inl rfl) fun A W _ h => h.1 _ rfl
      · refine XF rfl rfl Try.func42 rfl (by kernel_rfl) fun A W hR h => ?_
        obtain ⟨h150, _⟩ := h
        replace h150 : A.tmps[150]?.getD undef = _ := h150
        show Calls _ _ #[A.tmps[150]?.getD undef, _] _ _
        rw [h150]
        refine Calls.mono (WI t.e 6 6 rfl (by omega) (by omega) _) ?_
        rintro e W' ⟨rfl, rfl⟩
        exact ⟨_, rfl, Below.refl _ _, rfl⟩
      · exact Yz rfl (.inl rfl) fun A W _ h => h.1 _ rfl
      · refine XF rfl rfl Try.func42 rfl (by kernel_rfl) fun A W hR h => ?_
        obtain ⟨h152, _⟩ := h
        replace h152 : A.tmps[152]?.getD undef = _ := h152
        show Calls _ _ #[A.tmps[152]?.getD undef, _] _ _
        rw [h152]
        refine Calls.mono (WI t.e 11 11 rfl (by omega) (by omega) _) ?_
        rintro e W' ⟨rfl, rfl⟩
        exact ⟨_, rfl, Below.refl _ _, rfl⟩
      · refine ZA rfl fun A W hR h N hN => ?_
        refine ZV N ?_
        obtain ⟨h151, h153, _⟩ := h
        replace h151 : A.tmps[151]?.getD undef = _ := h151
        replace h153 : A.tmps[153]?.getD undef = _ := h153
        go_simp
        (try go_bits)
        exact hN _ _ (Below.refl _ _) rfl
      · exact Yz rfl (.inl rfl) fun A W _ h => h.1 _ rfl
      · refine XF rfl rfl Try.func42 rfl (by kernel_rfl) fun A W hR h => ?_
        obtain ⟨h155, _⟩ := h
        replace h155 : A.tmps[155]?.getD undef = _ := h155
        show Calls _ _ #[A.tmps[155]?.getD undef, _] _ _
        rw [h155]
        refine Calls.mono (WI t.e 25 25 rfl (by omega) (by omega) _) ?_
        rintro e W' ⟨rfl, rfl⟩
        exact ⟨_, rfl, Below.refl _ _, rfl⟩
      · refine ZA rfl fun A W hR h N hN => ?_
        refine ZV N ?_
        obtain ⟨h154, h156, _⟩ := h
        replace h154 : A.tmps[154]?.getD undef = _ := h154
        replace h156 : A.tmps[156]?.getD undef = _ := h156
        go_simp
        (try go_bits)
        exact hN _ _ (Below.refl _ _) rfl
      · refine ZA rfl fun A W hR h N hN => ?_
        refine ZV N ?_
        obtain ⟨h149, h157, _⟩ := h
        replace h149 : A.tmps[149]?.getD undef = _ := h149
        replace h157 : A.tmps[157]?.getD undef = _ := h157
        go_simp
        (try go_bits)
        exact hN _ _ (Below.refl _ _) rfl
      · exact Yz rfl (.inl rfl) fun A W _ h => h.1 _ rfl
      · refine ZA rfl fun A W hR h N hN => ?_
        refine ZV N ?_
        obtain ⟨h15, _⟩ := h
        have h15 := h15 _ rfl
        go_simp
        (try go_bits)
        exact hN _ _ (Below.refl _ _) rfl
      · refine ZA rfl fun A W hR h N hN => ?_
        refine ZV N ?_
        obtain ⟨h160, _⟩ := h
        replace h160 : A.tmps[160]?.getD undef = _ := h160
        have c5_ := Keeps.of_below hR _ _ c5_
        have c6 := Keeps.of_below hR _ _ c6
        have c7 := Keeps.of_below hR _ _ c7
        have ck := Keeps.of_below hR _ _ ck
        have cw := Keeps.of_below hR _ _ cw
        go_simp
        (try go_bits)
        exact hN _ _ (Below.refl _ _) rfl
      · refine ZA rfl fun A W hR h N hN => ?_
        refine ZV N ?_
        obtain ⟨h159, h161, _⟩ := h
        replace h159 : A.tmps[159]?.getD undef = _ := h159
        replace h161 : A.tmps[161]?.getD undef = _ := h161
        go_simp
        (try go_bits)
        exact hN _ _ (Below.refl _ _) rfl
      · exact Yz rfl (.inl rfl) fun A W _ h => h.1 _ rfl
      · refine ZA rfl fun A W hR h N hN => ?_
        refine ZV N ?_
        obtain ⟨h163, _⟩ := h
        replace h163 : A.tmps[163]?.getD undef = _ := h163
        go_simp
        (try go_bits)
        exact hN _ _ (Below.refl _ _) rfl
      · refine ZA rfl fun A W hR h N hN => ?_
        refine ZV N ?_
        obtain ⟨h15, _⟩ := h
        have h15 := h15 _ rfl
        go_simp
        (try go_bits)
        exact hN _ _ (Below.refl _ _) rfl
      · refine ZA rfl fun A W hR h N hN => ?_
        refine ZV N ?_
        obtain ⟨h165, _⟩ := h
        replace h165 : A.tmps[165]?.getD undef = _ := h165
        have c5_ := Keeps.of_below hR _ _ c5_
        have c6 := Keeps.of_below hR _ _ c6
        have c7 := Keeps.of_below hR _ _ c7
        have ck := Keeps.of_below hR _ _ ck
        have cw := Keeps.of_below hR _ _ cw
        go_simp
        (try go_bits)
        exact hN _ _ (Below.refl _ _) rfl
      · refine ZA rfl fun A W hR h N hN => ?_
        refine ZV N ?_
        obtain ⟨h164, h166, _⟩ := h
        replace h164 : A.tmps[164]?.getD undef = _ := h164
        replace h166 : A.tmps[166]?.getD undef = _ := h166
        go_simp
        (try go_bits)
        exact hN _ _ (Below.refl _ _) rfl
      · refine ZA rfl fun A W hR h N hN => ?_
        refine ZV N ?_
        obtain ⟨h162, h167, _⟩ := h
        replace h162 : A.tmps[162]?.getD undef = _ := h162
        replace h167 : A.tmps[167]?.getD undef = _ := h167
        go_simp
        (try go_bits)
        exact hN _ _ (Below.refl _ _) rfl
      · refine ZA rfl fun A W hR h N hN => ?_
        refine ZV N ?_
        obtain ⟨h158, h168, _⟩ := h
        replace h158 : A.tmps[158]?.getD undef = _ := h158
        replace h168 : A.tmps[168]?.getD undef = _ := h168
        go_simp
        (try go_bits)
        exact hN _ _ (Below.refl _ _) rfl
      · exact Yz rfl (.inl rfl) fun A W _ h => h.1 _ rfl
      · refine ZA rfl fun A W hR h N hN => ?_
        refine ZV N ?_
        obtain ⟨h3, h170, _⟩ := h
        have h3 := h3 _ rfl
        replace h170 : A.tmps[170]?.getD undef = _ := h170
        go_simp
        (try go_bits)
        exact hN _ _ (Below.refl _ _) rfl
      · refine ZA rfl fun A W hR h N hN => ?_
        refine ZV N ?_
        obtain ⟨h171, _⟩ := h
        replace h171 : A.tmps[171]?.getD undef = _ := h171
        have c5_ := Keeps.of_below hR _ _ c5_
        have c6 := Keeps.of_below hR _ _ c6
        have c7 := Keeps.of_below hR _ _ c7
        have ck := Keeps.of_below hR _ _ ck
        have cw := Keeps.of_below hR _ _ cw
        go_simp
        (try go_bits)
        exact hN _ _ (Below.refl _ _) rfl
      · refine ZA rfl fun A W hR h N hN => ?_
        refine ZV N ?_
        obtain ⟨h169, h172, _⟩ := h
        replace h169 : A.tmps[169]?.getD undef = _ := h169
        replace h172 : A.tmps[172]?.getD undef = _ := h172
        go_simp
        (try go_bits)
        exact hN _ _ (Below.refl _ _) rfl
      · exact Yz rfl (.inl rfl) fun A W _ h => h.1 _ rfl
      · refine ZA rfl fun A W hR h N hN => ?_
        refine ZV N ?_
        obtain ⟨h8, h174, _⟩ := h
        have h8 := h8 _ rfl
        replace h174 : A.tmps[174]?.getD undef = _ := h174
        go_simp
        (try go_bits)
        exact hN _ _ (Below.refl _ _) rfl
      · refine ZA rfl fun A W hR h N hN => ?_
        refine ZV N ?_
        obtain ⟨h175, _⟩ := h
        replace h175 : A.tmps[175]?.getD undef = _ := h175
        have c5_ := Keeps.of_below hR _ _ c5_
        have c6 := Keeps.of_below hR _ _ c6
        have c7 := Keeps.of_below hR _ _ c7
        have ck := Keeps.of_below hR _ _ ck
        have cw := Keeps.of_below hR _ _ cw
        go_simp
        (try go_bits)
        exact hN _ _ (Below.refl _ _) rfl
      · refine ZA rfl fun A W hR h N hN => ?_
        refine ZV N ?_
        obtain ⟨h173, h176, _⟩ := h
        replace h173 : A.tmps[173]?.getD undef = _ := h173
        replace h176 : A.tmps[176]?.getD undef = _ := h176
        go_simp
        (try go_bits)
        exact hN _ _ (Below.refl _ _) rfl
      · exact Yz rfl (.inr rfl) fun A W _ h => h.1
    case v1_fin =>
      intro fa fW fk hR he
      have e30 := he.2.2.2.2.2.2.2.2.2.2.2.2.2.2.2.2.2.2.2.2.2.2.2.2.2.2.2.2.2.2.1
      clear he
      replace e30 : fa.tmps[18]?.getD undef = _ := e30
      replace fk := fk.more 18 _ e30
      clear e30
      have h := HS.out.next hR
      have h15 := YG hR H15.out
      have c0 := Keeps.of_below hR _ _ c0
      have c1 := Keeps.of_below hR _ _ c1
      have c2 := Keeps.of_below hR _ _ c2
      have c3 := Keeps.of_below hR _ _ c3
      have c4 := Keeps.of_below hR _ _ c4
      have c5_ := Keeps.of_below hR _ _ c5_
      have c6 := Keeps.of_below hR _ _ c6
      have c7 := Keeps.of_below hR _ _ c7
      clear HS H15 ck cw
      have HS := Lib.hid h
      have H15 := Lib.hid h15
      clear h hR h15
      refine kq_of _ _ ?_ fk
      clear fk fa
      simp only [nrm, lk, Nat.reduceBEq, cond_true, cond_false, List.take_succ_cons, List.take_zero, List.drop_succ_cons, List.drop_zero]
      rw [shaX_code2]
      obtain ⟨X, hX⟩ : ∃ X, shaX t xk xw = X := ⟨_, rfl⟩
      rw [hX]
      have HX := Lib.hid hX
      clear hX
      repeat (first | refine Zv ?_ | refine Zs ?_ | refine Zu ?_ | refine Zc ?_ | refine Zq ?_ | refine Zm ?_ | refine Zp ?_ | refine Zw ?_ | refine Zf ?_ | refine Zd rfl ?_ | refine Zj rfl ?_ | refine Ze ?_ | refine Z3 ?_ | refine Zk ?_ | refine Zg ?_ | refine Zi ?_ | refine Zy rfl ?_ | refine Zx rfl ?_ | refine Zz rfl rfl ?_ | refine Zt rfl rfl rfl rfl ?_ | refine Zr rfl rfl rfl ?_ | (first | refine Zb rfl rfl (.inl rfl) rfl rfl ?_ | refine Zb rfl rfl (.inr rfl) rfl rfl ?_ | refine Za rfl rfl (.inl rfl) rfl ?_ | refine Za rfl rfl (.inr rfl) rfl ?_) | ((first | refine Zn rfl rfl rfl fun K hK => ?_ | refine Zh rfl rfl rfl fun K hK => ?_); go_simp; (try go_bits); (first | refine hK _ _ ?_ | refine hK _ ?_); clear hK K))
      refine KW.less [2, 3, 4, 5, 8, 9, 15, 16, 17, 18] ?_
      simp only [nrm, lk, Nat.reduceBEq, cond_true, cond_false]
      refine WP [none, none, none, none, none, none, none, none, none, none, none, none, none, none, none, none, none, none, none, none, none, none, none, none, none, none, none, none, none, none]
        [[(15, none)], [(178, some 0)], [(179, some 1)], [(15, none)], [(181, some 3)], [(182, some 4)], [(180, some 2), (183, some 5)], [(15, none)], [(185, some 7)], [(186, some 8)], [(184, some 6), (187, some 9)], [(15, none)], [(189, some 11)], [(15, none)], [(191, some 13)], [(190, some 12), (192, some 14)], [(15, none)], [(194, some 16)], [(15, none)], [(196, some 18)], [(195, some 17), (197, some 19)], [(193, some 15), (198, some 20)], [(15, none)], [(200, some 22)], [(15, none)], [(202, some 24)], [(201, some 23), (203, some 25)], [(199, some 21), (204, some 26)], [(188, some 10), (205, some 27)], [(206, some 28)]]
        [2, 3, 4, 5, 8, 9, 15, 16, 17, 18] (by kernel_rfl) (by kernel_rfl) (by kernel_rfl) (by kernel_rfl)
        trivial ?_
      repeat (first | apply W5 | apply W8)
      refine exs_nil (And.intro ?v2_vc ?v2_fin)
      case v2_vc =>
        refine ⟨?_, ?_, ?_, ?_, ?_, ?_, ?_, ?_, ?_, ?_, ?_, ?_, ?_, ?_, ?_, ?_, ?_, ?_, ?_, ?_, ?_, ?_, ?_, ?_, ?_, ?_, ?_, ?_, ?_, ?_, trivial⟩
        · refine ZA rfl fun A W hR h N hN => ?_
          refine ZV N ?_
          obtain ⟨h15, _⟩ := h
          have h15 := h15 _ rfl
          go_simp
          (try go_bits)
          exact hN _ _ (Below.refl _ _) rfl
        · refine ZA rfl fun A W hR h N hN => ?_
          refine ZV N ?_
          obtain ⟨h178, _⟩ := h
          replace h178 : A.tmps[178]?.getD undef = _ := h178
          have c0 := Keeps.of_below hR _ _ c0
          have c1 := Keeps.of_below hR _ _ c1
          have c2 := Keeps.of_below hR _ _ c2
          go_simp
          (try go_bits)
          exact hN _ _ (Below.refl _ _) rfl
        · refine XF rfl rfl Try.func42 rfl (by kernel_rfl) fun A W hR h => ?_
          obtain ⟨h179, _⟩ := h
          replace h179 : A.tmps[179]?.getD undef = _ := h179
          show Calls _ _ #[A.tmps[179]?.getD undef, _] _ _
          rw [h179]
          refine Calls.mono (WI t.a 2 2 rfl (by omega) (by omega) _) ?_
          rintro e W' ⟨rfl, rfl⟩
          exact ⟨_, rfl, Below.refl _ _, rfl⟩
        · refine ZA rfl fun A W hR h N hN => ?_
          refine ZV N ?_
          obtain ⟨h15, _⟩ := h
          have h15 := h15 _ rfl
          go_simp
          (try go_bits)
          exact hN _ _ (Below.refl _ _) rfl
        · refine ZA rfl fun A W hR h N hN => ?_
          refine ZV N ?_
          obtain ⟨h181, _⟩ := h
          replace h181 : A.tmps[181]?.getD undef = _ := h181
          have c0 := Keeps.of_below hR _ _ c0
          have c1 := Keeps.of_below hR _ _ c1
          have c2 := Keeps.of_below hR _ _ c2
          go_simp
          (try go_bits)
          exact hN _ _ (Below.refl _ _) rfl
        · refine XF rfl rfl Try.func42 rfl (by kernel_rfl) fun A W hR h => ?_
          obtain ⟨h182, _⟩ := h
          replace h182 : A.tmps[182]?.getD undef = _ := h182
          show Calls _ _ #[A.tmps[182]?.getD undef, _] _ _
          rw [h182]
          refine Calls.mono (WI t.a 13 13 rfl (by omega) (by omega) _) ?_
          rintro e W' ⟨rfl, rfl⟩
          exact ⟨_, rfl, Below.refl _ _, rfl⟩
        · refine ZA rfl fun A W hR h N hN => ?_
          refine ZV N ?_
          obtain ⟨h180, h183, _⟩ := h
          replace h180 : A.tmps[180]?.getD undef = _ := h180
          replace h183 : A.tmps[183]?.getD undef = _ := h183
          go_simp
          (try go_bits)
          exact hN _ _ (Below.refl _ _) rfl
        · refine ZA rfl fun A W hR h N hN => ?_
          refine ZV N ?_
          obtain ⟨h15, _⟩ := h
          have h15 := h15 _ rfl
          go_simp
          (try go_bits)
          exact hN _ _ (Below.refl _ _) rfl
        · refine ZA rfl fun A W hR h N hN => ?_
          refine ZV N ?_
          obtain ⟨h185, _⟩ := h
          replace h185 : A.tmps[185]?.getD undef = _ := h185
          have c0 := Keeps.of_below hR _ _ c0
          have c1 := Keeps.of_below hR _ _ c1
          have c2 := Keeps.of_below hR _ _ c2
          go_simp
          (try go_bits)
          exact hN _ _ (Below.refl _ _) rfl
        · refine XF rfl rfl Try.func42 rfl (by kernel_rfl) fun A W hR h => ?_
          obtain ⟨h186, _⟩ := h
          replace h186 : A.tmps[186]?.getD undef = _ := h186
          show Calls _ _ #[A.tmps[186]?.getD undef, _] _ _
          rw [h186]
          refine Calls.mono (WI t.a 22 22 rfl (by omega) (by omega) _) ?_
          rintro e W' ⟨rfl, rfl⟩
          exact ⟨_, rfl, Below.refl _ _, rfl⟩
        · refine ZA rfl fun A W hR h N hN => ?_
          refine ZV N ?_
          obtain ⟨h184, h187, _⟩ := h
          replace h184 : A.tmps[184]?.getD undef = _ := h184
          replace h187 : A.tmps[187]?.getD undef = _ := h187
          go_simp
          (try go_bits)
          exact hN _ _ (Below.refl _ _) rfl
        · refine ZA rfl fun A W hR h N hN => ?_
          refine ZV N ?_
          obtain ⟨h15, _⟩ := h
          have h15 := h15 _ rfl
          go_simp
          (try go_bits)
          exact hN _ _ (Below.refl _ _) rfl
        · refine ZA rfl fun A W hR h N hN => ?_
          refine ZV N ?_
          obtain ⟨h189, _⟩ := h
          replace h189 : A.tmps[189]?.getD undef = _ := h189
          have c0 := Keeps.of_below hR _ _ c0
          have c1 := Keeps.of_below hR _ _ c1
          have c2 := Keeps.of_below hR _ _ c2
          go_simp
          (try go_bits)
          exact hN _ _ (Below.refl _ _) rfl
        · refine ZA rfl fun A W hR h N hN => ?_
          refine ZV N ?_
          obtain ⟨h15, _⟩ := h
          have h15 := h15 _ rfl
          go_simp
          (try go_bits)
          exact hN _ _ (Below.refl _ _) rfl
        · refine ZA rfl fun A W hR h N hN => ?_
          refine ZV N ?_
          obtain ⟨h191, _⟩ := h
          replace h191 : A.tmps[191]?.getD undef = _ := h191
          have c0 := Keeps.of_below hR _ _ c0
          have c1 := Keeps.of_below hR _ _ c1
          have c2 := Keeps.of_below hR _ _ c2
          go_simp
          (try go_bits)
          exact hN _ _ (Below.refl _ _) rfl
        · refine ZA rfl fun A W hR h N hN => ?_
          refine ZV N ?_
          obtain ⟨h190, h192, _⟩ := h
          replace h190 : A.tmps[190]?.getD undef = _ := h190
          replace h192 : A.tmps[192]?.getD undef = _ := h192
          go_simp
          (try go_bits)
          exact hN _ _ (Below.refl _ _) rfl
        · refine ZA rfl fun A W hR h N hN => ?_
          refine ZV N ?_
          obtain ⟨h15, _⟩ := h
          have h15 := h15 _ rfl
          go_simp
          (try go_bits)
          exact hN _ _ (Below.refl _ _) rfl
        · refine ZA rfl fun A W hR h N hN => ?_
          refine ZV N ?_
          obtain ⟨h194, _⟩ := h
          replace h194 : A.tmps[194]?.getD undef = _ := h194
          have c0 := Keeps.of_below hR _ _ c0
          have c1 := Keeps.of_below hR _ _ c1
          have c2 := Keeps.of_below hR _ _ c2
          go_simp
          (try go_bits)
          exact hN _ _ (Below.refl _ _) rfl
        · refine ZA rfl fun A W hR h N hN => ?_
          refine ZV N ?_
          obtain ⟨h15, _⟩ := h
          have h15 := h15 _ rfl
          go_simp
          (try go_bits)
          exact hN _ _ (Below.refl _ _) rfl
        · refine ZA rfl fun A W hR h N hN => ?_
          refine ZV N ?_
          obtain ⟨h196, _⟩ := h
          replace h196 : A.tmps[196]?.getD undef = _ := h196
          have c0 := Keeps.of_below hR _ _ c0
          have c1 := Keeps.of_below hR _ _ c1
          have c2 := Keeps.of_below hR _ _ c2
          go_simp
          (try go_bits)
          exact hN _ _ (Below.refl _ _) rfl
        · refine ZA rfl fun A W hR h N hN => ?_
          refine ZV N ?_
          obtain ⟨h195, h197, _⟩ := h
          replace h195 : A.tmps[195]?.getD undef = _ := h195
          replace h197 : A.tmps[197]?.getD undef = _ := h197
          go_simp
          (try go_bits)
          exact hN _ _ (Below.refl _ _) rfl
        · refine ZA rfl fun A W hR h N hN => ?_
          refine ZV N ?_
          obtain ⟨h193, h198, _⟩ := h
          replace h193 : A.tmps[193]?.getD undef = _ := h193
          replace h198 : A.tmps[198]?.getD undef = _ := h198
          go_simp
          (try go_bits)
          exact hN _ _ (Below.refl _ _) rfl
        · refine ZA rfl fun A W hR h N hN => ?_
          refine ZV N ?_
          obtain ⟨h15, _⟩ := h
          have h15 := h15 _ rfl
          go_simp
          (try go_bits)
          exact hN _ _ (Below.refl _ _) rfl
        · refine ZA rfl fun A W hR h N hN => ?_
          refine ZV N ?_
          obtain ⟨h200, _⟩ := h
          replace h200 : A.tmps[200]?.getD undef = _ := h200
          have c0 := Keeps.of_below hR _ _ c0
          have c1 := Keeps.of_below hR _ _ c1
          have c2 := Keeps.of_below hR _ _ c2
          go_simp
          (try go_bits)
          exact hN _ _ (Below.refl _ _) rfl
        · refine ZA rfl fun A W hR h N hN => ?_
          refine ZV N ?_
          obtain ⟨h15, _⟩ := h
          have h15 := h15 _ rfl
          go_simp
          (try go_bits)
          exact hN _ _ (Below.refl _ _) rfl
        · refine ZA rfl fun A W hR h N hN => ?_
          refine ZV N ?_
          obtain ⟨h202, _⟩ := h
          replace h202 : A.tmps[202]?.getD undef = _ := h202
          have c0 := Keeps.of_below hR _ _ c0
          have c1 := Keeps.of_below hR _ _ c1
          have c2 := Keeps.of_below hR _ _ c2
          go_simp
          (try go_bits)
          exact hN _ _ (Below.refl _ _) rfl
        · refine ZA rfl fun A W hR h N hN => ?_
          refine ZV N ?_
          obtain ⟨h201, h203, _⟩ := h
          replace h201 : A.tmps[201]?.getD undef = _ := h201
          replace h203 : A.tmps[203]?.getD undef = _ := h203
          go_simp
          (try go_bits)
          exact hN _ _ (Below.refl _ _) rfl
        · refine ZA rfl fun A W hR h N hN => ?_
          refine ZV N ?_
          obtain ⟨h199, h204, _⟩ := h
          replace h199 : A.tmps[199]?.getD undef = _ := h199
          replace h204 : A.tmps[204]?.getD undef = _ := h204
          go_simp
          (try go_bits)
          exact hN _ _ (Below.refl _ _) rfl
        · refine ZA rfl fun A W hR h N hN => ?_
          refine ZV N ?_
          obtain ⟨h188, h205, _⟩ := h
          replace h188 : A.tmps[188]?.getD undef = _ := h188
          replace h205 : A.tmps[205]?.getD undef = _ := h205
          go_simp
          (try go_bits)
          exact hN _ _ (Below.refl _ _) rfl
        · exact Yz rfl (.inr rfl) fun A W _ h => h.1
      case v2_fin =>
        intro fa fW fk hR he
        have e29 := he.2.2.2.2.2.2.2.2.2.2.2.2.2.2.2.2.2.2.2.2.2.2.2.2.2.2.2.2.2.1
        clear he
        replace e29 : fa.tmps[19]?.getD undef = _ := e29
        replace fk := fk.more 19 _ e29
        clear e29
        have h := HS.out.next hR
        have h15 := YG hR H15.out
        have c0 := Keeps.of_below hR _ _ c0
        have c1 := Keeps.of_below hR _ _ c1
        have c2 := Keeps.of_below hR _ _ c2
        have c3 := Keeps.of_below hR _ _ c3
        have c4 := Keeps.of_below hR _ _ c4
        have c5_ := Keeps.of_below hR _ _ c5_
        have c6 := Keeps.of_below hR _ _ c6
        have c7 := Keeps.of_below hR _ _ c7
        clear HS H15
        have HS := Lib.hid h
        have H15 := Lib.hid h15
        clear h hR h15
        refine kq_of _ _ ?_ fk
        clear fk fa
        simp only [nrm, lk, Nat.reduceBEq, cond_true, cond_false, List.take_succ_cons, List.take_zero, List.drop_succ_cons, List.drop_zero]
        rw [shaY_code2]
        obtain ⟨Y, hY⟩ : ∃ Y, shaY t = Y := ⟨_, rfl⟩
        rw [hY]
        have HY := Lib.hid hY
        clear hY
        obtain ⟨Z, hZ⟩ : ∃ Z, X + Y = Z := ⟨_, rfl⟩
        obtain ⟨D, hD⟩ : ∃ D, t.d + X = D := ⟨_, rfl⟩
        have a1 := Xt X Y
        have a2 := Xr X Y
        have a3 := Xt t.d X
        have a4 := Xr t.d X
        rw [hZ] at a1 a2
        rw [hD] at a3 a4
        have HZ' := Lib.hid hZ
        have HD := Lib.hid hD
        clear hZ hD
        repeat (first | refine Zv ?_ | refine Zs ?_ | refine Zu ?_ | refine Zc ?_ | refine Zq ?_ | refine Zm ?_ | refine Zp ?_ | refine Zw ?_ | refine Zf ?_ | refine Zd rfl ?_ | refine Zj rfl ?_ | refine Ze ?_ | refine Z3 ?_ | refine Zk ?_ | refine Zg ?_ | refine Zi ?_ | refine Zy rfl ?_ | refine Zx rfl ?_ | refine Zz rfl rfl ?_ | refine Zt rfl rfl rfl rfl ?_ | refine Zr rfl rfl rfl ?_ | (first | refine Zb rfl rfl (.inl rfl) rfl rfl ?_ | refine Zb rfl rfl (.inr rfl) rfl rfl ?_ | refine Za rfl rfl (.inl rfl) rfl ?_ | refine Za rfl rfl (.inr rfl) rfl ?_) | ((first | refine Zn rfl rfl rfl fun K hK => ?_ | refine Zh rfl rfl rfl fun K hK => ?_); go_simp; (try go_bits); (first | refine hK _ _ ?_ | refine hK _ ?_); clear hK K))
        refine YR 83 g15 (wv (ShaSt.words ⟨Z, t.a, t.b, t.c, D, t.e, t.f, t.g⟩)).toArray _ _ H15.out (infoR _ rfl) (size8 _ _ rfl rfl) (X6 _) rfl rfl rfl rfl rfl ?_
        clear c0 c1 c2 c3 c4 c5_ c6 c7 a1 a2 a3 a4
        repeat (first | refine Zv ?_ | refine Zs ?_ | refine Zu ?_ | refine Zc ?_ | refine Zq ?_ | refine Zm ?_ | refine Zp ?_ | refine Zw ?_ | refine Zf ?_ | refine Zd rfl ?_ | refine Zj rfl ?_ | refine Ze ?_ | refine Z3 ?_ | refine Zk ?_ | refine Zg ?_ | refine Zi ?_ | refine Zy rfl ?_ | refine Zx rfl ?_ | refine Zz rfl rfl ?_ | refine Zt rfl rfl rfl rfl ?_ | refine Zr rfl rfl rfl ?_ | (first | refine Zb rfl rfl (.inl rfl) rfl rfl ?_ | refine Zb rfl rfl (.inr rfl) rfl rfl ?_ | refine Za rfl rfl (.inl rfl) rfl ?_ | refine Za rfl rfl (.inr rfl) rfl ?_) | ((first | refine Zn rfl rfl rfl fun K hK => ?_ | refine Zh rfl rfl rfl fun K hK => ?_); go_simp; (try go_bits); (first | refine hK _ _ ?_ | refine hK _ ?_); clear hK K))
        refine Yk (64 - (k + 1)) [2, 3, 4, 5, 8, 9, 15, 16] (by omega) ?_
        simp only [nrm, lk, Nat.reduceBEq, cond_true, cond_false]
        refine ⟨k + 1, ⟨Z, t.a, t.b, t.c, D, t.e, t.f, t.g⟩, by omega, rfl, ?_, by congr 1, HS.out.row15 ha15 _, ZQ H15.out⟩
        show _ = shaRound (rounds B s0 k) (ks.getD k 0) ((wl B 64).getD k 0)
        rw [← HT.out, HXK.out, hL.out, HXW.out]
        unfold shaRound
        rw [HX.out, HY.out, HZ'.out, HD.out]
  · obtain rfl : k = 64 := by omega
    clear h h15
    repeat (first | refine Zv ?_ | refine Zs ?_ | refine Zu ?_ | refine Zc ?_ | refine Zq ?_ | refine Zm ?_ | refine Zp ?_ | refine Zw ?_ | refine Zf ?_ | refine Zd rfl ?_ | refine Zj rfl ?_ | refine Ze ?_ | refine Z3 ?_ | refine Zk ?_ | refine Zg ?_ | refine Zi ?_ | refine Zy rfl ?_ | refine Zx rfl ?_ | refine Zz rfl rfl ?_ | refine Zt rfl rfl rfl rfl ?_ | refine Zr rfl rfl rfl ?_ | (first | refine Zb rfl rfl (.inl rfl) rfl rfl ?_ | refine Zb rfl rfl (.inr rfl) rfl rfl ?_ | refine Za rfl rfl (.inl rfl) rfl ?_ | refine Za rfl rfl (.inr rfl) rfl ?_) | ((first | refine Zn rfl rfl rfl fun K hK => ?_ | refine Zh rfl rfl rfl fun K hK => ?_); go_simp; (try go_bits); (first | refine hK _ _ ?_ | refine hK _ ?_); clear hK K))
    refine KQ.less [2, 3, 4, 5, 8, 9, 15] ?_
    simp only [nrm, lk, Nat.reduceBEq, cond_true, cond_false]
    exact HQ.out _ HS.out (by rw [← HT.out]; exact H15.out)
end Go.Proofs.Ytkncomkncfcecaa
